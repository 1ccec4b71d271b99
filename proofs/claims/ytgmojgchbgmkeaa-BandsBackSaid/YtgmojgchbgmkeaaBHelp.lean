/-
  Bands: the law's own helpers: two lists compared, the first written over. Conditions: those of each theorem.
-/
import Derived.Test.YtgmojgchbgmkeaaBCell
import Derived.Test.YtgmojgchbgmkeaaBRef3
namespace Go.Proofs.Ytgmojgchbgmkeaa
open Go.ChangeShapes Go.WideShapes Go.ChangeAt Go.RowKit Go.Deep

theorem cells_nil (A B : Option Addr) (ca cb : Nat) (w : World) : Calls Try.prog 12 #[.slice A 0 ca, .slice B 0 cb] w fun e w' => e = .returned (.bool true) ∧ Below w.heap.size w w' := by
  go_enter Try.func12, Try.ntmps12
  go_wp2_with fail
  go_loopw [5, 6] (fun s5 s6 wr => s5 = .bool true ∧ s6 = .int .i64 0 ∧ wr = w) (fun _ _ _ => 0)
  case atStart => exact ⟨rfl, rfl, rfl⟩
  case round =>
    obtain ⟨rfl, rfl, hwr⟩ := hrel
    obtain rfl := hwr.symm
    go_wp2_with fail
    go_ret
    exact ⟨rfl, bel_refl _⟩
set_option maxHeartbeats 3200000 in
set_option maxRecDepth 100000 in
theorem cells_own (L : List Cl) (g : Nat) (cur : Array Value) (B : Option Addr) (ca cb : Nat) (w : World) (hA : Lies KC w (some ⟨g, 0, none⟩) L) (hg : Blk w g 33 cur) (hsz : L.length * 2 ≤ cur.size) (hB : Lies KC w B L) (hne : ∀ b off, B = some ⟨b, off, none⟩ → b ≠ g) (hlen : L.length * 2 ≤ 140737488355328) :
    Calls Try.prog 12 #[.slice (some ⟨g, 0, none⟩) L.length ca, .slice B L.length cb] w fun e w' => e = .returned (.bool true) ∧ Frm (fun z => z = g) w w' := by
  go_enter Try.func12, Try.ntmps12
  go_wp2_with fail
  go_loopw [5, 6] (fun s5 s6 wr => ∃ (i : Nat) (cu : Array Value), i ≤ L.length ∧ s5 = .bool true ∧ s6 = .int .i64 i ∧ Blk wr g 33 cu ∧ cu.size = cur.size ∧ Hid (∀ j, i * 2 ≤ j → cu[j]? = cur[j]?) ∧ Frm (fun z => z = g) w wr) (fun _ s6 _ => L.length - (intOf s6).toNat)
  case atStart => exact ⟨0, cur, Nat.zero_le _, rfl, rfl, hg, rfl, Lib.hid (fun _ _ => rfl), Frm.refl _ _⟩
  case round =>
    obtain ⟨i, cu, hi, rfl, rfl, hgr, hcz, HC, hW⟩ := hrel
    by_cases hil : i < L.length
    · obtain ⟨x, hx⟩ : ∃ x, L[i]? = some x := ⟨_, List.getElem?_eq_getElem hil⟩
      obtain ⟨ga, oa, hAe, hga, a0, a1⟩ := cl_at hA hx
      injection hAe with hAe
      injection hAe with hAe1 hAe2 _
      subst hAe1 hAe2
      obtain ⟨gb, ob, hBe, hgb, b0, b1⟩ := cl_at hB hx
      subst hBe
      have hbg := hne gb ob rfl
      simp only [Nat.zero_add] at a0 a1
      have e0 := (hgr.rd (i * 2)).trans ((HC.out (i * 2) (by omega)).trans ((hg.rd (i * 2)).symm.trans a0))
      have e1 := (hgr.rd (i * 2 + 1)).trans ((HC.out (i * 2 + 1) (by omega)).trans ((hg.rd (i * 2 + 1)).symm.trans a1))
      have d0 := fun d os => cell_regrown e0 d os
      have d1 := fun d os => cell_regrown e1 d os
      have f0 := fun d os => cell_regrown ((hW.cell hgb (by exact hbg) _).trans b0) d os
      have f1 := fun d os => cell_regrown ((hW.cell hgb (by exact hbg) _).trans b1) d os
      have hE : ∀ W, (binOp .eql 33 (.agg #[.int .i64 x.row, .int .i64 x.col]) (.agg #[.int .i64 x.row, .int .i64 x.col])).run Try.prog W = .ok (.bool true) W := fun W => by
        rw [eql_cell W x.row x.col x.row x.col]
        simp
      have i0 : (0 : Int) ≤ (i : Int) := by omega
      have i1 : (i : Int) < (L.length : Int) := by omega
      clear a0 b0 e0 a1 b1 e1 hga hx
      go_wp2_with fail
      refine wp_region_quiet_below (by kernel_rfl) (by kernel_rfl) ?_
      repeat (any_goals (first | go_big_quiet_step ((fail)) | fail))
      refine wpQuiet_nil ?_
      intro w5 hw'
      have hb5 := class_below hw'
      clear hw'
      have k5 := hgr.below hb5
      have ltg := k5.lt
      have fzg := k5.fz
      clear d0 f0 d1 f1 hE
      obtain ⟨u0, z0⟩ : ∃ u, w5.cell? ⟨g, i * 2, none⟩ = some u := ⟨_, (k5.rd _).trans (Array.getElem?_eq_getElem (by omega))⟩
      obtain ⟨u1, z1⟩ : ∃ u, w5.cell? ⟨g, i * 2 + 1, none⟩ = some u := ⟨_, (k5.rd _).trans (Array.getElem?_eq_getElem (by omega))⟩
      go_wp2_with fail
      go_roundw
      case rel => exact ⟨i + 1, _, by omega, rfl, by go_num, ((k5.put (i * 2) (.int .i64 (-1))).put (i * 2 + 1) (.int .i64 0)), by simpa using hcz, Lib.hid (fun j hj => by rw [Array.getElem?_setIfInBounds_ne (by omega), Array.getElem?_setIfInBounds_ne (by omega)]; exact HC.out j (by omega)), (((hW.call hb5).set (.inl rfl) _).set (.inl rfl) _)⟩
      case measure => simp [intOf]; omega
    · obtain rfl : i = L.length := by omega
      go_wp2_with fail
      go_ret
      exact ⟨rfl, hW⟩
theorem cells_any (L : List Cl) (A B : Option Addr) (ca cb : Nat) (w : World) (hA : Lies KC w A L) (hO : A = none ∨ ∃ (g : Nat) (cur : Array Value), A = some ⟨g, 0, none⟩ ∧ Blk w g 33 cur ∧ L.length * 2 ≤ cur.size) (hB : Lies KC w B L) (hne : ∀ b off g, B = some ⟨b, off, none⟩ → A = some ⟨g, 0, none⟩ → b ≠ g) (hlen : L.length * 2 ≤ 140737488355328) :
    Calls Try.prog 12 #[.slice A L.length ca, .slice B L.length cb] w fun e w' => e = .returned (.bool true) ∧ Frm (fun z => A = some ⟨z, 0, none⟩) w w' := by
  rcases hO with rfl | ⟨g, cur, rfl, hg, hs⟩
  · have h0 : L = [] := by
      cases L with
      | nil => rfl
      | cons x L =>
        obtain ⟨_, _, h, _⟩ := hA 0 x rfl
        cases h
    subst h0
    exact (cells_nil none B ca cb w).mono fun e w' ⟨h1, h2⟩ => ⟨h1, Frm.of_below h2⟩
  · refine (cells_own L g cur B ca cb w hA hg hs hB (fun b off h => hne b off g h rfl) hlen).mono fun e w' ⟨h1, h2⟩ => ⟨h1, h2.os, h2.tape, h2.output, h2.size, fun k hk hn => h2.block k hk (fun e => hn (by rw [e]))⟩
theorem edges_nil (A B : Option Addr) (ca cb : Nat) (w : World) : Calls Try.prog 15 #[.slice A 0 ca, .slice B 0 cb] w fun e w' => e = .returned (.bool true) ∧ Below w.heap.size w w' := by
  go_enter Try.func15, Try.ntmps15
  go_wp2_with fail
  go_loopw [5, 6] (fun s5 s6 wr => s5 = .bool true ∧ s6 = .int .i64 0 ∧ wr = w) (fun _ _ _ => 0)
  case atStart => exact ⟨rfl, rfl, rfl⟩
  case round =>
    obtain ⟨rfl, rfl, hwr⟩ := hrel
    obtain rfl := hwr.symm
    go_wp2_with fail
    go_ret
    exact ⟨rfl, bel_refl _⟩
set_option maxHeartbeats 3200000 in
set_option maxRecDepth 100000 in
theorem edges_own (L : List Pr) (g : Nat) (cur : Array Value) (B : Option Addr) (ca cb : Nat) (w : World) (hA : Lies KE w (some ⟨g, 0, none⟩) L) (hg : Blk w g 47 cur) (hsz : L.length * 7 ≤ cur.size) (hB : Lies KE w B L) (hne : ∀ b off, B = some ⟨b, off, none⟩ → b ≠ g) (hlen : L.length * 7 ≤ 140737488355328) :
    Calls Try.prog 15 #[.slice (some ⟨g, 0, none⟩) L.length ca, .slice B L.length cb] w fun e w' => e = .returned (.bool true) ∧ Frm (fun z => z = g) w w' := by
  go_enter Try.func15, Try.ntmps15
  go_wp2_with fail
  go_loopw [5, 6] (fun s5 s6 wr => ∃ (i : Nat) (cu : Array Value), i ≤ L.length ∧ s5 = .bool true ∧ s6 = .int .i64 i ∧ Blk wr g 47 cu ∧ cu.size = cur.size ∧ Hid (∀ j, i * 7 ≤ j → cu[j]? = cur[j]?) ∧ Frm (fun z => z = g) w wr) (fun _ s6 _ => L.length - (intOf s6).toNat)
  case atStart => exact ⟨0, cur, Nat.zero_le _, rfl, rfl, hg, rfl, Lib.hid (fun _ _ => rfl), Frm.refl _ _⟩
  case round =>
    obtain ⟨i, cu, hi, rfl, rfl, hgr, hcz, HC, hW⟩ := hrel
    by_cases hil : i < L.length
    · obtain ⟨x, hx⟩ : ∃ x, L[i]? = some x := ⟨_, List.getElem?_eq_getElem hil⟩
      obtain ⟨ga, oa, hAe, hga, a0, a1, a2, a3, a4, a5, a6⟩ := edge_at hA hx
      injection hAe with hAe
      injection hAe with hAe1 hAe2 _
      subst hAe1 hAe2
      obtain ⟨gb, ob, hBe, hgb, b0, b1, b2, b3, b4, b5, b6⟩ := edge_at hB hx
      subst hBe
      have hbg := hne gb ob rfl
      simp only [Nat.zero_add] at a0 a1 a2 a3 a4 a5 a6
      have e0 := (hgr.rd (i * 7)).trans ((HC.out (i * 7) (by omega)).trans ((hg.rd (i * 7)).symm.trans a0))
      have e1 := (hgr.rd (i * 7 + 1)).trans ((HC.out (i * 7 + 1) (by omega)).trans ((hg.rd (i * 7 + 1)).symm.trans a1))
      have e2 := (hgr.rd (i * 7 + 2)).trans ((HC.out (i * 7 + 2) (by omega)).trans ((hg.rd (i * 7 + 2)).symm.trans a2))
      have e3 := (hgr.rd (i * 7 + 3)).trans ((HC.out (i * 7 + 3) (by omega)).trans ((hg.rd (i * 7 + 3)).symm.trans a3))
      have e4 := (hgr.rd (i * 7 + 4)).trans ((HC.out (i * 7 + 4) (by omega)).trans ((hg.rd (i * 7 + 4)).symm.trans a4))
      have e5 := (hgr.rd (i * 7 + 5)).trans ((HC.out (i * 7 + 5) (by omega)).trans ((hg.rd (i * 7 + 5)).symm.trans a5))
      have e6 := (hgr.rd (i * 7 + 6)).trans ((HC.out (i * 7 + 6) (by omega)).trans ((hg.rd (i * 7 + 6)).symm.trans a6))
      have d0 := fun d os => cell_regrown e0 d os
      have d1 := fun d os => cell_regrown e1 d os
      have d2 := fun d os => cell_regrown e2 d os
      have d3 := fun d os => cell_regrown e3 d os
      have d4 := fun d os => cell_regrown e4 d os
      have d5 := fun d os => cell_regrown e5 d os
      have d6 := fun d os => cell_regrown e6 d os
      have f0 := fun d os => cell_regrown ((hW.cell hgb (by exact hbg) _).trans b0) d os
      have f1 := fun d os => cell_regrown ((hW.cell hgb (by exact hbg) _).trans b1) d os
      have f2 := fun d os => cell_regrown ((hW.cell hgb (by exact hbg) _).trans b2) d os
      have f3 := fun d os => cell_regrown ((hW.cell hgb (by exact hbg) _).trans b3) d os
      have f4 := fun d os => cell_regrown ((hW.cell hgb (by exact hbg) _).trans b4) d os
      have f5 := fun d os => cell_regrown ((hW.cell hgb (by exact hbg) _).trans b5) d os
      have f6 := fun d os => cell_regrown ((hW.cell hgb (by exact hbg) _).trans b6) d os
      have hE : ∀ W, (binOp .eql 47 (.agg #[.int .i64 x.row, .int .i64 x.col, .bool true, .int .i64 x.t, .int .i64 x.l, .int .i64 x.b, .int .i64 x.r]) (.agg #[.int .i64 x.row, .int .i64 x.col, .bool true, .int .i64 x.t, .int .i64 x.l, .int .i64 x.b, .int .i64 x.r])).run Try.prog W = .ok (.bool true) W := fun W => by
        rw [eql_edge W x.row x.col x.t x.l x.b x.r x.row x.col x.t x.l x.b x.r]
        simp
      have i0 : (0 : Int) ≤ (i : Int) := by omega
      have i1 : (i : Int) < (L.length : Int) := by omega
      clear a0 b0 e0 a1 b1 e1 a2 b2 e2 a3 b3 e3 a4 b4 e4 a5 b5 e5 a6 b6 e6 hga hx
      go_wp2_with fail
      refine wp_region_quiet_below (by kernel_rfl) (by kernel_rfl) ?_
      repeat (any_goals (first | go_big_quiet_step ((fail)) | fail))
      refine wpQuiet_nil ?_
      intro w5 hw'
      have hb5 := class_below hw'
      clear hw'
      have k5 := hgr.below hb5
      have ltg := k5.lt
      have fzg := k5.fz
      clear d0 f0 d1 f1 d2 f2 d3 f3 d4 f4 d5 f5 d6 f6 hE
      obtain ⟨u0, z0⟩ : ∃ u, w5.cell? ⟨g, i * 7, none⟩ = some u := ⟨_, (k5.rd _).trans (Array.getElem?_eq_getElem (by omega))⟩
      obtain ⟨u1, z1⟩ : ∃ u, w5.cell? ⟨g, i * 7 + 1, none⟩ = some u := ⟨_, (k5.rd _).trans (Array.getElem?_eq_getElem (by omega))⟩
      obtain ⟨u2, z2⟩ : ∃ u, w5.cell? ⟨g, i * 7 + 2, none⟩ = some u := ⟨_, (k5.rd _).trans (Array.getElem?_eq_getElem (by omega))⟩
      obtain ⟨u3, z3⟩ : ∃ u, w5.cell? ⟨g, i * 7 + 3, none⟩ = some u := ⟨_, (k5.rd _).trans (Array.getElem?_eq_getElem (by omega))⟩
      obtain ⟨u4, z4⟩ : ∃ u, w5.cell? ⟨g, i * 7 + 4, none⟩ = some u := ⟨_, (k5.rd _).trans (Array.getElem?_eq_getElem (by omega))⟩
      obtain ⟨u5, z5⟩ : ∃ u, w5.cell? ⟨g, i * 7 + 5, none⟩ = some u := ⟨_, (k5.rd _).trans (Array.getElem?_eq_getElem (by omega))⟩
      obtain ⟨u6, z6⟩ : ∃ u, w5.cell? ⟨g, i * 7 + 6, none⟩ = some u := ⟨_, (k5.rd _).trans (Array.getElem?_eq_getElem (by omega))⟩
      go_wp2_with fail
      go_roundw
      case rel => exact ⟨i + 1, _, by omega, rfl, by go_num, (((((((k5.put (i * 7) (.int .i64 (-1))).put (i * 7 + 1) (.int .i64 0)).put (i * 7 + 2) (.bool false)).put (i * 7 + 3) (.int .i64 0)).put (i * 7 + 4) (.int .i64 0)).put (i * 7 + 5) (.int .i64 0)).put (i * 7 + 6) (.int .i64 0)), by simpa using hcz, Lib.hid (fun j hj => by rw [Array.getElem?_setIfInBounds_ne (by omega), Array.getElem?_setIfInBounds_ne (by omega), Array.getElem?_setIfInBounds_ne (by omega), Array.getElem?_setIfInBounds_ne (by omega), Array.getElem?_setIfInBounds_ne (by omega), Array.getElem?_setIfInBounds_ne (by omega), Array.getElem?_setIfInBounds_ne (by omega)]; exact HC.out j (by omega)), ((((((((hW.call hb5).set (.inl rfl) _).set (.inl rfl) _).set (.inl rfl) _).set (.inl rfl) _).set (.inl rfl) _).set (.inl rfl) _).set (.inl rfl) _)⟩
      case measure => simp [intOf]; omega
    · obtain rfl : i = L.length := by omega
      go_wp2_with fail
      go_ret
      exact ⟨rfl, hW⟩
theorem edges_any (L : List Pr) (A B : Option Addr) (ca cb : Nat) (w : World) (hA : Lies KE w A L) (hO : A = none ∨ ∃ (g : Nat) (cur : Array Value), A = some ⟨g, 0, none⟩ ∧ Blk w g 47 cur ∧ L.length * 7 ≤ cur.size) (hB : Lies KE w B L) (hne : ∀ b off g, B = some ⟨b, off, none⟩ → A = some ⟨g, 0, none⟩ → b ≠ g) (hlen : L.length * 7 ≤ 140737488355328) :
    Calls Try.prog 15 #[.slice A L.length ca, .slice B L.length cb] w fun e w' => e = .returned (.bool true) ∧ Frm (fun z => A = some ⟨z, 0, none⟩) w w' := by
  rcases hO with rfl | ⟨g, cur, rfl, hg, hs⟩
  · have h0 : L = [] := by
      cases L with
      | nil => rfl
      | cons x L =>
        obtain ⟨_, _, h, _⟩ := hA 0 x rfl
        cases h
    subst h0
    exact (edges_nil none B ca cb w).mono fun e w' ⟨h1, h2⟩ => ⟨h1, Frm.of_below h2⟩
  · refine (edges_own L g cur B ca cb w hA hg hs hB (fun b off h => hne b off g h rfl) hlen).mono fun e w' ⟨h1, h2⟩ => ⟨h1, h2.os, h2.tape, h2.output, h2.size, fun k hk hn => h2.block k hk (fun e => hn (by rw [e]))⟩
end Go.Proofs.Ytgmojgchbgmkeaa

/-
  The walk of oriellaw15.StoreAlone: it returns true. Conditions: the deeds lie as said.
-/
import Derived.Test.YtiiiiplfcaeegaaSPlays
import Derived.Deep.RegionWith
import Derived.StillTailTactics
namespace Go.Proofs.Ytiiiiplfcaeegaa
open Go.ChangeShapes Go.WideShapes Go.ChangeAt Go.RowKit Go.Deep

def getG (g : Grid) (r c : Int) : Option Addr := if mayB r c = true then g (r - 1).toNat (c - 1).toNat else none
def dropG (g : Grid) (r c : Int) : Grid := if mayB r c = true then gset g (r - 1).toNat (c - 1).toNat none else g

theorem mayB_bd {r c : Int} (h : mayB r c = true) : 1 ≤ r ∧ r ≤ 4096 ∧ 1 ≤ c ∧ c ≤ 256 := by
  simp [mayB] at h
  omega

theorem sget_all {sb : Nat} {ch rb : Nat → Option Nat} {g : Grid} {cnt : Int} (r c : Int) (v : Option Addr) (hv : getG g r c = v) (w : World) (h : SIs w sb ch rb g cnt) :
    Calls Try.prog 14 #[.pointer (some ⟨sb, 0, none⟩), .agg #[.int .i64 r, .int .i64 c]] w fun e w' => e = .returned (.pointer v) ∧ Below w.heap.size w w' := by
  subst hv
  unfold getG
  cases hm : mayB r c with
  | false => exact sget_no r c w hm
  | true =>
    have := mayB_bd hm
    exact sget_any r c (r - 1).toNat (c - 1).toNat w h (by omega) (by omega) (by omega) (by omega)

theorem sdrop_all {sb : Nat} {ch rb : Nat → Option Nat} {g : Grid} {cnt : Int} (r c : Int) (w : World) (h : SIs w sb ch rb g cnt) :
    Calls Try.prog 20 #[.pointer (some ⟨sb, 0, none⟩), .agg #[.int .i64 r, .int .i64 c]] w fun e w' => ∃ code ch' rb' cnt', e = .returned (.int .i64 code) ∧
      SIs w' sb ch' rb' (dropG g r c) cnt' ∧ Frm (own sb ch rb) w w' ∧ ∀ b, own sb ch' rb' b → own sb ch rb b := by
  unfold dropG
  cases hm : mayB r c with
  | false =>
    refine (sdrop_no sb r c w hm).mono ?_
    rintro e w' ⟨rfl, hb⟩
    exact ⟨3, ch, rb, cnt, rfl, h.below hb, (Frm.refl _ w).call hb, fun _ h => h⟩
  | true =>
    have hbd := mayB_bd hm
    cases hg : g (r - 1).toNat (c - 1).toNat with
    | none =>
      refine (sdrop_nil' sb ch rb g cnt r c (r - 1).toNat (c - 1).toNat w h (by omega) (by omega) (by omega) (by omega) hg).mono ?_
      rintro e w' ⟨rfl, hb⟩
      exact ⟨0, ch, rb, cnt, rfl, by rw [if_pos rfl, gset_none hg]; exact h.below hb, (Frm.refl _ w).call hb, fun _ h => h⟩
    | some y =>
      refine (sdrop_yes' sb ch rb g cnt r c (r - 1).toNat (c - 1).toNat w h (by omega) (by omega) (by omega) (by omega) y hg).mono ?_
      rintro e w' ⟨rfl, ch', rb', hS, hF, hO⟩
      exact ⟨0, ch', rb', _, rfl, by rw [if_pos rfl]; exact hS, hF, hO⟩

/-! Plain: what one cell's turns do to another. -/
theorem cell_ne {r c r' c' : Int} (h : mayB r c = true) (h' : mayB r' c' = true) (hne : ¬ (r = r' ∧ c = c')) : ¬ ((r' - 1).toNat = (r - 1).toNat ∧ (c' - 1).toNat = (c - 1).toNat) := by
  have := mayB_bd h
  have := mayB_bd h'
  omega
theorem getG_putG_ne (g : Grid) {r c r' c' : Int} (x : Addr) (hne : ¬ (r = r' ∧ c = c')) : getG (putG g r c x) r' c' = getG g r' c' := by
  unfold getG putG
  cases hm : mayB r c with
  | false => rfl
  | true =>
    cases hm' : mayB r' c' with
    | false => rfl
    | true => exact gset_ne g _ _ (some x) (cell_ne hm hm' hne)
theorem getG_putG_same (g : Grid) {r c : Int} (x : Addr) (hm : mayB r c = true) : getG (putG g r c x) r c = some x := by
  simp [getG, putG, hm, gset_same]
theorem getG_dropG_ne (g : Grid) {r c r' c' : Int} (hne : ¬ (r = r' ∧ c = c')) : getG (dropG g r c) r' c' = getG g r' c' := by
  unfold getG dropG
  cases hm : mayB r c with
  | false => rfl
  | true =>
    cases hm' : mayB r' c' with
    | false => rfl
    | true => exact gset_ne g _ _ none (cell_ne hm hm' hne)
theorem getG_dropG_same (g : Grid) (r c : Int) : getG (dropG g r c) r c = none := by
  unfold getG dropG
  cases hm : mayB r c <;> simp [gset_same]
theorem total_putG (g : Grid) (r c : Int) (x : Addr) : (total (putG g r c x) : Int) = total g + if mayB r c = true ∧ getG g r c = none then 1 else 0 := by
  unfold putG getG
  cases hm : mayB r c with
  | false => simp
  | true =>
    have hbd := mayB_bd hm
    have := total_set g (r - 1).toNat (c - 1).toNat (some x) (by omega) (by omega)
    cases hg : g (r - 1).toNat (c - 1).toNat with
    | none => rw [hg] at this; simp at this ⊢; omega
    | some y => rw [hg] at this; simp at this ⊢; omega

theorem eqlP (w : World) (x : Option Addr) : (binOp .eql 27 (.pointer x) (.pointer x)).run Try.prog w = .ok (.bool true) w := by
  cases x with
  | none => kernel_rfl
  | some a => exact eql_same w a
theorem neqP (w : World) (x : Option Addr) : (binOp .neq 27 (.pointer x) (.pointer x)).run Try.prog w = .ok (.bool false) w := by
  cases x with
  | none => kernel_rfl
  | some a => exact neq_same w a

/-- A world of the class, behind a world that is below. -/
theorem bel_gr {a w : World} (h : Below a.heap.size a w) (d : Nat) (os : Array Obj) : Below a.heap.size a (Sort.grow (redrawn w d) os) := bel_call h (below_regrown w d os)
theorem own_gr {sb B : Nat} {ch rb ch' rb' : Nat → Option Nat} (h : ∀ z, own sb ch rb z → B ≤ z) {n : Nat} (hn : B ≤ n) (hO : ∀ z, own sb ch' rb' z → own sb ch rb z ∨ n ≤ z) : ∀ z, own sb ch' rb' z → B ≤ z := fun z hz => (hO z hz).elim (h z) (fun h => Nat.le_trans hn h)

theorem BIs.at0 {w : World} {bb sb yb lb lc : Nat} {Xs : List Addr} {ch rb : Nat → Option Nat} {cnt : Int} {L : List Itm} {A : Option Addr} {cap : Nat} (h : BIs w bb sb yb lb lc Xs ch rb cnt L A cap) {p : Nat} (hp : p < 8) {x : Addr} (hx : Xs[p]? = some x) : w.cell? ⟨lb, p, none⟩ = some (.pointer (some x)) := by
  obtain ⟨y, hy, hc⟩ := h.at_ hp
  rw [hx] at hy
  cases hy
  exact hc

set_option maxHeartbeats 6400000 in
set_option maxRecDepth 100000 in
theorem salone_walk (A : Option Addr) (len cap : Nat) (cr cc oR oC : Int) (w : World) (hC : DeedsAt w A len) (hlen : len ≤ 9223372036854775807) :
    Calls Try.prog 6 #[.slice A len cap, .agg #[.int .i64 cr, .int .i64 cc], .agg #[.int .i64 oR, .int .i64 oC]] w fun e w' => e = .returned (.bool true) ∧ Below w.heap.size w w' := by
  go_enter Try.func6, Try.ntmps6
  go_wp2_with fail
  refine (begin_any _).mono ?_
  rintro e w1 ⟨bb, sb, yb, lb, lc, Xs, rfl, hB, ⟨hsb, hyb, hbb, hlb⟩, hb1⟩
  simp only [World.size_alloc] at hsb hyb hbb hlb
  have k4 := ((Blk.new w rfl 41 #[.int .i64 cr, .int .i64 cc]).alloc (.cells #[.int .i64 oR, .int .i64 oC] 41)).below hb1
  have k5 := (Blk.new (w.alloc (.cells #[.int .i64 cr, .int .i64 cc] 41)) (g := w.heap.size + 1) (by simp) 41 #[.int .i64 oR, .int .i64 oC]).below hb1
  have hw := bel_call (bel_alloc (bel_alloc (bel_refl w) _) _) hb1
  have hO := OwnB.start hsb hyb
  have rdb := hB.top.rd
  have ltb := hB.top.lt
  clear hb1
  go_wp2_with fail
  clear rdb ltb
  go_loopw [8] (fun s8 wr => ∃ (k : Nat) (ch rb : Nat → Option Nat) (cnt : Int) (L : List Itm) (A' : Option Addr) (cap' : Nat), k ≤ len ∧ s8 = .int .i64 k ∧ BIs wr bb sb yb lb lc Xs ch rb cnt L A' cap' ∧ OwnB (w.heap.size + 1 + 1) sb yb ch rb ∧
      Blk wr w.heap.size 41 #[.int .i64 cr, .int .i64 cc] ∧ Blk wr (w.heap.size + 1) 41 #[.int .i64 oR, .int .i64 oC] ∧ Below w.heap.size w wr)
    (fun s8 _ => len - (intOf s8).toNat)
  case atStart => exact ⟨0, _, _, _, _, _, _, Nat.zero_le _, rfl, hB, hO, k4, k5, hw⟩
  case round =>
    obtain ⟨k, ch, rb, cnt, L, A', cap', hk, rfl, hB, hO, k4, k5, hW⟩ := hrel
    by_cases hkl : k < len
    · obtain ⟨b1, o1, d0, d1, d2, d3, d4, d5, d6, d7, hA1, hb1, ⟨c0, c1, c2, c3, c4, c5, c6, c7⟩, r0, r1, r2, r3, r7⟩ := hC k hkl
      subst hA1
      replace c0 := (hW.cell hb1).trans c0
      replace c1 := (hW.cell hb1).trans c1
      replace c2 := (hW.cell hb1).trans c2
      replace c3 := (hW.cell hb1).trans c3
      replace c4 := (hW.cell hb1).trans c4
      replace c5 := (hW.cell hb1).trans c5
      replace c6 := (hW.cell hb1).trans c6
      replace c7 := (hW.cell hb1).trans c7
      go_wp2_with fail
      refine (does_any hB d0 d1 d2 d3 d4 d5 d6 d7 r0 r7 r3.2 r1.2 r2.1).mono ?_
      rintro e w3 ⟨rfl, ch', rb', cnt', L', A2, cap2, hB', hF, hO'⟩
      have hsz4 := k5.lt
      have hOx := hO.next hsz4 hO'
      replace hW := hF.bel hW (fun z hz => by have := hO z hz; omega)
      replace k4 := hF.blk k4 (fun hz => by have := hO _ hz; omega)
      replace k5 := hF.blk k5 (fun hz => by have := hO _ hz; omega)
      clear c0 c1 c2 c3 c4 c5 c6 c7 hB hO hO' hF
      go_wp2_with fail
      go_roundw
      case rel => exact ⟨k + 1, ch', rb', _, L', A2, cap2, by omega, by go_num, hB', hOx, k4, k5, hW⟩
      case measure => simp [intOf]; omega
    · have rd4 := k4.rd
      have rd5 := k5.rd
      by_cases hco : cr = oR ∧ cc = oC
      · obtain ⟨rfl, rfl⟩ := hco
        go_wp2_with fail
        refine (lives_any _).mono ?_
        rintro e w4 ⟨rfl, hb4⟩
        have hWy := bel_call hW hb4
        go_wp2_with fail
        go_ret
        exact ⟨rfl, hWy⟩
      · obtain ⟨x0, hx0, hc0⟩ := hB.at_ (p := 0) (by omega)
        obtain rfl := hB.cnt_is
        have hcap := hB.cap
        obtain ⟨was, hwas⟩ : ∃ x, getG (gOf Xs L) oR oC = x := ⟨_, rfl⟩
        obtain ⟨v, hv⟩ : ∃ x, getG (gOf Xs L) cr cc = x := ⟨_, rfl⟩
        have HTot := Lib.hid (total_putG (gOf Xs L) cr cc x0)
        have HL := Lib.hid hB.cnt_is
        have HW2 := Lib.hid ((getG_putG_ne (gOf Xs L) x0 hco).trans hwas)
        have HW3 := Lib.hid ((getG_dropG_ne (putG (gOf Xs L) cr cc x0) hco).trans HW2.out)
        have HC3 := Lib.hid (getG_dropG_same (putG (gOf Xs L) cr cc x0) cr cc)
        have HC2 := Lib.hid (fun hm => getG_putG_same (gOf Xs L) (r := cr) (c := cc) x0 hm)
        have HG := Lib.hid (total_gOf Xs hB.srt)
        have HWAS := Lib.hid hwas
        have HV := Lib.hid hv
        have heq := eqlP
        have hnq := neqP
        have HX0 := Lib.hid hx0
        clear hwas hv hx0
        have hT := hB.top
        have hS := hB.sto
        obtain ⟨pc, hpc⟩ : ∃ x, pcode cr cc = x := ⟨_, rfl⟩
        obtain ⟨had, hhad⟩ : ∃ had : Bool, (pc = 3 ∧ v = none ∧ mayB cr cc = false ∧ had = false) ∨ (pc = 0 ∧ mayB cr cc = true ∧ had = v.isSome) := by
          unfold pcode at hpc
          cases hm : mayB cr cc with
          | false => exact ⟨false, .inl ⟨by rw [← hpc, hm]; rfl, by rw [← HV.out]; simp [getG, hm], rfl, rfl⟩⟩
          | true => exact ⟨v.isSome, .inr ⟨by rw [← hpc, hm]; rfl, rfl, rfl⟩⟩
        have HPC := Lib.hid hpc
        clear hpc
        rcases (show (¬ cr = oR) ∨ (cr = oR ∧ ¬ cc = oC) by omega) with h1 | ⟨rfl, h1⟩
        all_goals
          clear hco
          go_wp2_with fail
          have g4 := k4.gr
          have g5 := k5.gr
          have gt := hT.gr
          refine wp_region_quiet_below (by kernel_rfl) (by kernel_rfl) ?_
          repeat (any_goals (first | go_big_quiet_step ((first | (go_at_call 14; with_reducible exact Calls.regrown_of (sget_all _ _ _ HWAS.out _ (hS.below (below_regrown _ _ _)))))) | fail))
          refine wpQuiet_nil ?_
          intro w3 hw'
          have hb3 := class_below hw'
          clear hw'
          have hB3 := hB.below hb3
          replace hT := hT.below hb3
          replace hS := hS.below hb3
          replace k4 := k4.below hb3
          replace k5 := k5.below hb3
          replace hW := bel_call hW hb3
          clear hb3 g4 g5 gt rd4 rd5 h1 hB hc0
          have rt := hT.rd
          go_wp2_with fail
          refine (scount_any _ hS).mono ?_
          rintro e w4 ⟨rfl, rfl⟩
          go_wp2_with fail
          clear rt
          have hcnt : ((total (putG (gOf Xs L) cr cc x0) : Nat) : Int) = (L.length : Int) + (if mayB cr cc = true ∧ v = none then 1 else 0) := by
            rw [HTot.out, HG.out, HV.out]
          obtain ⟨dn, hdn⟩ : ∃ dn : Int, (if mayB cr cc = true ∧ v = none then 1 else 0) = dn := ⟨_, rfl⟩
          rw [hdn] at hcnt
          have HDN : Hid ((total (putG (gOf Xs L) cr cc x0) : Int) = (L.length : Int) + dn) := hcnt
          clear hcnt
          have hcase : (pc = 3 ∧ v = none ∧ had = false ∧ dn = 0) ∨ (pc = 0 ∧ mayB cr cc = true ∧ v = none ∧ had = false ∧ dn = 1) ∨ (pc = 0 ∧ mayB cr cc = true ∧ (∃ y, v = some y) ∧ had = true ∧ dn = 0) := by
            subst hdn
            rcases hhad with ⟨h1, h2, h3, h4⟩ | ⟨h1, h2, h3⟩
            · exact .inl ⟨h1, h2, h4, by simp [h3]⟩
            · cases v with
              | none => exact .inr (.inl ⟨h1, h2, rfl, h3, by simp [h2]⟩)
              | some y => exact .inr (.inr ⟨h1, h2, ⟨y, rfl⟩, h3, by simp⟩)
          clear hhad hdn
          rcases hcase with ⟨rfl, rfl, rfl, rfl⟩ | ⟨rfl, hm, rfl, rfl, rfl⟩ | ⟨rfl, hm, ⟨y, rfl⟩, rfl, rfl⟩
          all_goals
            try (have HC2' := Lib.hid (HC2.out hm); clear hm)
            have g4 := k4.gr
            have g5 := k5.gr
            have gt := hT.gr
            refine wp_region_quiet_below (by kernel_rfl) (by kernel_rfl) ?_
            repeat (any_goals (first | go_big_quiet_step ((first | (go_at_call 14; with_reducible exact Calls.regrown_of (sget_all _ _ _ HV.out _ (hS.below (below_regrown _ _ _)))))) | fail))
            refine wpQuiet_nil ?_
            intro w5 hw'
            have hb5 := class_below hw'
            clear hw'
            replace hT := hT.below hb5
            replace hS := hS.below hb5
            replace k4 := k4.below hb5
            replace k5 := k5.below hb5
            replace hW := bel_call hW hb5
            have hB5 := hB3.below hb5
            clear hb5 g4 g5 gt
            have c0 := hB5.at0 (by omega) HX0.out
            have rt := hT.rd
            have r4 := k4.rd
            have r5 := k5.rd
            go_wp2_with fail
            go_still_tail 11, (by kernel_rfl)
            go_wp2_with fail
            refine (put_any sb ch rb _ _ cr cc x0 _ hS.drew).mono ?_
            rintro e w6 ⟨rfl, ch', rb', cnt', hS6, hF6, hO6⟩
            rw [HPC.out]
            obtain ⟨hT6, hL6, _, hlo, _, hbo⟩ := hB5.drew.half hF6 hO6
            have hsz := k5.lt
            have hO1 := own_gr (fun z hz => hO z (.inl hz)) (show w.heap.size + 1 + 1 ≤ w5.drew.heap.size from hsz) hO6
            replace k4 := hF6.blk k4.drew (fun hz => by have := hO _ (.inl hz); omega)
            replace k5 := hF6.blk k5.drew (fun hz => by have := hO _ (.inl hz); omega)
            replace hW := hF6.bel (bel_drew hW) (fun z hz => by have := hO z (.inl hz); omega)
            have c6 : w6.cell? ⟨lb, 0, none⟩ = some (.pointer (some x0)) := (hF6.cell (show lb < w5.drew.heap.size from hB5.ltl) hB5.far 0).trans c0
            have ltl6 : lb < w6.heap.size := Nat.lt_of_lt_of_le (show lb < w5.drew.heap.size from hB5.ltl) hF6.size
            clear hS hT hF6 hO6 hL6 hlo hO rt r4 r5 c0 hB5 hB3
            have hS := hS6
            have hT := hT6
            clear hS6 hT6
            obtain rfl := hS.num.trans HDN.out
            go_wp2_with fail
            have g4 := k4.gr
            have g5 := k5.gr
            have gt := hT.gr
            refine wp_region_quiet_below (by kernel_rfl) (by kernel_rfl) ?_
            repeat (any_goals (first | go_big_quiet_step ((first | (go_at_call 14; with_reducible exact Calls.regrown_of (sget_all _ _ _ HW2.out _ (hS.below (below_regrown _ _ _)))))) | fail))
            refine wpQuiet_nil ?_
            intro w7 hw'
            have hb7 := class_below hw'
            clear hw'
            replace hT := hT.below hb7
            replace hS := hS.below hb7
            replace k4 := k4.below hb7
            replace k5 := k5.below hb7
            replace hW := bel_call hW hb7
            replace c6 := (hb7.cell (p := ⟨lb, 0, none⟩) ltl6).trans c6
            replace ltl6 := Nat.lt_of_lt_of_le ltl6 hb7.size
            clear hb7 g4 g5 gt
            go_wp2_with fail
            have gl := fun d os => (cell_regrown c6 d os)
            have g4 := k4.gr
            have g5 := k5.gr
            have gt := hT.gr
            refine wp_region_quiet_below (by kernel_rfl) (by kernel_rfl) ?_
            repeat (any_goals (first | go_big_quiet_step ((first | (go_at_call 16; exact regrown_eq (scount_any _ (hS.below (below_regrown _ _ _)))) | (go_at_call 14; with_reducible exact Calls.regrown_of (sget_all _ _ _ HC2'.out _ (hS.below (below_regrown _ _ _)))))) | fail))
            refine wpQuiet_nil ?_
            intro w8 hw'
            have hb8 := class_below hw'
            clear hw'
            replace hT := hT.below hb8
            replace hS := hS.below hb8
            replace k4 := k4.below hb8
            replace k5 := k5.below hb8
            replace hW := bel_call hW hb8
            clear hb8 g4 g5 gt
            have rt := hT.rd
            have r4 := k4.rd
            go_wp2_with fail
            go_still_tail 5, (by kernel_rfl)
            go_wp2_with fail
            refine (sdrop_all cr cc _ hS.drew).mono ?_
            rintro e w9 ⟨code, ch2, rb2, cnt2, rfl, hS9, hF9, hO9⟩
            replace k4 := hF9.blk k4.drew (fun hz => by have := hO1 _ hz; omega)
            replace k5 := hF9.blk k5.drew (fun hz => by have := hO1 _ hz; omega)
            replace hW := hF9.bel (bel_drew hW) (fun z hz => by have := hO1 z hz; omega)
            replace hT := hF9.blk hT.drew hbo
            clear hS rt r4
            have hS := hS9
            clear hS9 hF9 hO9
            go_wp2_with fail
            have g4 := k4.gr
            have g5 := k5.gr
            have gt := hT.gr
            refine wp_region_quiet_below (by kernel_rfl) (by kernel_rfl) ?_
            repeat (any_goals (first | go_big_quiet_step ((first | (go_at_call 14; with_reducible exact Calls.regrown_of (sget_all _ _ _ HW3.out _ (hS.below (below_regrown _ _ _)))) | (go_at_call 14; with_reducible exact Calls.regrown_of (sget_all _ _ _ HC3.out _ (hS.below (below_regrown _ _ _)))) | (go_at_call 15; exact Calls.regrown_of (lives_any _)))) | fail))
            refine wpQuiet_nil ?_
            intro w10 hw'
            have hb10 := class_below hw'
            clear hw'
            replace hW := bel_call hW hb10
            go_wp2_with fail
            go_ret
            exact ⟨rfl, hW⟩
end Go.Proofs.Ytiiiiplfcaeegaa

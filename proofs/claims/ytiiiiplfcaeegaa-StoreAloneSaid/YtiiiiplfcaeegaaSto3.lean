/-
  Contract of store.Put. Conditions: those of each theorem.
-/
import Derived.Test.YtiiiiplfcaeegaaSto2
namespace Go.Proofs.Ytiiiiplfcaeegaa
open Go.ChangeShapes Go.WideShapes Go.ChangeAt Go.RowKit Go.Deep

theorem put_nil (sb : Nat) (r c : Int) (w : World) :
    Calls Try.prog 9 #[.pointer (some ⟨sb, 0, none⟩), .agg #[.int .i64 r, .int .i64 c], .pointer none] w fun e w' => e = .returned (.int .i64 1) ∧ Below w.heap.size w w' := by
  go_enter Try.func9, Try.ntmps9
  go_wp2_with fail
  go_ret
  exact ⟨rfl, bel_alloc (bel_refl w) _⟩

theorem put_addr (sb : Nat) (r c : Int) (x : Addr) (w : World) (hm : mayB r c = false) :
    Calls Try.prog 9 #[.pointer (some ⟨sb, 0, none⟩), .agg #[.int .i64 r, .int .i64 c], .pointer (some x)] w fun e w' => e = .returned (.int .i64 3) ∧ Below w.heap.size w w' := by
  go_enter Try.func9, Try.ntmps9
  go_wp2_with fail
  refine (may_any _ _ _).mono ?_
  rintro e w1 ⟨rfl, hb1⟩
  go_wp2_with fail
  go_ret
  exact ⟨rfl, bel_call (bel_alloc (bel_refl w) _) hb1⟩

/-- What a put adds to the count. -/
def pinc : Option Addr → Int
  | none => 1
  | some _ => 0

theorem info_row : (Try.prog.info? 27).map (fun i => (i.zero, i.size, i.bytes)) = some (some (.pointer none), 1, 8) := by kernel_rfl

set_option maxHeartbeats 1600000 in
set_option maxRecDepth 100000 in
theorem put_yes (sb : Nat) (ch rb : Nat → Option Nat) (g : Grid) (cnt : Int) (i k c : Nat) (x : Addr) (w : World) (h : SIs w sb ch rb g cnt) (hi : i < 256) (hk : k < 16) (hc : c < 256) :
    Calls Try.prog 9 #[.pointer (some ⟨sb, 0, none⟩), .agg #[.int .i64 ((i : Int) * 16 + k + 1), .int .i64 ((c : Int) + 1)], .pointer (some x)] w fun e w' => e = .returned (.int .i64 0) ∧
      ∃ ch' rb', SIs w' sb ch' rb' (gset g (i * 16 + k) c (some x)) (cnt + pinc (g (i * 16 + k) c)) ∧ Frm (own sb ch rb) w w' ∧ ∀ b, own sb ch' rb' b → own sb ch rb b ∨ w.heap.size ≤ b := by
  have hmay : mayB ((i : Int) * 16 + (k : Int) + 1) ((c : Int) + 1) = true := by simp [mayB]; omega
  obtain ⟨Z1, hZ1⟩ : ∃ Z, Z = ((List.range 32).map (cf (fun _ => none) (fun _ _ => none) 0)).toArray := ⟨_, rfl⟩
  have hz1 := zero_chunk
  rw [← hZ1] at hz1
  have HR1 : Hid (∀ W : World, (W.alloc (.cells Z1 78)).rowIs W.heap.size 78 32 (cf (fun _ => none) (fun _ _ => none) 0)) := fun W => by
    have := World.rowIs_alloc W Z1 78 (cf (fun _ => none) (fun _ _ => none) 0) (by intro i hi; rw [hZ1] at hi ⊢; simp at hi; simp [hi])
    rwa [show Z1.size = 32 by rw [hZ1]; simp] at this
  have hne1 : ¬ Z1 = #[] := by intro e; have : Z1.size = 32 := by { rw [hZ1]; simp }; rw [e] at this; simp at this
  clear hZ1
  have hmk : ∀ W : World, (Instr.makeSlice 55 (.int .i64 256) (.int .i64 256)).run Try.prog W = .ok (.slice (some ⟨W.heap.size, 0, none⟩) 256 256) (W.alloc (.cells (madeCells #[.pointer none] 256) 27)) := fun W =>
    run_make_row' (P := Try.prog) 55 27 (.pointer none) 8 Try.underlying55 info_row rfl .i64 .i64 256 (by omega) (by omega) W
  have HR2 : Hid (∀ W : World, (W.alloc (.cells (madeCells #[.pointer none] 256) 27)).rowIs W.heap.size 27 256 (fun _ => .pointer none)) := fun W => World.rowIs_made W _ _ _
  generalize madeCells #[.pointer none] 256 = Z2 at hmk HR2
  have hnil := fun (W : World) (a : Option Addr) (n : Nat) => Lib.run_eql_slice_nil (P := Try.prog) W 55 27 a n n 0 0 Try.underlying55
  go_enter Try.func9, Try.ntmps9
  go_wp2_with fail
  refine (may_any _ _ _).mono ?_
  rintro e w1 ⟨rfl, hb1⟩
  have k4 := (Blk.new w rfl _ _).below hb1
  have h1 := (h.alloc _).below hb1
  have hw : Frm (own sb ch rb) w w1 := ((Frm.refl _ w).alloc _).call hb1
  clear hb1
  have rd4 := k4.rd
  have ns4 : ∀ b, own sb ch rb b → b ≠ w.heap.size := fun b hb e => by have := h.own_lt hb; omega
  go_wp2_with fail
  refine (place_any _ i k _ ?_ hk (by omega)).mono ?_
  · omega
  rintro e w2 ⟨rfl, rfl⟩
  have e1 : w1.cell? ⟨sb, i, none⟩ = some (ptrV (ch i)) := (h1.top.cell (by omega)).trans (by unfold sf; rw [if_pos (by omega)])
  obtain ⟨p, hp⟩ : ∃ p : Option Addr, p = (ch i).map fun b => ⟨b, 0, none⟩ := ⟨_, rfl⟩
  rw [ptrV_eq, ← hp] at e1
  have HP : Hid (p = (ch i).map fun b => ⟨b, 0, none⟩) := hp
  clear hp
  have f1 := h1.top.frozen
  have hlt1 := h1.top.lt
  have ns0 : ¬ sb = w1.heap.size := by omega
  go_upto_if 29 with fail
  go_cut [] (fun wx => ∃ (ch' : Nat → Option Nat) (b : Nat), ch' i = some b ∧ SIs wx sb ch' rb g cnt ∧ Frm (own sb ch rb) w wx ∧ (∀ b, own sb ch' rb b → own sb ch rb b ∨ w.heap.size ≤ b) ∧ wx.cell? ⟨w.heap.size, 1, none⟩ = some (.int .i64 ((c : Int) + 1)) ∧ ¬ own sb ch' rb w.heap.size)
  case first =>
    cases p with
    | none =>
      have hch : ch i = none := by
        have := HP.out
        cases h : ch i with
        | none => rfl
        | some b => rw [h] at this; cases this
      go_wp2_with fail
      go_meet
      case rel =>
        have hfr : ¬ own sb ch rb w1.heap.size := fun ho => by have := h1.own_lt ho; omega
        have hS := (h1.alloc (.cells Z1 78)).addChunk i hi hch (HR1.out w1) hfr
        have hsz := hw.size
        have hnw : ¬ w.heap.size = w1.heap.size := by have := k4.lt; omega
        rw [← World.setCell_alloc_past (w := w1) (.cells Z1 78) sb i _ hlt1]
        refine ⟨_, w1.heap.size, upd_same _ _ _, hS, (hw.alloc _).set (.inl (.inl rfl)) _, fun b hb => ?_, ?_, fun ho => ?_⟩
        · rcases own_upd_ch hb with hb | rfl
          · exact .inl hb
          · exact .inr hsz
        · exact ((k4.alloc _).far (b := sb) (fun e => ns4 sb (.inl rfl) e.symm) _).rd 1
        · rcases own_upd_ch ho with hb | hb
          · exact ns4 _ hb rfl
          · exact hnw hb
    | some a =>
      obtain ⟨b, hch, rfl⟩ : ∃ b, ch i = some b ∧ a = ⟨b, 0, none⟩ := by
        have := HP.out
        cases h : ch i with
        | none => rw [h] at this; cases this
        | some b =>
          rw [h] at this
          injection this with this
          exact ⟨b, rfl, this⟩
      go_wp2_with fail
      go_meet
      case rel => exact ⟨ch, b, hch, h1, hw, fun _ hb => .inl hb, rd4 1, fun ho => ns4 _ ho rfl⟩
  case rest =>
    obtain ⟨ch', b, hch, hS, hF, hO, rdc, hno⟩ := hcut
    clear h1 hw rd4 k4 ns4 e1 f1 hlt1 ns0 HP
    have e1 : wc.cell? ⟨sb, i, none⟩ = some (.pointer (some ⟨b, 0, none⟩)) := (hS.top.cell (by omega)).trans (by unfold sf; rw [if_pos (by omega), hch]; rfl)
    have hcb := hS.chk i (by omega) b hch
    have e2 : wc.cell? ⟨b, k, none⟩ = some (rowV (rb (i * 16 + k))) := (hcb.cell (by omega)).trans (by unfold cf; rw [if_pos hk])
    obtain ⟨q, hq⟩ : ∃ q : Option Addr, q = (rb (i * 16 + k)).map fun b => ⟨b, 0, none⟩ := ⟨_, rfl⟩
    obtain ⟨n, hn⟩ : ∃ n : Nat, n = szV (rb (i * 16 + k)) := ⟨_, rfl⟩
    rw [rowV_eq, ← hq, ← hn] at e2
    have HQ : Hid (q = (rb (i * 16 + k)).map fun b => ⟨b, 0, none⟩) := hq
    clear hq hn
    have f2 := hcb.frozen
    have hltb := hcb.lt
    have nb : ¬ b = wc.heap.size := by omega
    go_upto_if 49 with fail
    go_cut [] (fun wx => ∃ (rb' : Nat → Option Nat) (d : Nat), rb' (i * 16 + k) = some d ∧ SIs wx sb ch' rb' g cnt ∧ Frm (own sb ch rb) w wx ∧ (∀ b, own sb ch' rb' b → own sb ch rb b ∨ w.heap.size ≤ b) ∧ wx.cell? ⟨w.heap.size, 1, none⟩ = some (.int .i64 ((c : Int) + 1)) ∧ ¬ own sb ch' rb' w.heap.size)
    case first =>
      cases q with
      | none =>
        have hrb : rb (i * 16 + k) = none := by
          have := HQ.out
          cases h : rb (i * 16 + k) with
          | none => rfl
          | some b => rw [h] at this; cases this
        go_wp2_with fail
        go_big_region
        all_goals
          go_wp2_with fail
          go_meet
          case rel =>
            rw [← World.setCell_alloc_past (w := wc) (.cells Z2 27) b k _ hltb]
            have hfr : ¬ own sb ch' rb wc.heap.size := fun ho => by have := hS.own_lt ho; omega
            have hS2 := ((hS.alloc (.cells Z2 27)).addRow i k hi hk hch hrb (HR2.out wc) hfr).drew
            have hsz := hF.size
            have hob : own sb ch' rb b := .inr (.inl ⟨i, by omega, hch⟩)
            have hnwb : w.heap.size ≠ b := fun e => hno (by rw [e]; exact hob)
            have hnw : ¬ w.heap.size = wc.heap.size := by have := World.block_lt_of_cell? _ _ rdc; exact Nat.ne_of_lt this
            refine ⟨_, wc.heap.size, upd_same _ _ _, hS2, ((hF.alloc _).set (hO b hob) _).drew, fun b' hb => ?_, ?_, fun ho => ?_⟩
            · rcases own_upd_rb hb with hb | rfl
              · exact hO _ hb
              · exact .inr hsz
            · show ((wc.alloc (.cells Z2 27)).setCell ⟨b, k, none⟩ _).cell? ⟨w.heap.size, 1, none⟩ = _
              rw [World.cell?_setCell_other _ _ _ _ (by intro e; injection e with e; exact hnwb e.symm), World.cell?_alloc_lt _ _ _ (World.block_lt_of_cell? _ _ rdc)]
              exact rdc
            · rcases own_upd_rb ho with hb | hb
              · exact hno hb
              · exact hnw hb
      | some a =>
        obtain ⟨d, hrb, rfl⟩ : ∃ d, rb (i * 16 + k) = some d ∧ a = ⟨d, 0, none⟩ := by
          have := HQ.out
          cases h : rb (i * 16 + k) with
          | none => rw [h] at this; cases this
          | some b =>
            rw [h] at this
            injection this with this
            exact ⟨b, rfl, this⟩
        go_wp2_with fail
        go_meet
        case rel => exact ⟨rb, d, hrb, hS, hF, hO, rdc, hno⟩
    case rest =>
      obtain ⟨rb', d, hrb, hS2, hF2, hO2, rdc2, hno2⟩ := hcut
      clear hS hF hO rdc hno e1 e2 f2 hcb hltb nb HQ HR1 HR2 hmk hnil hz1 hne1
      have e1 : wc.cell? ⟨b, k, none⟩ = some (.slice (some ⟨d, 0, none⟩) 256 256) := ((hS2.chk i (by omega) b hch).cell (by omega)).trans (by unfold cf; rw [if_pos hk, hrb]; rfl)
      have hrd := hS2.row _ (by omega) d hrb
      obtain ⟨y, hy⟩ : ∃ y, y = g (i * 16 + k) c := ⟨_, rfl⟩
      have e2 : wc.cell? ⟨d, c, none⟩ = some (.pointer y) := (hrd.cell hc).trans (by rw [hy]; rfl)
      have HY : Hid (y = g (i * 16 + k) c) := hy
      clear hy
      obtain ⟨u, hu⟩ : ∃ u, u = rcount g (i * 16 + k) := ⟨_, rfl⟩
      have e3 : wc.cell? ⟨b, 16 + k, none⟩ = some (.int .i64 u) := ((hS2.chk i (by omega) b hch).cell (by omega)).trans (by unfold cf; rw [if_neg (by omega), hu, show 16 + k - 16 = k by omega])
      have hu2 : u ≤ 256 := by rw [hu]; exact rcount_le _ _
      have HU : Hid (u = rcount g (i * 16 + k)) := hu
      clear hu
      have e4 : wc.cell? ⟨sb, 257, none⟩ = some (.int .i64 cnt) := hS2.top.cell (by omega)
      have hcb2 : 0 ≤ cnt ∧ cnt ≤ 1048576 := by have := hS2.num; have := total_le g; omega
      have f1 := hrd.frozen
      have f2 := (hS2.chk i (by omega) b hch).frozen
      have f3 := hS2.top.frozen
      have n1 : ¬ sb = b := row_ne hS2.top (hS2.chk i (by omega) b hch) (by decide)
      have n2 : ¬ sb = d := row_ne hS2.top hrd (by decide)
      have n3 : ¬ b = d := row_ne (hS2.chk i (by omega) b hch) hrd (by decide)
      have hx1 : IntKind.i64.wrap ((c : Int) + 1 - 1) = c := by rw [IntKind.wrap_i64]; omega
      have hx2 : IntKind.i64.wrap ((u : Int) + 1) = (u : Int) + 1 := by rw [IntKind.wrap_i64]; omega
      cases y with
      | none =>
        go_wp2_with fail
        go_quiet (fail)
        go_wp2_with fail
        go_big_region
        all_goals
          go_wp2_with fail
          go_big_region
          all_goals
            go_wp2_with fail
            go_ret
            have hg : g (i * 16 + k) c = none := HY.out.symm
            have hob : own sb ch' rb' b := .inr (.inl ⟨i, by omega, hch⟩)
            have hod : own sb ch' rb' d := .inr (.inr ⟨i * 16 + k, by omega, hrb⟩)
            rw [hg, HU.out]
            exact ⟨rfl, ch', rb', ((hS2.drewN _).put i k c hi hk hc hch hrb x hg).drew, ((((hF2.drewN _).set (hO2 b hob) _).set (.inl (.inl rfl)) _).set (hO2 d hod) _).drew, hO2⟩
      | some y0 =>
        go_wp2_with fail
        go_quiet (fail)
        go_wp2_with fail
        go_big_region
        all_goals
          go_wp2_with fail
          go_ret
          have hg : g (i * 16 + k) c = some y0 := HY.out.symm
          have hod : own sb ch' rb' d := .inr (.inr ⟨i * 16 + k, by omega, hrb⟩)
          have hSf := (hS2.drewN (nq + 1)).over (i * 16 + k) c (by omega) hc hrb x (by rw [hg]; rfl)
          rw [hg]
          exact ⟨rfl, ch', rb', by rw [show cnt + pinc (some y0) = cnt by show cnt + 0 = cnt; omega]; exact hSf, (hF2.drewN _).set (hO2 d hod) _, hO2⟩
end Go.Proofs.Ytiiiiplfcaeegaa

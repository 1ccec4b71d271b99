/-
  The walk of oriellaw22.ViewHandles: it returns true, whatever the script. Conditions: the script's cells as said ('ScriptAt').
-/
import Derived.Test.YtocglcngfgpfnaaViewInv
import Derived.Deep.DeepCutAuto
import Derived.Deep.CutBlock
import Derived.Deep.QuietTactic
import Derived.BigQuiet
namespace Go.Proofs.Ytocglcngfgpfnaa
open Go.ChangeShapes Go.WideShapes Go.ChangeAt Go.RowKit Go.Deep

structure OpV where
  k : Int
  v : Int
  ar : Int
  ac : Int
  br : Int
  bc : Int

/-- The script lies so in memory. -/
def ScriptAt (w : World) (A : Option Addr) (len : Nat) (ops : Nat → OpV) : Prop :=
  ∀ k, k < len → ∃ b off, A = some ⟨b, off, none⟩ ∧ b < w.heap.size ∧
    w.cell? ⟨b, off + k * 6, none⟩ = some (.int .i64 (ops k).k) ∧ w.cell? ⟨b, off + k * 6 + 1, none⟩ = some (.int .i64 (ops k).v) ∧
    w.cell? ⟨b, off + k * 6 + 2, none⟩ = some (.int .i64 (ops k).ar) ∧ w.cell? ⟨b, off + k * 6 + 3, none⟩ = some (.int .i64 (ops k).ac) ∧
    w.cell? ⟨b, off + k * 6 + 4, none⟩ = some (.int .i64 (ops k).br) ∧ w.cell? ⟨b, off + k * 6 + 5, none⟩ = some (.int .i64 (ops k).bc)

/-! A row of 18 rectangles. -/
def wf (q : Nat → Vw) (i : Nat) : Value := .int .i64 (vcell (q (i / 4)) (i % 4))
theorem wf_at (q : Nat → Vw) (h k : Nat) (hk : k < 4) : wf q (h * 4 + k) = .int .i64 (vcell (q h) k) := by
  unfold wf
  rw [show (h * 4 + k) / 4 = h by omega, show (h * 4 + k) % 4 = k by omega]
theorem wrow_vset {w : World} {b t n : Nat} {q : Nat → Vw} (h : w.rowIs b t n (wf q)) (j k : Nat) (hk : k < 4) (x : Int) :
    (w.setCell ⟨b, j * 4 + k, none⟩ (.int .i64 x)).rowIs b t n (wf (upd q j (vset (q j) k x))) := by
  refine (h.set _ _).congr fun i hi => ?_
  obtain ⟨m, l, hl, rfl⟩ : ∃ m l, l < 4 ∧ i = m * 4 + l := ⟨i / 4, i % 4, by omega, by omega⟩
  rw [wf_at _ _ _ hl, wf_at _ _ _ hl]
  by_cases hj : m = j
  · subst hj
    rw [upd_same]
    by_cases hkl : l = k
    · subst hkl
      rw [if_pos rfl]
      match l, hl with
      | 0, _ => rfl
      | 1, _ => rfl
      | 2, _ => rfl
      | 3, _ => rfl
    · rw [if_neg (by omega)]
      match l, k, hl, hk, hkl with
      | 0, 1, _, _, _ => rfl
      | 0, 2, _, _, _ => rfl
      | 0, 3, _, _, _ => rfl
      | 1, 0, _, _, _ => rfl
      | 1, 2, _, _, _ => rfl
      | 1, 3, _, _, _ => rfl
      | 2, 0, _, _, _ => rfl
      | 2, 1, _, _, _ => rfl
      | 2, 3, _, _, _ => rfl
      | 3, 0, _, _, _ => rfl
      | 3, 1, _, _, _ => rfl
      | 3, 2, _, _, _ => rfl
      | 3, 3, _, _, e => exact absurd rfl e
  · rw [if_neg (by omega)]
    simp [upd, hj]
theorem wrow_whole {w : World} {b t n : Nat} {q : Nat → Vw} (h : w.rowIs b t n (wf q)) (j : Nat) (r c p s : Int) :
    ((((w.setCell ⟨b, j * 4, none⟩ (.int .i64 r)).setCell ⟨b, j * 4 + 1, none⟩ (.int .i64 c)).setCell ⟨b, j * 4 + 2, none⟩ (.int .i64 p)).setCell ⟨b, j * 4 + 3, none⟩ (.int .i64 s)).rowIs b t n
      (wf (upd q j ⟨r, c, p, s⟩)) := by
  have := wrow_vset (wrow_vset (wrow_vset (wrow_vset h j 0 (by omega) r) j 1 (by omega) c) j 2 (by omega) p) j 3 (by omega) s
  simp only [upd_upd, upd_same] at this
  exact this

theorem zero_was (w : World) : (zeroValue 48).run Try.prog w = .ok (.agg ((List.range 72).map (wf F0)).toArray) w := by kernel_rfl
theorem zero_open (w : World) : (zeroValue 49).run Try.prog w = .ok (.agg ((List.range 18).map (fun _ => Value.bool false)).toArray) w := by kernel_rfl

/-- What is told of the first j handles. -/
def wasf (most : Int) (s : Nat → Vw) (j : Nat) : Nat → Vw := fun i => if i < j then rectv most s i else ⟨0, 0, 0, 0⟩
def opf (most : Int) (s : Nat → Vw) (j i : Nat) : Value := .bool (decide (i < j) && isOpen most s i)
theorem wasf_succ (most : Int) (s : Nat → Vw) (j : Nat) : upd (wasf most s j) j (rectv most s j) = wasf most s (j + 1) := by
  funext i
  unfold upd wasf
  by_cases h : i = j
  · subst h
    simp
  · rw [if_neg h]
    by_cases h2 : i < j
    · rw [if_pos h2, if_pos (by omega)]
    · rw [if_neg h2, if_neg (by omega)]
theorem op_row {w : World} {b t : Nat} {most : Int} {s : Nat → Vw} {j : Nat} (h : w.rowIs b t 18 (opf most s j)) :
    (w.setCell ⟨b, j, none⟩ (.bool (isOpen most s j))).rowIs b t 18 (opf most s (j + 1)) := by
  refine (h.set _ _).congr fun i _ => ?_
  by_cases e : i = j
  · subst e
    simp [opf]
  · rw [if_neg e]
    unfold opf
    by_cases h2 : i < j
    · rw [decide_eq_true h2, decide_eq_true (show i < j + 1 by omega)]
    · rw [decide_eq_false h2, decide_eq_false (show ¬ i < j + 1 by omega)]

def Same18 (most : Int) (s s2 : Nat → Vw) (hh : Int) : Prop := ∀ j : Nat, (j : Int) ≠ hh → rectv most s2 j = rectv most s j ∧ isOpen most s2 j = isOpen most s j
theorem Same18.refl (most : Int) (s : Nat → Vw) (hh : Int) : Same18 most s s hh := fun _ _ => ⟨rfl, rfl⟩
theorem Same18.upd_ (most : Int) (s : Nat → Vw) (n : Nat) (v : Vw) (hh : Int) (h : hh = n) : Same18 most s (upd s n v) hh := fun j hj => by
  subst h
  exact ⟨rectv_upd_ne _ _ _ _ hj (by omega), isOpen_upd_ne _ _ _ _ hj (by omega)⟩

theorem first_free (most : Int) (s : Nat → Vw) (h0 : 0 ≤ most) : (∃ n : Nat, (n : Int) < most ∧ isOpen most s ((n : Int) + 1) = false ∧ ∀ j : Nat, j < n → isOpen most s ((j : Int) + 1) = true) ∨ (∀ j : Nat, (j : Int) < most → isOpen most s ((j : Int) + 1) = true) := by
  have key : ∀ m : Nat, (∃ n : Nat, n < m ∧ isOpen most s ((n : Int) + 1) = false ∧ ∀ j : Nat, j < n → isOpen most s ((j : Int) + 1) = true) ∨ (∀ j : Nat, j < m → isOpen most s ((j : Int) + 1) = true) := by
    intro m
    induction m with
    | zero => exact .inr (fun j hj => absurd hj (by omega))
    | succ m ih =>
      rcases ih with ⟨n, h1, h2, h3⟩ | h
      · exact .inl ⟨n, by omega, h2, h3⟩
      · cases hm : isOpen most s ((m : Int) + 1) with
        | false => exact .inl ⟨m, by omega, hm, h⟩
        | true =>
          refine .inr (fun j hj => ?_)
          by_cases e : j = m
          · subst e
            exact hm
          · exact h j (by omega)
  rcases key most.toNat with ⟨n, h1, h2, h3⟩ | h
  · exact .inl ⟨n, by omega, h2, h3⟩
  · exact .inr (fun j hj => h j (by omega))

theorem hl_round {w0 w3 : World} {vb g : Nat} {most cnt : Int} {s : Nat → Vw} {j : Nat} {bo : Bool} (o : Obj) (hR : VIs w3 vb most cnt s) (hWas : w3.rowIs g 48 72 (wf (wasf most s j))) (hOp : w3.rowIs (g + 1) 49 18 (opf most s j))
    (hW : Below w0.heap.size w0 w3) (hg : w0.heap.size ≤ g) (h1 : vb < g) (hb : isOpen most s j = bo) {W' : World}
    (hW' : W' = ((((((w3.setCell ⟨g, j * 4, none⟩ (.int .i64 (rectv most s j).r)).setCell ⟨g, j * 4 + 1, none⟩ (.int .i64 (rectv most s j).c)).setCell ⟨g, j * 4 + 2, none⟩ (.int .i64 (rectv most s j).m)).setCell ⟨g, j * 4 + 3, none⟩ (.int .i64 (rectv most s j).n)).setCell ⟨g + 1, j, none⟩ (.bool bo)).alloc o)) :
    VIs W' vb most cnt s ∧ W'.rowIs g 48 72 (wf (wasf most s (j + 1))) ∧ W'.rowIs (g + 1) 49 18 (opf most s (j + 1)) ∧ Below w0.heap.size w0 W' := by
  subst hW'
  subst hb
  refine ⟨?_, ?_, ?_, ?_⟩
  · exact (((((hR.setOther (by show vb ≠ g; omega) _).setOther (by show vb ≠ g; omega) _).setOther (by show vb ≠ g; omega) _).setOther (by show vb ≠ g; omega) _).setOther (by show vb ≠ g + 1; omega) _).alloc _
  · rw [← wasf_succ]
    exact ((wrow_whole hWas j _ _ _ _).setOther (by show g ≠ g + 1; omega) _).alloc _
  · exact (op_row ((((hOp.setOther (by show g + 1 ≠ g; omega) _).setOther (by show g + 1 ≠ g; omega) _).setOther (by show g + 1 ≠ g; omega) _).setOther (by show g + 1 ≠ g; omega) _)).alloc _
  · exact bel_alloc (bel_set (bel_set (bel_set (bel_set (bel_set hW hg _) hg _) hg _) hg _) (by omega) _) _

set_option maxRecDepth 100000 in
theorem handles_no (A : Option Addr) (len cap : Nat) (most : Int) (w : World) (h : most < 1 ∨ 16 < most) :
    Calls Try.prog 5 #[.slice A len cap, .int .i64 most] w fun e w' => e = .returned (.bool true) ∧ Below w.heap.size w w' := by
  have hd : most < 1 ∨ (decide (most < 1) = false ∧ 16 < most) := by
    rcases h with h | h
    · exact .inl h
    · exact .inr ⟨by simp; omega, h⟩
  rcases hd with h1 | ⟨h1, h2⟩
  · have h1' : decide (most < 1) = true := by simpa using h1
    go_enter Try.func5, Try.ntmps5
    go_wp2_with fail
    refine (new_no most _ h).mono ?_
    rintro e w1 ⟨rfl, rfl⟩
    go_wp2_with fail
    refine (known_any _).mono ?_
    rintro e w2 ⟨rfl, hb2⟩
    go_wp2_with fail
    go_ret
    exact ⟨rfl, hb2⟩
  · have h2' : decide (16 < most) = true := by simpa using h2
    go_enter Try.func5, Try.ntmps5
    go_wp2_with fail
    refine (new_no most _ h).mono ?_
    rintro e w1 ⟨rfl, rfl⟩
    go_wp2_with fail
    refine (known_any _).mono ?_
    rintro e w2 ⟨rfl, hb2⟩
    go_wp2_with fail
    go_ret
    exact ⟨rfl, hb2⟩

set_option maxHeartbeats 1600000 in
set_option maxRecDepth 100000 in
theorem handles_walk (A : Option Addr) (len cap : Nat) (ops : Nat → OpV) (most : Int) (w : World) (hS : ScriptAt w A len ops) (hlen : len ≤ 9223372036854775807) (hm : 1 ≤ most ∧ most ≤ 16) :
    Calls Try.prog 5 #[.slice A len cap, .int .i64 most] w fun e w' => e = .returned (.bool true) ∧ Below w.heap.size w w' := by
  obtain ⟨Z1, hZ1⟩ : ∃ Z, Z = ((List.range 72).map (wf F0)).toArray := ⟨_, rfl⟩
  obtain ⟨Z2, hZ2⟩ : ∃ Z, Z = ((List.range 18).map (fun _ => Value.bool false)).toArray := ⟨_, rfl⟩
  have hz1 := zero_was
  have hz2 := zero_open
  rw [← hZ1] at hz1
  rw [← hZ2] at hz2
  have HR1 : Hid (∀ W : World, (W.alloc (.cells Z1 48)).rowIs W.heap.size 48 72 (wf F0)) := fun W => by
    have := World.rowIs_alloc W Z1 48 (wf F0) (by intro i hi; rw [hZ1] at hi ⊢; simp at hi; simp [hi])
    rwa [show Z1.size = 72 by rw [hZ1]; simp] at this
  have HR2 : Hid (∀ W : World, (W.alloc (.cells Z2 49)).rowIs W.heap.size 49 18 (fun _ => .bool false)) := fun W => by
    have := World.rowIs_alloc W Z2 49 (fun _ => .bool false) (by intro i hi; rw [hZ2] at hi ⊢; simp at hi; simp [hi])
    rwa [show Z2.size = 18 by rw [hZ2]; simp] at this
  clear hZ1 hZ2
  go_enter Try.func5, Try.ntmps5
  go_wp2_with fail
  refine (new_ex most _ hm.1 hm.2).mono ?_
  rintro e w1 ⟨vb, hvb, rfl, hR1, hb1⟩
  have hw := hb1
  clear hb1
  go_wp2_with fail
  refine (known_any _).mono ?_
  rintro e w2 ⟨rfl, hb2⟩
  replace hR1 := row_below hR1 hb2
  replace hw := bel_call hw hb2
  clear hb2
  go_wp2_with fail
  go_loopg [7] len (fun g s7 wr => ∃ (k : Nat) (cnt : Int) (s : Nat → Vw), k ≤ len ∧ g = len - k ∧ s7 = .int .i64 k ∧ VIs wr vb most cnt s ∧ SInv most cnt s ∧ Below w.heap.size w wr)
  case atStart => exact ⟨0, 0, F0, Nat.zero_le _, rfl, rfl, hR1, SInv.new most hm, hw⟩
  case round =>
    obtain ⟨k, cnt, s, hk, rfl, rfl, hR, hI, hW⟩ := hrel
    clear hR1 hw
    obtain ⟨wo, rfl⟩ : ∃ wo : World, wo = wr := ⟨_, rfl⟩
    by_cases hkl : k < len
    · obtain ⟨b, off, hA, hb, e0, e1, e2, e3, e4, e5⟩ := hS k hkl
      subst hA
      have hRo := hR.lt
      have HB : Hid (∀ j : Nat, isOpen most s j = true → (gcode most s j = 0 ∧ isOpen most s j = true)) := fun j h => ⟨by simp [gcode, h], h⟩
      go_wp2_with fail
      have hRa := (hR.alloc (.cells Z1 48)).alloc (.cells Z2 49)
      have hWas := (HR1.out wo).alloc (.cells Z2 49)
      have hOp := HR2.out (wo.alloc (.cells Z1 48))
      rw [World.size_alloc] at hOp
      have hWa := bel_alloc (bel_alloc hW (.cells Z1 48)) (.cells Z2 49)
      go_loopw [10, 11] (fun s10 s11 wr => ∃ j : Nat, j ≤ 18 ∧ s11 = .int .i64 j ∧ s10 = .int .i64 (ocount most s j) ∧ VIs wr vb most cnt s ∧ wr.rowIs wo.heap.size 48 72 (wf (wasf most s j)) ∧
          wr.rowIs (wo.heap.size + 1) 49 18 (opf most s j) ∧ Below w.heap.size w wr)
        (fun _ s11 _ => 18 - (intOf s11).toNat)
      case atStart => exact ⟨0, by omega, rfl, rfl, hRa, hWas.congr (fun i _ => rfl), hOp.congr (fun i _ => by simp [opf]), hWa⟩
      case round =>
        obtain ⟨j, hj, rfl, rfl, hR2, hWas2, hOp2, hW2⟩ := hrel
        clear hRa hWas hOp hWa
        by_cases hj18 : j < 18
        · have hoc := (ocount_le most s (by omega) j).2
          go_wp2_with fail
          refine (rect_any vb most cnt s j _ hR2 hI).mono ?_
          rintro e w3 ⟨rfl, hb3⟩
          replace hR2 := row_below hR2 hb3
          replace hWas2 := row_below hWas2 hb3
          replace hOp2 := row_below hOp2 hb3
          replace hW2 := bel_call hW2 hb3
          clear hb3
          have ltW := hWas2.lt
          have ltO := hOp2.lt
          have cW0 : w3.cell? ⟨wo.heap.size, j * 4, none⟩ = some _ := hWas2.cell (by omega)
          have cW1 : w3.cell? ⟨wo.heap.size, j * 4 + 1, none⟩ = some _ := hWas2.cell (by omega)
          have cW2 : w3.cell? ⟨wo.heap.size, j * 4 + 2, none⟩ = some _ := hWas2.cell (by omega)
          have cW3 : w3.cell? ⟨wo.heap.size, j * 4 + 3, none⟩ = some _ := hWas2.cell (by omega)
          have fW := hWas2.frozen
          have cO : w3.cell? ⟨wo.heap.size + 1, j, none⟩ = some _ := hOp2.cell (by omega)
          have fO := hOp2.frozen
          cases ho : isOpen most s j with
          | true =>
            have hg : gcode most s j = 0 := by simp [gcode, ho]
            have hocS : Hid (ocount most s (j + 1) = ocount most s j + 1) := by
              show ocount most s j + (isOpen most s j).toNat = _
              rw [ho]
              rfl
            go_wp2_with fail
            go_roundw
            case rel =>
              exact ⟨j + 1, by omega, by go_num, by rw [hocS.out]; go_num, hl_round _ hR2 hWas2 hOp2 hW2 hW.size hRo ho rfl⟩
            case measure => simp [intOf]; omega
          | false =>
            have hg : gcode most s j = 4 := by simp [gcode, ho]
            have hocS : Hid (ocount most s (j + 1) = ocount most s j) := by
              show ocount most s j + (isOpen most s j).toNat = _
              rw [ho]
              rfl
            go_wp2_with fail
            go_roundw
            case rel =>
              exact ⟨j + 1, by omega, by go_num, by rw [hocS.out], hl_round _ hR2 hWas2 hOp2 hW2 hW.size hRo ho rfl⟩
            case measure => simp [intOf]; omega
        · obtain rfl : j = 18 := by omega
          clear hj hj18
          have hbd := hI.bound
          have hcnt : ((ocount most s 18 : Int) != cnt) = false := by simp [hI.hc]
          have hoc := (ocount_le most s (by omega) 18).1
          have cO0 : wr.cell? ⟨wo.heap.size + 1, 0, none⟩ = some (.bool false) := (hOp2.cell (by omega)).trans (by simp [opf, isOpen])
          have cO17 : wr.cell? ⟨wo.heap.size + 1, 17, none⟩ = some (.bool false) := (hOp2.cell (by omega)).trans (by simp [opf, isOpen]; omega)
          have q0 : wr.cell? ⟨b, off + k * 6, none⟩ = some (.int .i64 (ops k).k) := (hW2.cell hb).trans e0
          have q1 : wr.cell? ⟨b, off + k * 6 + 1, none⟩ = some (.int .i64 (ops k).v) := (hW2.cell hb).trans e1
          have q2 : wr.cell? ⟨b, off + k * 6 + 2, none⟩ = some (.int .i64 (ops k).ar) := (hW2.cell hb).trans e2
          have q3 : wr.cell? ⟨b, off + k * 6 + 3, none⟩ = some (.int .i64 (ops k).ac) := (hW2.cell hb).trans e3
          have q4 : wr.cell? ⟨b, off + k * 6 + 4, none⟩ = some (.int .i64 (ops k).br) := (hW2.cell hb).trans e4
          have q5 : wr.cell? ⟨b, off + k * 6 + 5, none⟩ = some (.int .i64 (ops k).bc) := (hW2.cell hb).trans e5
          go_wp2_with fail
          refine (count_any vb most cnt s _ hR2).mono ?_
          rintro e w4 ⟨rfl, rfl⟩
          go_upto_block 4 with fail
          have hRw := hR2.lt
          have ltW := hWas2.lt
          have ltO := hOp2.lt
          go_cut [15] (fun s15 wx => ∃ (hh cnt2 : Int) (s2 : Nat → Vw), s15 = .int .i64 hh ∧ VIs wx vb most cnt2 s2 ∧ SInv most cnt2 s2 ∧ Same18 most s s2 hh ∧ wx.rowIs wo.heap.size 48 72 (wf (wasf most s 18)) ∧ wx.rowIs (wo.heap.size + 1) 49 18 (opf most s 18) ∧ Below w.heap.size w wx)
          case first =>
            have hR3 := hR2.alloc (.cells #[.int .i64 (ops k).k, .int .i64 (ops k).v, .int .i64 (ops k).ar, .int .i64 (ops k).ac, .int .i64 (ops k).br, .int .i64 (ops k).bc] 45)
            have hWas3 := hWas2.alloc (.cells #[.int .i64 (ops k).k, .int .i64 (ops k).v, .int .i64 (ops k).ar, .int .i64 (ops k).ac, .int .i64 (ops k).br, .int .i64 (ops k).bc] 45)
            have hOp3 := hOp2.alloc (.cells #[.int .i64 (ops k).k, .int .i64 (ops k).v, .int .i64 (ops k).ar, .int .i64 (ops k).ac, .int .i64 (ops k).br, .int .i64 (ops k).bc] 45)
            have hW3 := bel_alloc hW2 (.cells #[.int .i64 (ops k).k, .int .i64 (ops k).v, .int .i64 (ops k).ar, .int .i64 (ops k).ac, .int .i64 (ops k).br, .int .i64 (ops k).bc] 45)
            have k14 := Blk.new wr rfl 45 #[.int .i64 (ops k).k, .int .i64 (ops k).v, .int .i64 (ops k).ar, .int .i64 (ops k).ac, .int .i64 (ops k).br, .int .i64 (ops k).bc]
            clear hR2 hWas2 hOp2 hW2 q0 q1 q2 q3 q4 q5 cO0 cO17 hR hW
            by_cases hk0 : (ops k).k = 0
            · have hk0' : ((ops k).k == 0) = true := by simpa using hk0
              clear hk0
              by_cases hmm : mayB (ops k).ar (ops k).ac = false ∨ mayB (ops k).br (ops k).bc = false
              · go_wp2_with fail
                refine (vopen_addr _ _ _ _ _ _ hmm).mono ?_
                rintro e w5 ⟨rfl, hb5⟩
                replace hR3 := row_below hR3 hb5
                replace hWas3 := row_below hWas3 hb5
                replace hOp3 := row_below hOp3 hb5
                replace hW3 := bel_call hW3 hb5
                clear hb5
                clear hmm
                go_wp2_with fail
                go_loop [18] (fun i => i = .int .i64 1) (fun _ => 0)
                case atStart => rfl
                case round =>
                  obtain rfl := hrel
                  go_wp2_with fail
                  go_meet
                  case rel => exact ⟨_, cnt, s, rfl, hR3, hI, Same18.refl _ _ _, hWas3, hOp3, hW3⟩
              · have hm1 : mayB (ops k).ar (ops k).ac = true := by
                  cases h : mayB (ops k).ar (ops k).ac
                  · exact absurd (.inl h) hmm
                  · rfl
                have hm2 : mayB (ops k).br (ops k).bc = true := by
                  cases h : mayB (ops k).br (ops k).bc
                  · exact absurd (.inr h) hmm
                  · rfl
                clear hmm
                rcases first_free most s (by omega) with ⟨n, hn, hno, hlow⟩ | hall
                · have HL : Hid (∀ j : Nat, j < n → isOpen most s ((j : Int) + 1) = true) := hlow
                  go_wp2_with fail
                  refine (vopen_yes vb most cnt s _ _ _ _ _ hR3 hm.2 ⟨hbd.1, hbd.2.2⟩ hm1 hm2 n hn hno hlow).mono ?_
                  clear hlow
                  rintro e w5 ⟨rfl, hR5, hg5⟩
                  replace hWas3 := row_grown hWas3 hg5 (by omega)
                  replace hOp3 := row_grown hOp3 hg5 (by omega)
                  replace hW3 := hW3.trans (below_of_grown hg5 hW3.size (by omega))
                  clear hg5
                  have hnn : n + 1 < 18 := by omega
                  have cOn : w5.cell? ⟨wo.heap.size + 1, n + 1, none⟩ = some (.bool false) := (hOp3.cell hnn).trans (by simp [opf, hno])
                  go_wp2_with fail
                  go_loop [18] (fun i => ∃ j : Nat, 1 ≤ j ∧ j ≤ n + 1 ∧ i = .int .i64 j) (fun i => n + 1 - (intOf i).toNat)
                  case atStart => exact ⟨1, by omega, by omega, rfl⟩
                  case round =>
                    obtain ⟨j, hj1, hj2, rfl⟩ := hrel
                    by_cases hjn : j < n + 1
                    · have hop := HL.out (j - 1) (by omega)
                      rw [show ((j - 1 : Nat) : Int) + 1 = (j : Int) by omega] at hop
                      have cOj : w5.cell? ⟨wo.heap.size + 1, j, none⟩ = some (.bool true) := (hOp3.cell (by omega)).trans (by simp [opf, hop]; omega)
                      clear hop
                      go_wp2_with fail
                      go_round
                      case rel => exact ⟨j + 1, by omega, by omega, by go_num⟩
                      case measure => simp [intOf]; omega
                    · go_wp2_with fail
                      go_meet
                      case rel => exact ⟨_, cnt + 1, _, rfl, hR5, hI.opened hm1 hm2 n hn hno, Same18.upd_ _ _ _ _ _ (by omega), hWas3, hOp3, hW3⟩
                · have hfull : ((ocount most s 18 : Int) != most) = false := by
                    rw [ocount_full most s hall (by omega) 18 (by omega)]
                    simp
                    omega
                  go_wp2_with fail
                  refine (vopen_full vb most cnt s _ _ _ _ _ hR3 hm.2 hm1 hm2 hall (by omega)).mono ?_
                  clear hall
                  rintro e w5 ⟨rfl, hb5⟩
                  replace hR3 := row_below hR3 hb5
                  replace hWas3 := row_below hWas3 hb5
                  replace hOp3 := row_below hOp3 hb5
                  replace hW3 := bel_call hW3 hb5
                  clear hb5
                  go_wp2_with fail
                  go_loop [18] (fun i => i = .int .i64 1) (fun _ => 0)
                  case atStart => rfl
                  case round =>
                    obtain rfl := hrel
                    go_wp2_with fail
                    go_meet
                    case rel => exact ⟨_, cnt, s, rfl, hR3, hI, Same18.refl _ _ _, hWas3, hOp3, hW3⟩
            · have hk0' : ((ops k).k == 0) = false := by simpa using hk0
              clear hk0
              by_cases hk1 : (ops k).k = 1
              · have hk1' : ((ops k).k == 1) = true := by simpa using hk1
                clear hk1
                cases hmy : mayB (ops k).ar (ops k).ac with
                | false =>
                  go_wp2_with fail
                  refine (move_addr _ _ _ _ _ hmy).mono ?_
                  rintro e w5 ⟨rfl, hb5⟩
                  replace hR3 := row_below hR3 hb5
                  replace hWas3 := row_below hWas3 hb5
                  replace hOp3 := row_below hOp3 hb5
                  replace hW3 := bel_call hW3 hb5
                  clear hb5
                  go_wp2_with fail
                  go_meet
                  case rel => exact ⟨_, cnt, s, rfl, hR3, hI, Same18.refl _ _ _, hWas3, hOp3, hW3⟩
                | true =>
                  cases hop : isOpen most s (ops k).v with
                  | false =>
                    go_wp2_with fail
                    refine (move_no vb most cnt s _ _ _ _ hR3 hm.2 hmy hop).mono ?_
                    rintro e w5 ⟨rfl, hb5⟩
                    replace hR3 := row_below hR3 hb5
                    replace hWas3 := row_below hWas3 hb5
                    replace hOp3 := row_below hOp3 hb5
                    replace hW3 := bel_call hW3 hb5
                    clear hb5
                    go_wp2_with fail
                    go_meet
                    case rel => exact ⟨_, cnt, s, rfl, hR3, hI, Same18.refl _ _ _, hWas3, hOp3, hW3⟩
                  | true =>
                    have hrg := isOpen_range hop
                    go_wp2_with fail
                    refine (move_yes vb most cnt s _ _ _ _ hR3 hm.2 hmy hop).mono ?_
                    rintro e w5 ⟨rfl, hR5, hg5⟩
                    replace hWas3 := row_grown hWas3 hg5 (by omega)
                    replace hOp3 := row_grown hOp3 hg5 (by omega)
                    replace hW3 := hW3.trans (below_of_grown hg5 hW3.size (by omega))
                    clear hg5
                    go_wp2_with fail
                    go_meet
                    case rel => exact ⟨_, cnt, _, rfl, hR5, hI.moved hmy hop, Same18.upd_ _ _ _ _ _ (by omega), hWas3, hOp3, hW3⟩
              · have hk1' : ((ops k).k == 1) = false := by simpa using hk1
                clear hk1
                by_cases hk2 : (ops k).k = 2
                · have hk2' : ((ops k).k == 2) = true := by simpa using hk2
                  clear hk2
                  cases hop : isOpen most s (ops k).v with
                  | false =>
                    go_wp2_with fail
                    refine (close_no vb most cnt s _ _ hR3 hm.2 hop).mono ?_
                    rintro e w5 ⟨rfl, rfl⟩
                    go_wp2_with fail
                    go_meet
                    case rel => exact ⟨_, cnt, s, rfl, hR3, hI, Same18.refl _ _ _, hWas3, hOp3, hW3⟩
                  | true =>
                    have hrg := isOpen_range hop
                    go_wp2_with fail
                    refine (close_yes vb most cnt s _ _ hR3 hm.2 ⟨hbd.1, hbd.2.2⟩ hop).mono ?_
                    rintro e w5 ⟨rfl, hR5, hg5⟩
                    replace hWas3 := row_grown hWas3 hg5 (by omega)
                    replace hOp3 := row_grown hOp3 hg5 (by omega)
                    replace hW3 := hW3.trans (below_of_grown hg5 hW3.size (by omega))
                    clear hg5
                    go_wp2_with fail
                    go_meet
                    case rel => exact ⟨_, cnt - 1, _, rfl, hR5, hI.closed hop, Same18.upd_ _ _ _ _ _ (by omega), hWas3, hOp3, hW3⟩
                · have hk2' : ((ops k).k == 2) = false := by simpa using hk2
                  clear hk2
                  go_wp2_with fail
                  go_meet
                  case rel => exact ⟨_, cnt, s, rfl, hR3, hI, Same18.refl _ _ _, hWas3, hOp3, hW3⟩
          case rest =>
            obtain ⟨hh, cnt2, s2, rfl, hR4, hI2, hsame, hWas4, hOp4, hW4⟩ := hcut
            clear hR2 hWas2 hOp2 hW2 q0 q1 q2 q3 q4 q5 cO0 cO17 hR hW ltW ltO hRw
            go_wp2_with fail
            go_loopw [19] (fun s19 wr => ∃ j : Nat, j ≤ 18 ∧ s19 = .int .i64 j ∧ VIs wr vb most cnt2 s2 ∧ wr.rowIs wo.heap.size 48 72 (wf (wasf most s 18)) ∧ wr.rowIs (wo.heap.size + 1) 49 18 (opf most s 18) ∧ Below w.heap.size w wr)
              (fun s19 _ => 18 - (intOf s19).toNat)
            case atStart => exact ⟨0, by omega, rfl, hR4, hWas4, hOp4, hW4⟩
            case round =>
              obtain ⟨j, hj, rfl, hR5, hWas5, hOp5, hW5⟩ := hrel
              clear hR4 hWas4 hOp4 hW4
              by_cases hj18 : j < 18
              · go_wp2_with fail
                refine (rect_any vb most cnt2 s2 j _ hR5 hI2).mono ?_
                rintro e w6 ⟨rfl, hb6⟩
                replace hR5 := row_below hR5 hb6
                replace hWas5 := row_below hWas5 hb6
                replace hOp5 := row_below hOp5 hb6
                replace hW5 := bel_call hW5 hb6
                clear hb6
                have ltW := hWas5.lt
                have ltO := hOp5.lt
                by_cases hjh : (j : Int) = hh
                · have hne : ((j : Int) != hh) = false := by simpa using hjh
                  clear hjh
                  go_wp2_with fail
                  go_quiet (fail)
                  go_wp2_with fail
                  go_roundw
                  case rel => exact ⟨j + 1, by omega, by go_num, hR5.alloc _, hWas5.alloc _, hOp5.alloc _, bel_drewN (bel_alloc hW5 _) _⟩
                  case measure => simp [intOf]; omega
                · have hne : ((j : Int) != hh) = true := by simpa using hjh
                  obtain ⟨hs1, hs2⟩ := hsame j hjh
                  clear hjh
                  have hwj : wasf most s 18 j = rectv most s j := by
                    unfold wasf
                    rw [if_pos hj18]
                  have cW0 : w6.cell? ⟨wo.heap.size, j * 4, none⟩ = some (.int .i64 (rectv most s j).r) := (hWas5.cell (by omega)).trans (by rw [show j * 4 = j * 4 + 0 by omega, wf_at _ _ _ (by omega), hwj]; rfl)
                  have cW1 : w6.cell? ⟨wo.heap.size, j * 4 + 1, none⟩ = some (.int .i64 (rectv most s j).c) := (hWas5.cell (by omega)).trans (by rw [wf_at _ _ _ (by omega), hwj]; rfl)
                  have cW2 : w6.cell? ⟨wo.heap.size, j * 4 + 2, none⟩ = some (.int .i64 (rectv most s j).m) := (hWas5.cell (by omega)).trans (by rw [wf_at _ _ _ (by omega), hwj]; rfl)
                  have cW3 : w6.cell? ⟨wo.heap.size, j * 4 + 3, none⟩ = some (.int .i64 (rectv most s j).n) := (hWas5.cell (by omega)).trans (by rw [wf_at _ _ _ (by omega), hwj]; rfl)
                  clear hwj
                  cases ho : isOpen most s j with
                  | true =>
                    have cO : w6.cell? ⟨wo.heap.size + 1, j, none⟩ = some (.bool true) := (hOp5.cell (by omega)).trans (by simp [opf, ho, hj18])
                    have hg : gcode most s2 j = 0 := by simp [gcode, hs2, ho]
                    clear hs2 ho
                    go_wp2_with fail
                    go_quiet (fail)
                    go_wp2_with fail
                    go_roundw
                    case rel => exact ⟨j + 1, by omega, by go_num, hR5.alloc _, hWas5.alloc _, hOp5.alloc _, bel_drewN (bel_alloc hW5 _) _⟩
                    case measure => simp [intOf]; omega
                  | false =>
                    have cO : w6.cell? ⟨wo.heap.size + 1, j, none⟩ = some (.bool false) := (hOp5.cell (by omega)).trans (by simp [opf, ho])
                    have hg : gcode most s2 j = 4 := by simp [gcode, hs2, ho]
                    clear hs2 ho
                    go_wp2_with fail
                    go_quiet (fail)
                    go_wp2_with fail
                    go_roundw
                    case rel => exact ⟨j + 1, by omega, by go_num, hR5.alloc _, hWas5.alloc _, hOp5.alloc _, bel_drewN (bel_alloc hW5 _) _⟩
                    case measure => simp [intOf]; omega
              · obtain rfl : j = 18 := by omega
                go_wp2_with fail
                go_roundg (len - (k + 1))
                case measure => omega
                case rel => exact ⟨k + 1, cnt2, s2, by omega, rfl, by go_num, hR5, hI2, hW5⟩
    · go_wp2_with fail
      go_ret
      exact ⟨rfl, hW⟩
end Go.Proofs.Ytocglcngfgpfnaa

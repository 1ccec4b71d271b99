/-
  The law's refsOf, reached. Conditions: those of each theorem.
-/
import Derived.Test.YtdionganlmnlkaaMLives
import Derived.Test.YtdionganlmnlkaaOlM
namespace Go.Proofs.Ytdionganlmnlkaa
open Go.ChangeShapes Go.WideShapes Go.ChangeAt Go.RowKit Go.Deep
attribute [local go_sem] Cls

/-- Who lies in each set that holds who refers to c and is closed upwards. -/
def RchP (Es : List Ed) (c x : Cl) : Prop := ∀ Q : Cl → Prop, (∀ y, y ∈ drc Es c → Q y) → (∀ p z, Q p → z ∈ drc Es p → Q z) → Q x
theorem RchP.one {Es : List Ed} {c x : Cl} (h : x ∈ drc Es c) : RchP Es c x := fun _ h1 _ => h1 x h
theorem RchP.step {Es : List Ed} {c x z : Cl} (h : RchP Es c x) (hz : z ∈ drc Es x) : RchP Es c z := fun Q h1 h2 => h2 x z (h Q h1 h2) hz
def mz (E o l : Nat) : Nat := (E - o) * (E + 1) + l
theorem mz_seen {l : Nat} (E o : Nat) (h : 1 ≤ l) : mz E o (l - 1) < mz E o l := by unfold mz; omega
theorem mz_new {E o l d : Nat} (h : 1 ≤ l) (ho : o + 1 ≤ E) (hd : d ≤ E) : mz E (o + 1) (l - 1 + d) < mz E o l := by
  unfold mz
  rw [show E - o = (E - (o + 1)) + 1 by omega, Nat.add_mul, Nat.one_mul]
  omega
/-- What refsOf tells. -/
def RefsOf (Es : List Ed) (c : Cl) : List Rf := (Es.filter fun e => decide (eCl e = c)).map eRf
theorem refsOf_pos {Es : List Ed} {c : Cl} : 0 < (RefsOf Es c).length ↔ c ∈ Es.map eCl := by
  unfold RefsOf
  rw [List.length_map, List.length_pos_iff_exists_mem]
  constructor
  · rintro ⟨e, he⟩
    rw [List.mem_filter, decide_eq_true_iff] at he
    exact List.mem_map.2 ⟨e, he.1, he.2⟩
  · intro h
    obtain ⟨e, he, h1⟩ := List.mem_map.1 h
    exact ⟨e, List.mem_filter.2 ⟨he, decide_eq_true h1⟩⟩
set_option maxHeartbeats 6400000 in
set_option maxRecDepth 100000 in
theorem refsOf_any {w : World} {yb : Nat} {Oy : Nat → Prop} {Es : List Ed} (row cl : Int) (h : RS w yb Oy Es) (hl : (Es.length + 1) * 56 ≤ 140737488355328) :
    Calls Try.prog 9 #[.pointer (some ⟨yb, 0, none⟩), .agg #[.int .i64 row, .int .i64 cl]] w fun e w' => ∃ v, e = .returned v ∧ OL KF w' w.heap.size v (RefsOf Es ⟨row, cl⟩) ∧ Below w.heap.size w w' := by
  obtain ⟨A, cap, htop0, hLe0⟩ := h.list
  have hEl : Es.length ≤ 9223372036854775807 := by omega
  go_enter Try.func9, Try.ntmps9
  go_wp2_with fail
  have hW0 := bel_alloc (bel_refl w) (.cells #[.int .i64 row, .int .i64 cl] 32)
  have kc0 := Blk.new w rfl 32 #[.int .i64 row, .int .i64 cl]
  go_loopw [5, 6] (fun s5 s6 wr => ∃ (k : Nat) (G : List Rf), k ≤ Es.length ∧ s6 = .int .i64 k ∧ OL KF wr (w.heap.size + 1) s5 G ∧ Hid (G = RefsOf (Es.take k) ⟨row, cl⟩) ∧ G.length ≤ k ∧ Blk wr w.heap.size 32 #[.int .i64 row, .int .i64 cl] ∧ Below w.heap.size w wr) (fun _ s6 _ => (Es.length - (intOf s6).toNat : Nat))
  case atStart => exact ⟨0, [], Nat.zero_le _, rfl, OL.nil _ _, Lib.hid rfl, Nat.le_refl _, kc0, hW0⟩
  case round =>
    obtain ⟨k, G, hk, rfl, hO, HG, hGl, kc, hW⟩ := hrel
    clear kc0 hW0
    have htop := htop0.below hW
    have rdt := htop.rd
    have ltt := htop.lt
    by_cases hkl : k < Es.length
    · obtain ⟨x, hx⟩ : ∃ x, Es[k]? = some x := ⟨_, List.getElem?_eq_getElem hkl⟩
      obtain ⟨g, off, hAe, hg, c0, c1, c2, c3, c4, c5, c6⟩ := ed_at (hLe0.below hW) hx
      subst hAe
      have HX := Lib.hid hx
      obtain ⟨q, hq⟩ : ∃ q, q = decide ((⟨x.row, x.col⟩ : Cl) = ⟨row, cl⟩) := ⟨_, rfl⟩
      have hne := fun W => eql_cell W x.row x.col row cl
      rw [← hq] at hne
      have HST : Hid (RefsOf (Es.take (k + 1)) ⟨row, cl⟩ = if q = true then G ++ [eRf x] else G) := Lib.hid (by
        unfold RefsOf
        rw [List.take_add_one, hx, List.filter_append, List.map_append, show List.map eRf (List.filter (fun e => decide (eCl e = ⟨row, cl⟩)) (Es.take k)) = G from HG.out.symm, hq]
        by_cases hc : (⟨x.row, x.col⟩ : Cl) = ⟨row, cl⟩
        · rw [decide_eq_true hc]
          have : eCl x = ⟨row, cl⟩ := hc
          simp [this]
        · rw [decide_eq_false hc]
          have : eCl x ≠ ⟨row, cl⟩ := hc
          simp [this])
      have i0 : (0 : Int) ≤ (k : Int) := by omega
      have i1 : (k : Int) < (Es.length : Int) := by omega
      have d0 := fun d os => cell_regrown c0 d os
      have d1 := fun d os => cell_regrown c1 d os
      have gc := kc.gr
      have gt := htop.gr
      clear hq hx
      go_wp2_with fail
      refine wp_region_quiet_below (by kernel_rfl) (by kernel_rfl) ?_
      repeat (any_goals (first | go_big_quiet_step ((fail)) | fail))
      refine wpQuiet_nil ?_
      intro w5 hw'
      have hb5 := class_below hw'
      have hO5 := hO.below hb5
      have kc5 := kc.below hb5
      have hW5 := bel_call hW hb5
      have htop5 := htop.below hb5
      clear hw' d0 d1 gc gt hne rdt ltt hb5 c0 c1 c2 c3 c4 c5 c6 hO kc hW htop
      cases q with
      | false =>
        go_wp2_with fail
        go_roundw
        case rel => exact ⟨k + 1, G, by omega, by go_num, hO5, Lib.hid (by rw [HST.out]; rfl), by omega, kc5, hW5⟩
        case measure => simp [intOf]; omega
      | true =>
        obtain ⟨g2, off2, hAe2, hg2, c0, c1, c2, c3, c4, c5, c6⟩ := ed_at (hLe0.below hW5) HX.out
        injection hAe2 with hAe2
        injection hAe2 with hAe3 hAe4 _
        subst hAe3 hAe4
        have rdt := htop5.rd
        have ltt := htop5.lt
        have hO6 := hO5.alloc (.cells #[.bool x.m, .int .i64 x.t, .int .i64 x.l, .int .i64 x.b, .int .i64 x.r] 53)
        have kc6 := kc5.alloc (.cells #[.bool x.m, .int .i64 x.t, .int .i64 x.l, .int .i64 x.b, .int .i64 x.r] 53)
        have hW6 := bel_alloc hW5 (.cells #[.bool x.m, .int .i64 x.t, .int .i64 x.l, .int .i64 x.b, .int .i64 x.r] 53)
        have hlies : Lies KF (w5.alloc (.cells #[.bool x.m, .int .i64 x.t, .int .i64 x.l, .int .i64 x.b, .int .i64 x.r] 53)) (some ⟨w5.heap.size, 0, none⟩) [eRf x] := Lies.blk (Blk.new w5 rfl 53 #[.bool x.m, .int .i64 x.t, .int .i64 x.l, .int .i64 x.b, .int .i64 x.r]) rfl
        have hb1' : G.length + [eRf x].length ≤ maxLen := by show G.length + 1 ≤ _; unfold maxLen; omega
        have hb2' : (G.length + [eRf x].length) * KF.bytes ≤ 140737488355328 := Nat.le_trans (Nat.mul_le_mul (show G.length + 1 ≤ Es.length + 1 by omega) (show KF.bytes ≤ 56 by decide)) hl
        have hb3' : w.heap.size + 1 ≤ (w5.alloc (.cells #[.bool x.m, .int .i64 x.t, .int .i64 x.l, .int .i64 x.b, .int .i64 x.r] 53)).heap.size := kc6.lt
        go_wp2_with (at_builtin; (refine wp_ol_append info_kf rfl Try.underlying33 rfl _ _ rfl rfl hO6 (M := [eRf x]) (c := 1) rfl rfl hlies hb1' hb2' hb3' ?_); intro v7 w7 hO7 hg7)
        have hW7 := bel_grown hW6 hg7 (fun z hz => by have := (hO6.lt z hz).1; omega)
        have kc7 := kc6.grownX hg7 (fun e => by have := (hO6.lt _ e.symm).1; omega)
        go_roundw
        case rel => exact ⟨k + 1, G ++ [eRf x], by omega, by go_num, hO7, Lib.hid (by rw [HST.out]; rfl), by simp; omega, kc7, hW7⟩
        case measure => simp [intOf]; omega
    obtain rfl : k = Es.length := by omega
    rw [List.take_length] at HG
    have i1 : ¬ ((Es.length : Int) < (Es.length : Int)) := by omega
    rw [HG.out] at hO
    have hO5 := hO.low (Nat.le_succ _)
    go_wp2_with fail
    go_ret
    exact ⟨_, rfl, hO5, hW⟩
/-- What reached tells. -/
def ReachIs (w : World) (Es : List Ed) (c : Cl) (e : Ending) (w' : World) : Prop := ∃ v out, e = .returned v ∧ OL KC w' w.heap.size v out ∧ (∀ x, x ∈ out → x ∈ Es.map eCl ∧ RchP Es c x) ∧ out.length ≤ Es.length ∧ Below w.heap.size w w'
set_option maxHeartbeats 12800000 in
set_option maxRecDepth 100000 in
theorem reached_any {w : World} {bb db mb yb rb : Nat} {Oy : Nat → Prop} {Es : List Ed} (row cl : Int) (htop : Blk w bb 30 #[.pointer (some ⟨db, 0, none⟩), .pointer (some ⟨mb, 0, none⟩), .pointer (some ⟨yb, 0, none⟩), .pointer (some ⟨rb, 0, none⟩)]) (hs : RS w yb Oy Es) (hsrt : SrtE Es) (hE20 : Es.length ≤ 1048576) :
    Calls Try.prog 14 #[.pointer (some ⟨bb, 0, none⟩), .agg #[.int .i64 row, .int .i64 cl]] w (ReachIs w Es ⟨row, cl⟩) := by
  have HSRT := Lib.hid hsrt
  have hE56 : (Es.length + 1) * 56 ≤ 140737488355328 := by omega
  have HRS := Lib.hid hs
  go_enter Try.func14, Try.ntmps14
  go_wp2_with fail
  have hB1 := bel_alloc (bel_refl w) (.cells #[.int .i64 row, .int .i64 cl] 32)
  have kc := Blk.new w rfl 32 #[.int .i64 row, .int .i64 cl]
  have htop1 := htop.below hB1
  have hs1 := kc.lt
  have hbb := htop.lt
  generalize hwz : w.alloc (.cells #[.int .i64 row, .int .i64 cl] 32) = w1 at hB1 kc htop1 hs1 ⊢
  obtain ⟨gc, hgc⟩ : ∃ gc, gc = w.heap.size := ⟨_, rfl⟩
  rw [← hgc] at kc ⊢
  have HGC := Lib.hid hgc
  clear hwz hgc
  replace HRS := Lib.hid (HRS.out.below hB1)
  obtain ⟨S, hSS⟩ : ∃ S : World → Prop, S = fun W => Blk W bb 30 #[.pointer (some ⟨db, 0, none⟩), .pointer (some ⟨mb, 0, none⟩), .pointer (some ⟨yb, 0, none⟩), .pointer (some ⟨rb, 0, none⟩)] ∧ Blk W gc 32 #[.int .i64 row, .int .i64 cl] := ⟨_, rfl⟩
  have q0 := fun x => (held_of hSS x).1.rd
  have l0 := fun x => (held_of hSS x).1.lt
  have q1 := fun x => (held_of hSS x).2.rd
  have HSS := Lib.hid hSS
  have HCL : Hid (∀ W', Below w1.heap.size w1 W' → S W') := Lib.hid (fun W' hB => held_in HSS.out ⟨htop1.below hB, kc.below hB⟩)
  have hS0 : S w1.drew := HCL.out _ (bel_drew (bel_refl w1))
  haveI : Nonempty (Held S) := ⟨⟨_, hS0⟩⟩
  clear hSS
  refine wp_region_tree (S := S) 7 (.q 0 <| .q 1 <| .q 2 <| .q 3 <| .q 4 <| .a 5 <| .q 6 <| .done) [] (by kernel_rfl) (by kernel_rfl) hS0 ?_
  repeat (refine tree_q (by rfl) (by rfl) (fun K hK => ?_); go_simp; refine hK _ ?_; clear hK K)
  refine tree_a (by rfl) (by rfl) (fun K hK => ?_)
  go_simp
  refine (rs_direct yb Oy Es row cl _ (HRS.out.below (bel_drew (bel_refl w1))) hE56).mono ?_
  rintro e w2 ⟨v1, rfl, hOW, hb4⟩
  have hB4 := bel_call (bel_drew (bel_refl w1)) hb4
  clear hb4
  refine hK _ _ (HCL.out _ (hB4)) ?_
  clear hK K
  repeat (refine tree_q (by rfl) (by rfl) (fun K hK => ?_); go_simp; refine hK _ ?_; clear hK K)
  refine tree_nil ?_
  clear q0 l0 q1 hS0 HSS HCL
  have hO0 := hOW.low (B' := w.heap.size + 1) (show w.heap.size + 1 ≤ w1.heap.size from hs1)
  have hL0 : Hid (∀ y, y ∈ drs row cl Es → y ∈ Es.map eCl ∧ RchP Es ⟨row, cl⟩ y) := Lib.hid (fun y hy => ⟨drc_mem HSRT.out (y := ⟨row, cl⟩) hy, RchP.one (c := ⟨row, cl⟩) hy⟩)
  have hl0 : (drs row cl Es).length ≤ Es.length := drc_len Es ⟨row, cl⟩
  have htop2 := htop1.below hB4
  have HRS2 := Lib.hid (HRS.out.below hB4)
  have hW2 := bel_call hB1 hB4
  have hw2 : w.heap.size + 1 ≤ w2.heap.size := Nat.le_trans hs1 hB4.size
  generalize drs row cl Es = l0 at hO0 hL0 hl0
  clear hOW htop1 kc HRS hB4 hB1 HGC
  go_wp2_with fail
  go_loopg [5, 6] (mz Es.length 0 l0.length) (fun gk s5 s6 wr => ∃ (out l : List Cl), OL KC wr (w.heap.size + 1) s5 out ∧ OL KC wr (w.heap.size + 1) s6 l ∧ (∀ g, s5.ownBlock = some g → s6.ownBlock ≠ some g) ∧ Blk wr bb 30 #[.pointer (some ⟨db, 0, none⟩), .pointer (some ⟨mb, 0, none⟩), .pointer (some ⟨yb, 0, none⟩), .pointer (some ⟨rb, 0, none⟩)] ∧ Hid (RS wr yb Oy Es) ∧ out.Nodup ∧ Hid (∀ y, y ∈ out → y ∈ Es.map eCl ∧ RchP Es ⟨row, cl⟩ y) ∧ Hid (∀ y, y ∈ l → y ∈ Es.map eCl ∧ RchP Es ⟨row, cl⟩ y) ∧ l.length ≤ Es.length + out.length * Es.length ∧ mz Es.length out.length l.length ≤ gk ∧ w.heap.size + 1 ≤ wr.heap.size ∧ Below w.heap.size w wr)
  case atStart => exact ⟨[], l0, OL.nil _ _, hO0, fun g hg => (by cases hg), htop2, HRS2, List.nodup_nil, Lib.hid (fun y hy => by cases hy), hL0, by omega, Nat.le_refl _, hw2, hW2⟩
  case round =>
    clear hO0 hL0 hl0 htop2 HRS2 hW2
    obtain ⟨out, l, hO5, hO6, hv56, htopr0, HRSr0, hnd, HOUT, HLL, hll, hgk, hw1, hW⟩ := hrel
    have hol : out.length ≤ Es.length := by
      have := nodup_len hnd (fun y hy => (HOUT.out y hy).1)
      rwa [List.length_map] at this
    have hmx0 : out.length * Es.length ≤ 1099511627776 := Nat.le_trans (Nat.mul_le_mul hol (Nat.le_refl _)) (Nat.mul_le_mul hE20 hE20)
    obtain ⟨A6, c6, rfl, hcap6, hcm6, hLi6, hA6⟩ := hO6.see
    cases l with
    | nil =>
      have hO9 := hO5.low (Nat.le_succ _)
      go_wp2_with fail
      go_ret
      exact ⟨_, out, rfl, hO9, HOUT.out, hol, hW⟩
    | cons x l' =>
      obtain ⟨l, hle⟩ : ∃ l, l = x :: l' := ⟨_, rfl⟩
      rw [← hle] at hO6 HLL hll hgk hcap6 hLi6 ⊢
      have hx : l[0]? = some x := by rw [hle]; rfl
      have hlpos : 1 ≤ l.length := by rw [hle]; simp
      have HXL := Lib.hid (HLL.out x (by rw [hle]; simp))
      have HL2 : Hid (∀ y, y ∈ l.drop 1 → y ∈ Es.map eCl ∧ RchP Es ⟨row, cl⟩ y) := Lib.hid (fun y hy => HLL.out y (List.mem_of_mem_drop hy))
      have HLD : Hid ((l.drop 1).length = l.length - 1) := Lib.hid (by simp)
      have hlm : l.length ≤ 9223372036854775807 := by omega
      obtain ⟨g6, rfl⟩ : ∃ g6, A6 = some ⟨g6, 0, none⟩ := by
        rcases hA6 with h | ⟨g6, h, _⟩
        · obtain ⟨g, off, h1, _⟩ := cl_at hLi6 hx
          rw [h] at h1; cases h1
        · exact ⟨g6, h⟩
      have hcc : ∃ g off, (some (⟨g6, 0, none⟩ : Addr)) = some ⟨g, off, none⟩ ∧ g < wr.heap.size ∧ wr.cell? ⟨g, off + 0 * 2, none⟩ = some (.int .i64 x.row) ∧ wr.cell? ⟨g, off + 0 * 2 + 1, none⟩ = some (.int .i64 x.col) := cl_at hLi6 hx
      obtain ⟨g, off, h1, hg6, c0, c1x⟩ := hcc
      injection h1 with h1
      injection h1 with h5 h6 _
      subst h5 h6
      rw [show (0 + 0 * 2 : Nat) = 0 from rfl] at c0
      rw [show (0 + 0 * 2 + 1 : Nat) = 1 from rfl] at c1x
      have i1 : (0 : Int) < (l.length : Int) := by omega
      have i2 : (1 : Int) ≤ (l.length : Int) := by omega
      have i3 : (l.length : Int) ≤ (c6 : Int) := by omega
      clear hx hle hLi6 hA6
      go_upto_region 6 with fail
      clear c0 c1x
      have hBx := bel_alloc (bel_refl wr) (.cells #[.int .i64 x.row, .int .i64 x.col] 32)
      have kx := Blk.new wr rfl 32 #[.int .i64 x.row, .int .i64 x.col]
      have hO5x := hO5.below hBx
      have hO6x := hO6.below hBx
      have htopx := htopr0.below hBx
      have HRSx := Lib.hid (HRSr0.out.below hBx)
      have hWx := bel_call hW hBx
      have hOb : ∀ g, _ → g < _ := fun g hg => Nat.lt_of_lt_of_le (hO5.lt g hg).2 hBx.size
      have hwx : w.heap.size + 1 ≤ _ := Nat.le_trans hw1 hBx.size
      have hgxl := kx.lt
      have hgx5 : ∀ g, _ → g < _ := fun g hg => (hO5.lt g hg).2
      generalize hwz : wr.alloc (.cells #[.int .i64 x.row, .int .i64 x.col] 32) = wx at hBx kx hO5x hO6x htopx HRSx hWx hOb hgxl hwx ⊢
      generalize wr.heap.size = gx at kx hgxl hgx5 hw1 ⊢
      have hLix := ol_lies hO6x
      clear hwz hBx hO5 hO6 htopr0 HRSr0 hW
      have ha1 : ([] : List Cl).length + (l.length - 1) ≤ maxLen := by show 0 + _ ≤ _; unfold maxLen; omega
      have ha2 : (([] : List Cl).length + (l.length - 1)) * KC.bytes ≤ 140737488355328 := by show (0 + _) * 16 ≤ _; omega
      by_cases hcm : c6 = 1
      · have hcmT : (c6 = 1) = True := eq_true hcm
        have hcmT' : (1 = c6) = True := eq_true hcm.symm
        have hX0 : Lies KC wx (some ⟨g6, 0, none⟩) (l.drop 1) := by
          have hX := hLix.cut (a := 1) hcap6
          rw [if_pos hcm] at hX
          exact hX
        clear hcm hLix hO6x
        go_wp2_with (at_builtin; (refine wp_ol_append info_kc rfl Try.underlying41 rfl _ _ rfl rfl (OL.nil _ wx.heap.size) (M := l.drop 1) rfl HLD.out hX0 ha1 ha2 (Nat.le_refl _) ?_); intro v7 w7 hO7 hg7; rw [List.nil_append] at hO7)
        have hB7 : Below wx.heap.size wx w7 := below_of_grown' hg7
        have hOl7 := hO5x.below hB7
        have htop7 := htopx.below hB7
        have kx7 := kx.below hB7
        have hW7 := bel_call hWx hB7
        have hgx7 := hB7.size
        have HRS7 := Lib.hid (HRSx.out.below hB7)
        have hB70 := bel_refl w7
        have hlv : out.length ≤ 9223372036854775807 := by omega
        obtain ⟨A5, c5, rfl, hcap5, hcm5, _, _⟩ := hOl7.see
        clear hX0 hg7 hB7 hO5x htopx kx hWx HRSx
        go_loopw [9, 10] (fun s9 s10 wr => ∃ (k : Nat) (b : Bool), k ≤ out.length ∧ s10 = .int .i64 k ∧ s9 = .bool b ∧ Hid (b = true ↔ x ∈ out.take k) ∧ Below w7.heap.size w7 wr) (fun _ s10 _ => out.length - (intOf s10).toNat)
        case atStart => exact ⟨0, false, Nat.zero_le _, rfl, rfl, Lib.hid (by simp), hB70⟩
        case round =>
          obtain ⟨k, b, hk, rfl, rfl, HB, hBr⟩ := hrel
          clear hB70
          by_cases hkl : k < out.length
          · obtain ⟨y, hy⟩ : ∃ y, out[k]? = some y := ⟨_, List.getElem?_eq_getElem hkl⟩
            have HTK : Hid (out.take (k + 1) = out.take k ++ [y]) := Lib.hid (by rw [List.take_add_one, hy]; rfl)
            obtain ⟨g, off, hAe, hg, c0, c1x⟩ := cl_at ((ol_lies hOl7).below hBr) hy
            subst hAe
            have i0 : (0 : Int) ≤ (k : Int) := by omega
            have i1 : (k : Int) < (out.length : Int) := by omega
            have kxr := kx7.below hBr
            have d0 := fun d os => cell_regrown c0 d os
            have d1 := fun d os => cell_regrown c1x d os
            have gb := kxr.gr
            have lb := kxr.lt
            clear hy
            go_wp2_with fail
            cases b with
            | true =>
              have HB2 : Hid (true = true ↔ x ∈ out.take (k + 1)) := Lib.hid ⟨fun _ => by rw [HTK.out]; exact List.mem_append.2 (.inl (HB.out.1 rfl)), fun _ => rfl⟩
              refine wp_region_quiet_below (by kernel_rfl) (by kernel_rfl) ?_
              repeat (any_goals (first | go_big_quiet_step ((fail)) | fail))
              refine wpQuiet_nil ?_
              intro w5 hw'
              have hb5 := class_below hw'
              clear hw' c0 c1x d0 d1 gb lb kxr hg
              have hBr2 := bel_call hBr hb5
              go_wp2_with fail
              go_roundw
              case rel => exact ⟨k + 1, true, by omega, by go_num, rfl, HB2, hBr2⟩
              case measure => simp [intOf]; omega
            | false =>
              have hE2 := fun W => eql_cell W y.row y.col x.row x.col
              obtain ⟨q, hq⟩ : ∃ q, q = decide ((⟨y.row, y.col⟩ : Cl) = ⟨x.row, x.col⟩) := ⟨_, rfl⟩
              rw [← hq] at hE2
              have HB2 : Hid (q = true ↔ x ∈ out.take (k + 1)) := Lib.hid (by
                have h1 : x ∉ out.take k := fun h => by have := HB.out.2 h; cases this
                rw [HTK.out, List.mem_append, List.mem_singleton, hq, decide_eq_true_iff]
                constructor
                · exact fun h => .inr h.symm
                · exact fun h => h.elim (fun h => absurd h h1) (fun h => h.symm))
              clear hq
              refine wp_region_quiet_below (by kernel_rfl) (by kernel_rfl) ?_
              repeat (any_goals (first | go_big_quiet_step ((fail)) | fail))
              refine wpQuiet_nil ?_
              intro w5 hw'
              have hb5 := class_below hw'
              clear hw' c0 c1x d0 d1 gb lb kxr hg hE2
              have hBr2 := bel_call hBr hb5
              go_wp2_with fail
              go_roundw
              case rel => exact ⟨k + 1, q, by omega, by go_num, rfl, HB2, hBr2⟩
              case measure => simp [intOf]; omega
          obtain rfl : k = out.length := by omega
          have HB3 : Hid (b = true ↔ x ∈ out) := Lib.hid (by have := HB.out; rwa [List.take_length] at this)
          have i1 : ¬ ((out.length : Int) < (out.length : Int)) := by omega
          have hO7r := hO7.below hBr
          have hO5r := hOl7.below hBr
          have htopr := htop7.below hBr
          have kxr := kx7.below hBr
          have hWr := bel_call hW7 hBr
          have hsr := hBr.size
          have HRSr := Lib.hid (HRS7.out.below hBr)
          cases b with
          | true =>
            go_wp2_with fail
            go_roundg (mz Es.length out.length (l.drop 1).length)
            case measure => have := HLD.out; rw [this]; exact Nat.lt_of_lt_of_le (mz_seen _ _ hlpos) hgk
            case rel => exact ⟨out, l.drop 1, hO5r, hO7r.low (by omega), fun g hg e => by have h1 := (hO7r.lt g e).1; have h2 := hOb g hg; omega, htopr, HRSr, hnd, HOUT, HL2, by have := HLD.out; omega, Nat.le_refl _, by omega, hWr⟩
          | false =>
            have hxo : x ∉ out := fun h => by have := HB3.out.2 h; cases this
            have hnd2 : (out ++ [x]).Nodup := by
              rw [List.nodup_append]
              refine ⟨hnd, by simp, fun a ha b hb e => ?_⟩
              rw [List.mem_singleton.1 hb] at e
              exact hxo (by rw [← e]; exact ha)
            have HOUT2 : Hid (∀ y, y ∈ out ++ [x] → y ∈ Es.map eCl ∧ RchP Es ⟨row, cl⟩ y) := Lib.hid (fun y hy => by
              rcases List.mem_append.1 hy with h4 | h4
              · exact HOUT.out y h4
              · rw [List.mem_singleton.1 h4]; exact HXL.out)
            have ho1 : out.length + 1 ≤ Es.length := by
              have := nodup_len hnd2 (fun y hy => (HOUT2.out y hy).1)
              rwa [List.length_append, List.length_map] at this
            have HND2 := Lib.hid hnd2
            have hdl : (drc Es x).length ≤ Es.length := drc_len _ _
            have hlb : (l.drop 1).length + (drc Es x).length ≤ Es.length + (out.length + 1) * Es.length := by have := HLD.out; rw [this, Nat.add_mul]; omega
            have hmx : (out.length + 1) * Es.length ≤ 1099511627776 := Nat.le_trans (Nat.mul_le_mul ho1 (Nat.le_refl _)) (Nat.mul_le_mul hE20 hE20)
            have ha1 : (l.drop 1).length + (drc Es x).length ≤ maxLen := by unfold maxLen; omega
            have ha2 : ((l.drop 1).length + (drc Es x).length) * KC.bytes ≤ 140737488355328 := by show _ * 16 ≤ _; omega
            have HL3 : Hid (∀ y, y ∈ l.drop 1 ++ drc Es x → y ∈ Es.map eCl ∧ RchP Es ⟨row, cl⟩ y) := Lib.hid (fun y hy => by
              rcases List.mem_append.1 hy with h4 | h4
              · exact HL2.out y h4
              · exact ⟨drc_mem HSRT.out h4, HXL.out.2.step h4⟩)
            have hO6 := hO5r.alloc (.cells #[.int .i64 x.row, .int .i64 x.col] 32)
            have hlies : Lies KC (wr.alloc (.cells #[.int .i64 x.row, .int .i64 x.col] 32)) (some ⟨wr.heap.size, 0, none⟩) [x] := Lies.blk (Blk.new wr rfl 32 #[.int .i64 x.row, .int .i64 x.col]) rfl
            have hc1 : out.length + 1 ≤ maxLen := by unfold maxLen; omega
            have hc2 : (out.length + 1) * KC.bytes ≤ 140737488355328 := by show _ * 16 ≤ _; omega
            have hc3 : w.heap.size + 1 ≤ (wr.alloc (.cells #[.int .i64 x.row, .int .i64 x.col] 32)).heap.size := size1 (by omega) _
            have q0 := kxr.rd
            clear hxo hnd2
            go_upto_region 14 with (at_builtin; (refine wp_ol_append_f info_kc rfl Try.underlying41 rfl _ _ rfl rfl hO6 (x := x) (c := 1) rfl hlies hc1 hc2 hc3 ?_); intro v8 w8 hO8 hg8 hn8)
            have hBa := bel_alloc (bel_refl wr) (.cells #[.int .i64 x.row, .int .i64 x.col] 32)
            have hsa := hBa.size
            have hn8' : ∀ g, v8.ownBlock = some g → g < wx.heap.size ∨ wr.heap.size ≤ g := fun g hg => (hn8 g hg).imp (hOb g) (fun h => Nat.le_trans hsa h)
            have hW8 := bel_grown (bel_call hWr hBa) hg8 (fun z hz => by have := (hO6.lt z hz).1; omega)
            have htop8 := (htopr.below hBa).grownX hg8 (fun e => by have := (hO6.lt _ e.symm).1; omega)
            have kx8 := (kxr.below hBa).grownX hg8 (fun e => by have := hgx5 _ e.symm; omega)
            have hO78 := (hO7r.below hBa).grown hg8 (fun g hg e => by have h1 := (hO7r.lt g hg).1; have h2 := hOb g e; omega)
            have hF8 := frm_row hg8
            have HRS8 := Lib.hid ((HRSr.out.below hBa).frm hF8 (fun z hz e => by have h1 := (hO6.lt z e).1; have h2 := hs.lt z hz; omega))
            have hsz8 := hg8.size
            have hxs8 : wx.heap.size ≤ w8.heap.size := by omega
            have hv78 : ∀ g, v8.ownBlock = some g → v7.ownBlock ≠ some g := fun g hg e => by
              have h1 := hO7r.lt g e
              rcases hn8' g hg with h2 | h2 <;> omega
            have hO7 := hO78
            clear hO6 hlies hc1 hc2 hc3 q0 hg8 hn8 hBa hF8 HRSr hO7r hO5r htopr kxr hWr hOl7 htop7 kx7 hW7 HRS7 hO78
            obtain ⟨S, hSS⟩ : ∃ S : World → Prop, S = fun W => Blk W bb 30 #[.pointer (some ⟨db, 0, none⟩), .pointer (some ⟨mb, 0, none⟩), .pointer (some ⟨yb, 0, none⟩), .pointer (some ⟨rb, 0, none⟩)] ∧ Blk W gx 32 #[.int .i64 x.row, .int .i64 x.col] := ⟨_, rfl⟩
            have q0 := fun x => (held_of hSS x).1.rd
            have l0 := fun x => (held_of hSS x).1.lt
            have q1 := fun x => (held_of hSS x).2.rd
            have HSS := Lib.hid hSS
            have HCL : Hid (∀ W', Blk W' bb 30 #[.pointer (some ⟨db, 0, none⟩), .pointer (some ⟨mb, 0, none⟩), .pointer (some ⟨yb, 0, none⟩), .pointer (some ⟨rb, 0, none⟩)] ∧ Blk W' gx 32 #[.int .i64 x.row, .int .i64 x.col] → S W') := Lib.hid (fun W' hB => held_in HSS.out hB)
            have hS0 : S w8.drew := HCL.out _ (⟨htop8.drew, kx8.drew⟩)
            haveI : Nonempty (Held S) := ⟨⟨_, hS0⟩⟩
            clear hSS
            refine wp_region_tree (S := S) 9 (.q 0 <| .q 1 <| .q 2 <| .q 3 <| .q 4 <| .q 5 <| .a 6 <| .a 7 <| .q 8 <| .done) [] (by kernel_rfl) (by kernel_rfl) hS0 ?_
            repeat (refine tree_q (by rfl) (by rfl) (fun K hK => ?_); go_simp; refine hK _ ?_; clear hK K)
            refine tree_a (by rfl) (by rfl) (fun K hK => ?_)
            go_simp
            refine (rs_direct yb Oy Es x.row x.col _ (HRS8.out.below (bel_drew (bel_refl w8))) hE56).mono ?_
            rintro e w9 ⟨v9, rfl, hOW, hb9⟩
            have hB9 := bel_call (bel_drew (bel_refl w8)) hb9
            obtain ⟨A9, c9, rfl, _, _, hLi9, _⟩ := hOW.see
            rw [show drs x.row x.col Es = drc Es x from rfl] at hOW hLi9
            refine hK _ _ (HCL.out _ (⟨htop8.below hB9, kx8.below hB9⟩)) ?_
            clear hK K
            repeat (refine tree_q (by rfl) (by rfl) (fun K hK => ?_); go_simp; refine hK _ ?_; clear hK K)
            refine tree_a (by rfl) (by rfl) (fun K hK => ?_)
            refine op_ol_append_m info_kc rfl Try.underlying41 (.tmp 48) (.tmp 54) (by rfl) (by rfl) (L := l.drop 1) (hO7.below hB9) (M := drc Es x) (A := A9) (c := c9) (by rfl) rfl hLi9 ha1 ha2 (Nat.le_trans hxs8 hB9.size) ?_
            intro v10 w10 hO10 hg10 hn10
            have hn11 : ∀ g, v10.ownBlock = some g → v7.ownBlock = some g ∨ w8.heap.size ≤ g := fun g hg => (hn10 g hg).imp id (fun h => Nat.le_trans hB9.size h)
            have hB10 := bel_grown (a := w) (bel_call hW8 hB9) hg10 (fun z hz => by have := (hO7.lt z hz).1; omega)
            have hs10 := Nat.le_trans hB9.size hg10.size
            have hO11 := (hO8.below hB9).grown hg10 (fun g hg e => hv78 g hg e)
            have ht10 := (htop8.below hB9).grownX hg10 (fun e => by have := (hO7.lt _ e.symm).1; omega)
            have kx10 := (kx8.below hB9).grownX hg10 (fun e => by have := (hO7.lt _ e.symm).1; omega)
            clear hn10 hB9 hb9 hOW hLi9
            refine hK _ _ (HCL.out _ (⟨ht10, kx10⟩)) ?_
            clear hK K
            repeat (refine tree_q (by rfl) (by rfl) (fun K hK => ?_); go_simp; refine hK _ ?_; clear hK K)
            refine tree_nil ?_
            clear q0 l0 q1 hS0 HSS HCL
            go_wp2_with fail
            go_roundg (mz Es.length (out.length + 1) ((l.drop 1).length + (drc Es x).length))
            case measure => have := HLD.out; rw [this]; exact Nat.lt_of_lt_of_le (mz_new hlpos ho1 hdl) hgk
            case rel => exact ⟨out ++ [x], l.drop 1 ++ drc Es x, hO11, hO10.low (by omega), fun g hg e => by
              have h0 := hO8.lt g hg
              rcases hn11 g e with h1 | h1
              · exact hv78 g hg h1
              · omega, ht10, Lib.hid ((hs.below hB10)), HND2.out, HOUT2, HL3, by simp only [List.length_append, List.length_singleton]; exact hlb, by simp, by omega, hB10⟩
      · have hX0 : Lies KC wx (some ⟨g6, 1 * 2, none⟩) (l.drop 1) := by
          have hX := hLix.cut (a := 1) hcap6
          rw [if_neg hcm] at hX
          exact hX
        clear hLix hO6x
        go_wp2_with (at_builtin; (refine wp_ol_append info_kc rfl Try.underlying41 rfl _ _ rfl rfl (OL.nil _ wx.heap.size) (M := l.drop 1) rfl HLD.out hX0 ha1 ha2 (Nat.le_refl _) ?_); intro v7 w7 hO7 hg7; rw [List.nil_append] at hO7)
        have hB7 : Below wx.heap.size wx w7 := below_of_grown' hg7
        have hOl7 := hO5x.below hB7
        have htop7 := htopx.below hB7
        have kx7 := kx.below hB7
        have hW7 := bel_call hWx hB7
        have hgx7 := hB7.size
        have HRS7 := Lib.hid (HRSx.out.below hB7)
        have hB70 := bel_refl w7
        have hlv : out.length ≤ 9223372036854775807 := by omega
        obtain ⟨A5, c5, rfl, hcap5, hcm5, _, _⟩ := hOl7.see
        clear hX0 hg7 hB7 hO5x htopx kx hWx HRSx
        go_loopw [9, 10] (fun s9 s10 wr => ∃ (k : Nat) (b : Bool), k ≤ out.length ∧ s10 = .int .i64 k ∧ s9 = .bool b ∧ Hid (b = true ↔ x ∈ out.take k) ∧ Below w7.heap.size w7 wr) (fun _ s10 _ => out.length - (intOf s10).toNat)
        case atStart => exact ⟨0, false, Nat.zero_le _, rfl, rfl, Lib.hid (by simp), hB70⟩
        case round =>
          obtain ⟨k, b, hk, rfl, rfl, HB, hBr⟩ := hrel
          clear hB70
          by_cases hkl : k < out.length
          · obtain ⟨y, hy⟩ : ∃ y, out[k]? = some y := ⟨_, List.getElem?_eq_getElem hkl⟩
            have HTK : Hid (out.take (k + 1) = out.take k ++ [y]) := Lib.hid (by rw [List.take_add_one, hy]; rfl)
            obtain ⟨g, off, hAe, hg, c0, c1x⟩ := cl_at ((ol_lies hOl7).below hBr) hy
            subst hAe
            have i0 : (0 : Int) ≤ (k : Int) := by omega
            have i1 : (k : Int) < (out.length : Int) := by omega
            have kxr := kx7.below hBr
            have d0 := fun d os => cell_regrown c0 d os
            have d1 := fun d os => cell_regrown c1x d os
            have gb := kxr.gr
            have lb := kxr.lt
            clear hy
            go_wp2_with fail
            cases b with
            | true =>
              have HB2 : Hid (true = true ↔ x ∈ out.take (k + 1)) := Lib.hid ⟨fun _ => by rw [HTK.out]; exact List.mem_append.2 (.inl (HB.out.1 rfl)), fun _ => rfl⟩
              refine wp_region_quiet_below (by kernel_rfl) (by kernel_rfl) ?_
              repeat (any_goals (first | go_big_quiet_step ((fail)) | fail))
              refine wpQuiet_nil ?_
              intro w5 hw'
              have hb5 := class_below hw'
              clear hw' c0 c1x d0 d1 gb lb kxr hg
              have hBr2 := bel_call hBr hb5
              go_wp2_with fail
              go_roundw
              case rel => exact ⟨k + 1, true, by omega, by go_num, rfl, HB2, hBr2⟩
              case measure => simp [intOf]; omega
            | false =>
              have hE2 := fun W => eql_cell W y.row y.col x.row x.col
              obtain ⟨q, hq⟩ : ∃ q, q = decide ((⟨y.row, y.col⟩ : Cl) = ⟨x.row, x.col⟩) := ⟨_, rfl⟩
              rw [← hq] at hE2
              have HB2 : Hid (q = true ↔ x ∈ out.take (k + 1)) := Lib.hid (by
                have h1 : x ∉ out.take k := fun h => by have := HB.out.2 h; cases this
                rw [HTK.out, List.mem_append, List.mem_singleton, hq, decide_eq_true_iff]
                constructor
                · exact fun h => .inr h.symm
                · exact fun h => h.elim (fun h => absurd h h1) (fun h => h.symm))
              clear hq
              refine wp_region_quiet_below (by kernel_rfl) (by kernel_rfl) ?_
              repeat (any_goals (first | go_big_quiet_step ((fail)) | fail))
              refine wpQuiet_nil ?_
              intro w5 hw'
              have hb5 := class_below hw'
              clear hw' c0 c1x d0 d1 gb lb kxr hg hE2
              have hBr2 := bel_call hBr hb5
              go_wp2_with fail
              go_roundw
              case rel => exact ⟨k + 1, q, by omega, by go_num, rfl, HB2, hBr2⟩
              case measure => simp [intOf]; omega
          obtain rfl : k = out.length := by omega
          have HB3 : Hid (b = true ↔ x ∈ out) := Lib.hid (by have := HB.out; rwa [List.take_length] at this)
          have i1 : ¬ ((out.length : Int) < (out.length : Int)) := by omega
          have hO7r := hO7.below hBr
          have hO5r := hOl7.below hBr
          have htopr := htop7.below hBr
          have kxr := kx7.below hBr
          have hWr := bel_call hW7 hBr
          have hsr := hBr.size
          have HRSr := Lib.hid (HRS7.out.below hBr)
          cases b with
          | true =>
            go_wp2_with fail
            go_roundg (mz Es.length out.length (l.drop 1).length)
            case measure => have := HLD.out; rw [this]; exact Nat.lt_of_lt_of_le (mz_seen _ _ hlpos) hgk
            case rel => exact ⟨out, l.drop 1, hO5r, hO7r.low (by omega), fun g hg e => by have h1 := (hO7r.lt g e).1; have h2 := hOb g hg; omega, htopr, HRSr, hnd, HOUT, HL2, by have := HLD.out; omega, Nat.le_refl _, by omega, hWr⟩
          | false =>
            have hxo : x ∉ out := fun h => by have := HB3.out.2 h; cases this
            have hnd2 : (out ++ [x]).Nodup := by
              rw [List.nodup_append]
              refine ⟨hnd, by simp, fun a ha b hb e => ?_⟩
              rw [List.mem_singleton.1 hb] at e
              exact hxo (by rw [← e]; exact ha)
            have HOUT2 : Hid (∀ y, y ∈ out ++ [x] → y ∈ Es.map eCl ∧ RchP Es ⟨row, cl⟩ y) := Lib.hid (fun y hy => by
              rcases List.mem_append.1 hy with h4 | h4
              · exact HOUT.out y h4
              · rw [List.mem_singleton.1 h4]; exact HXL.out)
            have ho1 : out.length + 1 ≤ Es.length := by
              have := nodup_len hnd2 (fun y hy => (HOUT2.out y hy).1)
              rwa [List.length_append, List.length_map] at this
            have HND2 := Lib.hid hnd2
            have hdl : (drc Es x).length ≤ Es.length := drc_len _ _
            have hlb : (l.drop 1).length + (drc Es x).length ≤ Es.length + (out.length + 1) * Es.length := by have := HLD.out; rw [this, Nat.add_mul]; omega
            have hmx : (out.length + 1) * Es.length ≤ 1099511627776 := Nat.le_trans (Nat.mul_le_mul ho1 (Nat.le_refl _)) (Nat.mul_le_mul hE20 hE20)
            have ha1 : (l.drop 1).length + (drc Es x).length ≤ maxLen := by unfold maxLen; omega
            have ha2 : ((l.drop 1).length + (drc Es x).length) * KC.bytes ≤ 140737488355328 := by show _ * 16 ≤ _; omega
            have HL3 : Hid (∀ y, y ∈ l.drop 1 ++ drc Es x → y ∈ Es.map eCl ∧ RchP Es ⟨row, cl⟩ y) := Lib.hid (fun y hy => by
              rcases List.mem_append.1 hy with h4 | h4
              · exact HL2.out y h4
              · exact ⟨drc_mem HSRT.out h4, HXL.out.2.step h4⟩)
            have hO6 := hO5r.alloc (.cells #[.int .i64 x.row, .int .i64 x.col] 32)
            have hlies : Lies KC (wr.alloc (.cells #[.int .i64 x.row, .int .i64 x.col] 32)) (some ⟨wr.heap.size, 0, none⟩) [x] := Lies.blk (Blk.new wr rfl 32 #[.int .i64 x.row, .int .i64 x.col]) rfl
            have hc1 : out.length + 1 ≤ maxLen := by unfold maxLen; omega
            have hc2 : (out.length + 1) * KC.bytes ≤ 140737488355328 := by show _ * 16 ≤ _; omega
            have hc3 : w.heap.size + 1 ≤ (wr.alloc (.cells #[.int .i64 x.row, .int .i64 x.col] 32)).heap.size := size1 (by omega) _
            have q0 := kxr.rd
            clear hxo hnd2
            go_upto_region 14 with (at_builtin; (refine wp_ol_append_f info_kc rfl Try.underlying41 rfl _ _ rfl rfl hO6 (x := x) (c := 1) rfl hlies hc1 hc2 hc3 ?_); intro v8 w8 hO8 hg8 hn8)
            have hBa := bel_alloc (bel_refl wr) (.cells #[.int .i64 x.row, .int .i64 x.col] 32)
            have hsa := hBa.size
            have hn8' : ∀ g, v8.ownBlock = some g → g < wx.heap.size ∨ wr.heap.size ≤ g := fun g hg => (hn8 g hg).imp (hOb g) (fun h => Nat.le_trans hsa h)
            have hW8 := bel_grown (bel_call hWr hBa) hg8 (fun z hz => by have := (hO6.lt z hz).1; omega)
            have htop8 := (htopr.below hBa).grownX hg8 (fun e => by have := (hO6.lt _ e.symm).1; omega)
            have kx8 := (kxr.below hBa).grownX hg8 (fun e => by have := hgx5 _ e.symm; omega)
            have hO78 := (hO7r.below hBa).grown hg8 (fun g hg e => by have h1 := (hO7r.lt g hg).1; have h2 := hOb g e; omega)
            have hF8 := frm_row hg8
            have HRS8 := Lib.hid ((HRSr.out.below hBa).frm hF8 (fun z hz e => by have h1 := (hO6.lt z e).1; have h2 := hs.lt z hz; omega))
            have hsz8 := hg8.size
            have hxs8 : wx.heap.size ≤ w8.heap.size := by omega
            have hv78 : ∀ g, v8.ownBlock = some g → v7.ownBlock ≠ some g := fun g hg e => by
              have h1 := hO7r.lt g e
              rcases hn8' g hg with h2 | h2 <;> omega
            have hO7 := hO78
            clear hO6 hlies hc1 hc2 hc3 q0 hg8 hn8 hBa hF8 HRSr hO7r hO5r htopr kxr hWr hOl7 htop7 kx7 hW7 HRS7 hO78
            obtain ⟨S, hSS⟩ : ∃ S : World → Prop, S = fun W => Blk W bb 30 #[.pointer (some ⟨db, 0, none⟩), .pointer (some ⟨mb, 0, none⟩), .pointer (some ⟨yb, 0, none⟩), .pointer (some ⟨rb, 0, none⟩)] ∧ Blk W gx 32 #[.int .i64 x.row, .int .i64 x.col] := ⟨_, rfl⟩
            have q0 := fun x => (held_of hSS x).1.rd
            have l0 := fun x => (held_of hSS x).1.lt
            have q1 := fun x => (held_of hSS x).2.rd
            have HSS := Lib.hid hSS
            have HCL : Hid (∀ W', Blk W' bb 30 #[.pointer (some ⟨db, 0, none⟩), .pointer (some ⟨mb, 0, none⟩), .pointer (some ⟨yb, 0, none⟩), .pointer (some ⟨rb, 0, none⟩)] ∧ Blk W' gx 32 #[.int .i64 x.row, .int .i64 x.col] → S W') := Lib.hid (fun W' hB => held_in HSS.out hB)
            have hS0 : S w8.drew := HCL.out _ (⟨htop8.drew, kx8.drew⟩)
            haveI : Nonempty (Held S) := ⟨⟨_, hS0⟩⟩
            clear hSS
            refine wp_region_tree (S := S) 9 (.q 0 <| .q 1 <| .q 2 <| .q 3 <| .q 4 <| .q 5 <| .a 6 <| .a 7 <| .q 8 <| .done) [] (by kernel_rfl) (by kernel_rfl) hS0 ?_
            repeat (refine tree_q (by rfl) (by rfl) (fun K hK => ?_); go_simp; refine hK _ ?_; clear hK K)
            refine tree_a (by rfl) (by rfl) (fun K hK => ?_)
            go_simp
            refine (rs_direct yb Oy Es x.row x.col _ (HRS8.out.below (bel_drew (bel_refl w8))) hE56).mono ?_
            rintro e w9 ⟨v9, rfl, hOW, hb9⟩
            have hB9 := bel_call (bel_drew (bel_refl w8)) hb9
            obtain ⟨A9, c9, rfl, _, _, hLi9, _⟩ := hOW.see
            rw [show drs x.row x.col Es = drc Es x from rfl] at hOW hLi9
            refine hK _ _ (HCL.out _ (⟨htop8.below hB9, kx8.below hB9⟩)) ?_
            clear hK K
            repeat (refine tree_q (by rfl) (by rfl) (fun K hK => ?_); go_simp; refine hK _ ?_; clear hK K)
            refine tree_a (by rfl) (by rfl) (fun K hK => ?_)
            refine op_ol_append_m info_kc rfl Try.underlying41 (.tmp 48) (.tmp 54) (by rfl) (by rfl) (L := l.drop 1) (hO7.below hB9) (M := drc Es x) (A := A9) (c := c9) (by rfl) rfl hLi9 ha1 ha2 (Nat.le_trans hxs8 hB9.size) ?_
            intro v10 w10 hO10 hg10 hn10
            have hn11 : ∀ g, v10.ownBlock = some g → v7.ownBlock = some g ∨ w8.heap.size ≤ g := fun g hg => (hn10 g hg).imp id (fun h => Nat.le_trans hB9.size h)
            have hB10 := bel_grown (a := w) (bel_call hW8 hB9) hg10 (fun z hz => by have := (hO7.lt z hz).1; omega)
            have hs10 := Nat.le_trans hB9.size hg10.size
            have hO11 := (hO8.below hB9).grown hg10 (fun g hg e => hv78 g hg e)
            have ht10 := (htop8.below hB9).grownX hg10 (fun e => by have := (hO7.lt _ e.symm).1; omega)
            have kx10 := (kx8.below hB9).grownX hg10 (fun e => by have := (hO7.lt _ e.symm).1; omega)
            clear hn10 hB9 hb9 hOW hLi9
            refine hK _ _ (HCL.out _ (⟨ht10, kx10⟩)) ?_
            clear hK K
            repeat (refine tree_q (by rfl) (by rfl) (fun K hK => ?_); go_simp; refine hK _ ?_; clear hK K)
            refine tree_nil ?_
            clear q0 l0 q1 hS0 HSS HCL
            go_wp2_with fail
            go_roundg (mz Es.length (out.length + 1) ((l.drop 1).length + (drc Es x).length))
            case measure => have := HLD.out; rw [this]; exact Nat.lt_of_lt_of_le (mz_new hlpos ho1 hdl) hgk
            case rel => exact ⟨out ++ [x], l.drop 1 ++ drc Es x, hO11, hO10.low (by omega), fun g hg e => by
              have h0 := hO8.lt g hg
              rcases hn11 g e with h1 | h1
              · exact hv78 g hg h1
              · omega, ht10, Lib.hid ((hs.below hB10)), HND2.out, HOUT2, HL3, by simp only [List.length_append, List.length_singleton]; exact hlb, by simp, by omega, hB10⟩
end Go.Proofs.Ytdionganlmnlkaa

/-
  The document's marks: Touch without a formula. Conditions: those of each theorem.
-/
import Derived.Test.YtdionganlmnlkaaMRTchT
namespace Go.Proofs.Ytdionganlmnlkaa
open Go.ChangeShapes Go.WideShapes Go.ChangeAt Go.RowKit Go.Deep
attribute [local go_sem] Cls
set_option maxHeartbeats 12800000 in
set_option maxRecDepth 100000 in
theorem rtouch_f {rb yb : Nat} {pk : Int} {O Oy : Nat → Prop} {Es : List Ed} {M : List Mk} (row col : Int) {w : World} (h : RK w rb yb pk O M) (hs : RS w yb Oy Es) (hoy : ∀ z, Oy z → ¬ O z) (hsrt : SrtE Es) (hl : (M.length + 2 * Es.length + 4) * 24 ≤ 140737488355328) (hE : (Es.length + 1) * 56 ≤ 140737488355328) :
    Calls Try.prog 28 #[.pointer (some ⟨rb, 0, none⟩), .agg #[.int .i64 row, .int .i64 col], .bool false] w fun e w' => e = .returned (.tuple #[]) ∧ RkTch w rb yb O (M.length + 2 * Es.length + 2) w' := by
  have HMEM : Hid (∀ y x, x ∈ drc Es y → x ∈ Es.map eCl) := Lib.hid (fun y x hx => drc_mem hsrt hx)
  have hT0 : RT w (w.alloc (.cells #[.int .i64 row, .int .i64 col] 32)) rb yb w.heap.size O Oy Es row col pk O M := ⟨h.below (bel_alloc (bel_refl w) _), fun z hz => .inl hz, fun hz => by have := h.lt _ hz; omega, Blk.new w rfl 32 #[.int .i64 row, .int .i64 col], Frm.of_below (bel_alloc (bel_refl w) _), hs.below (bel_alloc (bel_refl w) _), fun z hz => ⟨hs.lt z hz, hoy z hz⟩, Nat.le_refl _⟩
  clear h hs hoy
  go_enter Try.func28, Try.ntmps28
  go_wp2_with fail
  generalize hbcz : w.heap.size = bc at hT0 ⊢
  have HBC := Lib.hid (Nat.le_of_eq hbcz)
  clear hbcz
  refine (rmay_any row col _).mono ?_
  rintro e w1 ⟨rfl, hb1⟩
  have hT := hT0.below hb1
  clear hT0 hb1
  cases hm : mayB row col with
  | false =>
    have hfin := hT.fin (n := M.length + 2 * Es.length + 2) (by omega)
    go_wp2_with fail
    try simp only [Exit.inBlock, Exit.then]
    exact ⟨rfl, .tuple #[], by simp [results, Try.results28, go_sem], rfl, hfin⟩
  | true =>
    clear hm
    obtain ⟨At, ct, htop⟩ := hT.rk.topb
    have q0 := htop.rd
    have l0 := htop.lt
    have z0 := htop.fz
    go_upto_region 4 with fail
    clear q0 l0 z0 htop At ct
    replace hT := hT.peakd 0
    generalize hwz : w1.setCell ⟨rb, 2, none⟩ (.int .i64 0) = w2 at hT ⊢
    clear hwz
    have q1 := hT.box.rd
    go_wp2_with fail
    refine (rkput_any row col (-1) hT.rk (bnd_p (by omega) hl)).mono ?_
    rintro e w3 ⟨rfl, hp⟩
    obtain ⟨O3, hT3, _, _⟩ := hT.putd hp
    clear hp q1 hT
    have hT := hT3
    have hM3 := putL_len ⟨row, col⟩ (-1) M
    clear hT3
    generalize putL (⟨row, col⟩ : Cl) (-1) M = M3 at hT hM3
    have hT4 := hT
    have hM4 := Nat.le_succ_of_le hM3
    clear hT hM3
    generalize hwz : w3 = w4 at hT4 ⊢
    clear hwz
    generalize M3 = M4 at hT4 hM4
    generalize O3 = O4 at hT4
    go_upto_region 8 with fail
    obtain ⟨L, hLe⟩ : ∃ L, L = drs row col Es := ⟨_, rfl⟩
    have HLE : Hid (L = drs row col Es) := Lib.hid hLe
    clear hLe
    obtain ⟨At, ct, htop⟩ := hT4.rk.topb
    have kbx := hT4.box
    have HRT := Lib.hid hT4
    obtain ⟨S, hSS⟩ : ∃ S : World → Prop, S = fun W => Blk W rb 67 #[.slice At M4.length ct, .pointer (some ⟨yb, 0, none⟩), .int .i64 0] ∧ Blk W bc 32 #[.int .i64 row, .int .i64 col] := ⟨_, rfl⟩
    have q0 := fun x => (held_of hSS x).1.rd
    have l0 := fun x => (held_of hSS x).1.lt
    have q1 := fun x => (held_of hSS x).2.rd
    have HSS := Lib.hid hSS
    have HCL : Hid (∀ W', Below w4.heap.size w4 W' → S W') := Lib.hid (fun W' hB => held_in HSS.out ⟨htop.below hB, kbx.below hB⟩)
    have hS0 : S w4.drew := HCL.out _ (bel_drew (bel_refl w4))
    haveI : Nonempty (Held S) := ⟨⟨_, hS0⟩⟩
    clear hSS
    refine wp_region_tree (S := S) 7 (.q 0 <| .q 1 <| .q 2 <| .q 3 <| .q 4 <| .a 5 <| .q 6 <| .done) [] (by kernel_rfl) (by kernel_rfl) hS0 ?_
    repeat (refine tree_q (by rfl) (by rfl) (fun K hK => ?_); go_simp; refine hK _ ?_; clear hK K)
    refine tree_a (by rfl) (by rfl) (fun K hK => ?_)
    go_simp
    refine (rs_direct yb Oy Es row col _ (HRT.out.rs.below (bel_drew (bel_refl w4))) hE).mono ?_
    rintro e w5 ⟨v1, rfl, hOW, hb4⟩
    rw [show drs row col Es = L from HLE.out.symm] at hOW
    have hB4 := bel_call (bel_drew (bel_refl w4)) hb4
    clear hb4
    refine hK _ _ (HCL.out _ (hB4)) ?_
    clear hK K
    repeat (refine tree_q (by rfl) (by rfl) (fun K hK => ?_); go_simp; refine hK _ ?_; clear hK K)
    refine tree_nil ?_
    clear q0 l0 q1 hS0 HSS HCL
    clear htop kbx At ct
    replace hT4 := HRT.out.below hB4
    have hL4 : LO w5 w4.heap.size v1 L O4 := ⟨hOW, fun g hg hz => by have := (hOW.lt g hg).1; have h2 := HRT.out.rk.lt g hz; have h3 : w4.heap.size ≤ g := this; omega⟩
    clear hOW hB4 HRT
    have hLE : L.length ≤ Es.length := by rw [HLE.out]; exact drc_len Es ⟨row, col⟩
    have HLM : Hid (∀ x, x ∈ L → x ∈ Es.map eCl) := Lib.hid (fun x hx => HMEM.out ⟨row, col⟩ x (by rw [HLE.out] at hx; exact hx))
    generalize w4.heap.size = B1 at hL4
    obtain ⟨A1, c1, rfl, hcap1, hcm1, _, _⟩ := hL4.1.see
    go_wp2_with fail
    go_loopw [7, 9] (fun s7 s9 wr => ∃ (k : Nat) (pk' : Int) (O' : Nat → Prop) (M' : List Mk) (P : List Cl), k ≤ L.length ∧ s9 = .int .i64 k ∧ RT w wr rb yb bc O Oy Es row col pk' O' M' ∧ LO wr (bc + 1) s7 P O' ∧ LO wr B1 (.slice A1 L.length c1) L O' ∧ (∀ g, s7.ownBlock = some g → (Value.slice A1 L.length c1).ownBlock ≠ some g) ∧ Hid (PI Es (look M') P) ∧ M'.length ≤ M.length + 2 + k) (fun _ s9 _ => L.length - (intOf s9).toNat)
    case atStart => exact ⟨0, 0, O4, M4, [], Nat.zero_le _, rfl, hT4, LO.nil _ _ _, hL4, fun g hg => (by cases hg), Lib.hid (PI.nil _ _), by omega⟩
    case round =>
      clear hT4 hL4 hM4
      obtain ⟨k, pk', O', M', P, hk, rfl, hT, hS, hL, hvA, HPI, hMl⟩ := hrel
      have hPE := HPI.out.len
      obtain ⟨As, cs, rfl, _, _, _, _⟩ := hS.1.see
      by_cases hkl : k < L.length
      · obtain ⟨x, hx⟩ : ∃ x, L[k]? = some x := ⟨_, List.getElem?_eq_getElem hkl⟩
        obtain ⟨gl, rfl⟩ := hL.addr hx
        have HX := Lib.hid hx
        have HXM : Hid (x ∈ Es.map eCl) := Lib.hid (HLM.out x (List.mem_of_getElem? hx))
        have i0 : (0 : Int) ≤ (k : Int) := by omega
        have i1 : (k : Int) < (L.length : Int) := by omega
        clear hx
        go_wp2_with fail
        have hE2 := fun W => eql_cell W x.row x.col row col
        obtain ⟨q, hq⟩ : ∃ q, q = decide ((⟨x.row, x.col⟩ : Cl) = ⟨row, col⟩) := ⟨_, rfl⟩
        rw [← hq] at hE2
        clear hq
        obtain ⟨hgl, c0, c1x⟩ := hL.cells HX.out
        have d0 := fun d os => cell_regrown c0 d os
        have d1 := fun d os => cell_regrown c1x d os
        have gb := hT.box.gr
        have lb := hT.box.lt
        cases q with
        | true =>
          refine wp_region_quiet_below (by kernel_rfl) (by kernel_rfl) ?_
          repeat (any_goals (first | go_big_quiet_step ((fail)) | fail))
          refine wpQuiet_nil ?_
          intro w6 hw'
          have hb6 := class_below hw'
          clear hw' hE2 c0 c1x d0 d1 gb lb hgl
          replace hT := hT.below hb6
          replace hS := hS.below hb6
          replace hL := hL.below hb6
          clear hb6
          go_wp2_with fail
          go_roundw
          case rel => exact ⟨k + 1, pk', O', M', P, by omega, by go_num, hT, hS, hL, hvA, HPI, by omega⟩
          case measure => simp [intOf]; omega
        | false =>
          refine wp_region_quiet_below (by kernel_rfl) (by kernel_rfl) ?_
          repeat (any_goals (first | go_big_quiet_step ((fail)) | fail))
          refine wpQuiet_nil ?_
          intro w6 hw'
          have hb6 := class_below hw'
          clear hw' hE2 c0 c1x d0 d1 gb lb hgl
          replace hT := hT.below hb6
          replace hS := hS.below hb6
          replace hL := hL.below hb6
          clear hb6
          obtain ⟨hgl, c0, c1x⟩ := hL.cells HX.out
          go_wp2_with fail
          refine (rkstate_any x.row x.col hT.rk).mono ?_
          rintro e w7 ⟨rfl, hb7⟩
          obtain ⟨u, hu⟩ : ∃ u, u = (look M' (⟨x.row, x.col⟩ : Cl)).getD 0 := ⟨_, rfl⟩
          obtain ⟨u2, hu2⟩ : ∃ u, u = (look M' (⟨x.row, x.col⟩ : Cl)).isSome := ⟨_, rfl⟩
          rw [← hu, ← hu2]
          have HU := Lib.hid hu
          replace hT := hT.below hb7
          replace hS := hS.below hb7
          replace hL := hL.below hb7
          clear hu hu2 hb7 hgl c0 c1x
          obtain ⟨hgl, c0, c1x⟩ := hL.cells HX.out
          go_wp2_with fail
          refine (rkput_any x.row x.col 2 hT.rk (bnd_p (by omega) hl)).mono ?_
          rintro e w8 ⟨rfl, hp⟩
          obtain ⟨O8, hT8, hF8, hz8⟩ := hT.putd hp
          replace hS := hS.putd hF8 hz8
          replace hL := hL.putd hF8 hz8
          replace hT := hT8
          have hM8 := putL_len (⟨x.row, x.col⟩ : Cl) 2 M'
          have HPC : Hid (cln (look M' x) → PI Es (look (putL (⟨x.row, x.col⟩ : Cl) 2 M')) (P ++ [x])) := Lib.hid (fun hc => by rw [look_putp (by decide)]; exact HPI.out.push HXM.out hc cln_2)
          have HPN : Hid (PI Es (look (putL (⟨x.row, x.col⟩ : Cl) 2 M')) P) := Lib.hid (by rw [look_putp (by decide)]; exact HPI.out.set cln_2)
          clear hgl c0 c1x hp hF8 hz8 hT8
          generalize putL (⟨x.row, x.col⟩ : Cl) 2 M' = M8 at hT hM8 HPC HPN
          by_cases hu0 : u = 0
          · have HPP : Hid (PI Es (look M8) (P ++ [x])) := Lib.hid (HPC.out (show (look M' x).getD 0 = 0 from by rw [hu0] at HU; exact HU.out.symm))
            subst hu0
            obtain ⟨hgl, c0, c1x⟩ := hL.cells HX.out
            have hT6 := hT.below (bel_alloc (bel_refl w8) (.cells #[.int .i64 x.row, .int .i64 x.col] 32))
            have hS6 := hS.below (bel_alloc (bel_refl w8) (.cells #[.int .i64 x.row, .int .i64 x.col] 32))
            have hL6 := hL.below (bel_alloc (bel_refl w8) (.cells #[.int .i64 x.row, .int .i64 x.col] 32))
            have hlies : Lies KC (w8.alloc (.cells #[.int .i64 x.row, .int .i64 x.col] 32)) (some ⟨w8.heap.size, 0, none⟩) [x] := Lies.blk (Blk.new w8 rfl 32 #[.int .i64 x.row, .int .i64 x.col]) rfl
            have ha0 : P.length + 1 ≤ Es.length + 1 := by omega
            have ha1 : P.length + 1 ≤ maxLen := by unfold maxLen; omega
            have ha2 : (P.length + 1) * KC.bytes ≤ 140737488355328 := bnd_16 ha0 hE
            have ha3 : bc + 1 ≤ (w8.alloc (.cells #[.int .i64 x.row, .int .i64 x.col] 32)).heap.size := hT6.box.lt
            go_wp2_with (at_builtin; (refine wp_ol_append_f info_kc rfl Try.underlying41 rfl _ _ rfl rfl hS6.1 (x := x) (c := 1) rfl hlies ha1 ha2 ha3 ?_); intro v9 w9 hO9 hg9 hn9)
            have hT9 := hT6.step (frm_row hg9) (fun z hz => by have h1 := (hS6.1.lt z hz).1; have h2 := hT6.bcw; exact ⟨by omega, hS6.2 z hz, by omega⟩)
            have hS9 := hS6.app hT6.rk.lt hO9 hn9
            have hL9 := hL6.grown hg9 (fun g hg e => hvA g e hg)
            have hvA9 : ∀ g, v9.ownBlock = some g → (Value.slice (some ⟨gl, 0, none⟩) L.length c1).ownBlock ≠ some g := fun g hg e => (hn9 g hg).elim (fun h1 => hvA g h1 e) (fun h1 => by have := (hL6.1.lt g e).2; omega)
            clear hT6 hS6 hL6 hlies ha0 ha1 ha2 ha3 hO9 hg9 hn9
            clear c0 c1x hgl
            go_roundw
            case rel => exact ⟨k + 1, pk', O8, M8, P ++ [x], by omega, by go_num, hT9, hS9, hL9, hvA9, HPP, by omega⟩
            case measure => simp [intOf]; omega
          · have hq0 : (u == 0) = false := by rw [beq_eq_false_iff_ne]; exact hu0
            go_wp2_with fail
            go_roundw
            case rel => exact ⟨k + 1, pk', O8, M8, P, by omega, by go_num, hT, hS, hL, hvA, HPN, by omega⟩
            case measure => simp [intOf]; omega
      obtain rfl : k = L.length := by omega
      have i1 : ¬ ((L.length : Int) < (L.length : Int)) := by omega
      obtain ⟨At, ct, htop⟩ := hT.rk.topb
      have q0 := htop.rd
      have l0 := htop.lt
      have z0 := htop.fz
      go_wp2_with fail
      clear q0 l0 z0 htop At ct hvA hL
      have hS1 := hS.peakd hT.rk.self (.int .i64 (P.length : Int))
      have hT1 := hT.peakd (P.length : Int)
      clear hT hS
      go_loopg [7] (2 * (Es.length - P.length) + P.length) (fun gk s7 wr => ∃ (pk' : Int) (O' : Nat → Prop) (M' : List Mk) (P stk : List Cl), RT w wr rb yb bc O Oy Es row col pk' O' M' ∧ LO wr (bc + 1) s7 stk O' ∧ Hid (PI Es (look M') P) ∧ stk.length ≤ P.length ∧ M'.length ≤ M.length + 2 + Es.length + P.length ∧ 2 * (Es.length - P.length) + stk.length ≤ gk)
      case atStart => exact ⟨_, O', M', P, P, hT1, hS1, HPI, Nat.le_refl _, by omega, Nat.le_refl _⟩
      case round =>
        clear hT1 hS1 HPI hMl hPE i1 hk hkl
        obtain ⟨pk', O', M', P, stk, hT, hS, HPI, hsl, hMl, hgk⟩ := hrel
        have hPE := HPI.out.len
        obtain ⟨Av, cv, rfl, hcle, hcmx, hLv, hAv⟩ := hS.1.see
        by_cases hst0 : stk.length = 0
        · have hfin := hT.fin (n := M.length + 2 * Es.length + 2) (by omega)
          rw [hst0]
          go_wp2_with fail
          try simp only [Exit.inBlock, Exit.then]
          exact ⟨rfl, .tuple #[], by simp [results, Try.results28, go_sem], rfl, hfin⟩
        · obtain ⟨m, hm⟩ : ∃ m, m + 1 = stk.length := ⟨stk.length - 1, by omega⟩
          obtain ⟨l, hl2⟩ : ∃ l, stk[m]? = some l := ⟨_, List.getElem?_eq_getElem (by omega)⟩
          obtain ⟨gs, rfl⟩ := hS.addr hl2
          obtain ⟨hgs, c0, c1x⟩ := hS.cells hl2
          have hO2 := hS.1.take m (by omega)
          have HMM := Lib.hid hm
          rw [← hm]
          have hmz : m + 1 ≤ 9223372036854775807 := by unfold maxLen at hcmx; omega
          have e0 : IntKind.i64.wrap ((m : Int) + 1 - 1) = (m : Int) := by rw [IntWalk.i64_in _ (by omega)]; omega
          have e1 : (m : Int) + 1 - 1 = (m : Int) := by omega
          have m0 : (0 : Int) ≤ (m : Int) := by omega
          have m1 : (m : Int) < (m : Int) + 1 := by omega
          have m2 : (m : Int) ≤ (cv : Int) := by omega
          clear hst0 hl2 hLv hAv hm
          go_upto_region 21 with fail
          clear c0 c1x e0 e1 m0 m1 hgs hmz m2
          have hB2 := bel_alloc (bel_refl wr) (.cells #[.int .i64 l.row, .int .i64 l.col] 32)
          replace hT := hT.below hB2
          have hS2 : LO (wr.alloc (.cells #[.int .i64 l.row, .int .i64 l.col] 32)) (bc + 1) (.slice (some ⟨gs, 0, none⟩) m cv) (stk.take m) O' := ⟨hO2.below hB2, hS.2⟩
          have kbx : Blk (wr.alloc (.cells #[.int .i64 l.row, .int .i64 l.col] 32)) wr.heap.size 32 #[.int .i64 l.row, .int .i64 l.col] := Blk.new wr rfl _ _
          generalize hwz : wr.alloc (.cells #[.int .i64 l.row, .int .i64 l.col] 32) = w3 at hT hS2 kbx ⊢
          generalize wr.heap.size = bl at kbx ⊢
          have hskl : (stk.take m).length = m := by rw [List.length_take]; have := HMM.out; omega
          have hsl2 : (stk.take m).length ≤ P.length := by rw [hskl]; have := HMM.out; omega
          have hgk2 : 2 * (Es.length - P.length) + (stk.take m).length < gk := by rw [hskl]; have := HMM.out; omega
          generalize stk.take m = sk at hsl2 hgk2 hS2 hskl
          generalize hv2 : Value.slice (some ⟨gs, 0, none⟩) m cv = v2 at hS2 ⊢
          clear hwz hB2 hO2 hS hskl hsl hgk HMM hcle hcmx hv2
          obtain ⟨L2, hLe⟩ : ∃ L2, L2 = drs l.row l.col Es := ⟨_, rfl⟩
          have HLE2 : Hid (L2 = drs l.row l.col Es) := Lib.hid hLe
          clear hLe
          obtain ⟨At, ct, htop⟩ := hT.rk.topb
          generalize M' = M3 at hT htop hMl HPI
          have HRT := Lib.hid hT
          obtain ⟨S, hSS⟩ : ∃ S : World → Prop, S = fun W => Blk W rb 67 #[.slice At M3.length ct, .pointer (some ⟨yb, 0, none⟩), .int .i64 pk'] ∧ Blk W bl 32 #[.int .i64 l.row, .int .i64 l.col] := ⟨_, rfl⟩
          have q0 := fun x => (held_of hSS x).1.rd
          have l0 := fun x => (held_of hSS x).1.lt
          have q1 := fun x => (held_of hSS x).2.rd
          have HSS := Lib.hid hSS
          have HCL : Hid (∀ W', Below w3.heap.size w3 W' → S W') := Lib.hid (fun W' hB => held_in HSS.out ⟨htop.below hB, kbx.below hB⟩)
          have hS0 : S w3.drew := HCL.out _ (bel_drew (bel_refl w3))
          haveI : Nonempty (Held S) := ⟨⟨_, hS0⟩⟩
          clear hSS
          refine wp_region_tree (S := S) 7 (.q 0 <| .q 1 <| .q 2 <| .q 3 <| .q 4 <| .a 5 <| .q 6 <| .done) [] (by kernel_rfl) (by kernel_rfl) hS0 ?_
          repeat (refine tree_q (by rfl) (by rfl) (fun K hK => ?_); go_simp; refine hK _ ?_; clear hK K)
          refine tree_a (by rfl) (by rfl) (fun K hK => ?_)
          go_simp
          refine (rs_direct yb Oy Es l.row l.col _ (HRT.out.rs.below (bel_drew (bel_refl w3))) hE).mono ?_
          rintro e w4 ⟨v1, rfl, hOW, hb4⟩
          rw [show drs l.row l.col Es = L2 from HLE2.out.symm] at hOW
          have hB4 := bel_call (bel_drew (bel_refl w3)) hb4
          clear hb4
          refine hK _ _ (HCL.out _ (hB4)) ?_
          clear hK K
          repeat (refine tree_q (by rfl) (by rfl) (fun K hK => ?_); go_simp; refine hK _ ?_; clear hK K)
          refine tree_nil ?_
          clear q0 l0 q1 hS0 HSS HCL
          clear htop kbx At ct hT
          have hT4 := HRT.out.below hB4
          have hS4 := hS2.below hB4
          have hL4 : LO w4 w3.heap.size v1 L2 O' := ⟨hOW, fun g hg hz => by have h1 := (hOW.lt g hg).1; have h2 := HRT.out.rk.lt g hz; have h3 : w3.heap.size ≤ g := h1; omega⟩
          have hvA4 : ∀ g, v2.ownBlock = some g → v1.ownBlock ≠ some g := fun g hg e => by
            have h1 := (hOW.lt g e).1
            have h2 := (hS2.1.lt g hg).2
            have h3 : w3.heap.size ≤ g := h1
            omega
          clear hOW hB4 HRT hS2
          have hLE2 : L2.length ≤ Es.length := by rw [HLE2.out]; exact drc_len Es ⟨l.row, l.col⟩
          have HLM2 : Hid (∀ x, x ∈ L2 → x ∈ Es.map eCl) := Lib.hid (fun x hx => HMEM.out ⟨l.row, l.col⟩ x (by rw [HLE2.out] at hx; exact hx))
          generalize w3.heap.size = B2 at hL4
          obtain ⟨A2, c2, rfl, hcap2, hcm2, _, _⟩ := hL4.1.see
          go_wp2_with fail
          go_loopw [7, 14] (fun s7 s14 wr => ∃ (k : Nat) (pk' : Int) (O' : Nat → Prop) (M' : List Mk) (P stk : List Cl), k ≤ L2.length ∧ s14 = .int .i64 k ∧ RT w wr rb yb bc O Oy Es row col pk' O' M' ∧ LO wr (bc + 1) s7 stk O' ∧ LO wr B2 (.slice A2 L2.length c2) L2 O' ∧ (∀ g, s7.ownBlock = some g → (Value.slice A2 L2.length c2).ownBlock ≠ some g) ∧ Hid (PI Es (look M') P) ∧ stk.length ≤ P.length ∧ M'.length ≤ M.length + 2 + Es.length + P.length ∧ 2 * (Es.length - P.length) + stk.length < gk) (fun _ s14 _ => L2.length - (intOf s14).toNat)
          case atStart => exact ⟨0, pk', O', M3, P, sk, Nat.zero_le _, rfl, hT4, hS4, hL4, hvA4, HPI, hsl2, hMl, hgk2⟩
          case round =>
            clear hT4 hS4 hL4 hvA4 HPI hsl2 hMl hgk2 hPE
            obtain ⟨k, pk', O', M', P, stk, hk, rfl, hT, hS, hL, hvA, HPI, hsl, hMl, hgk⟩ := hrel
            have hPE := HPI.out.len
            obtain ⟨As, cs, rfl, _, _, _, _⟩ := hS.1.see
            by_cases hkl : k < L2.length
            · obtain ⟨x, hx⟩ : ∃ x, L2[k]? = some x := ⟨_, List.getElem?_eq_getElem hkl⟩
              obtain ⟨gl, rfl⟩ := hL.addr hx
              have HX := Lib.hid hx
              have HXM : Hid (x ∈ Es.map eCl) := Lib.hid (HLM2.out x (List.mem_of_getElem? hx))
              have i0 : (0 : Int) ≤ (k : Int) := by omega
              have i1 : (k : Int) < (L2.length : Int) := by omega
              clear hx
              obtain ⟨hgl, c0, c1x⟩ := hL.cells HX.out
              go_wp2_with fail
              refine (rkstate_any x.row x.col hT.rk).mono ?_
              rintro e w7 ⟨rfl, hb7⟩
              obtain ⟨u, hu⟩ : ∃ u, u = (look M' (⟨x.row, x.col⟩ : Cl)).getD 0 := ⟨_, rfl⟩
              obtain ⟨u2, hu2⟩ : ∃ u, u = (look M' (⟨x.row, x.col⟩ : Cl)).isSome := ⟨_, rfl⟩
              rw [← hu, ← hu2]
              have HU := Lib.hid hu
              replace hT := hT.below hb7
              replace hS := hS.below hb7
              replace hL := hL.below hb7
              clear hu hu2 hb7 hgl c0 c1x
              go_wp2_with fail
              by_cases hu0 : u = 0
              · have HPC : Hid (PI Es (look (putL (⟨x.row, x.col⟩ : Cl) 1 M')) (P ++ [x])) := Lib.hid (by
                  rw [look_putp (by decide)]
                  exact HPI.out.push HXM.out (show (look M' x).getD 0 = 0 from by rw [hu0] at HU; exact HU.out.symm) cln_1)
                subst hu0
                have hE2 := fun W => eql_cell W x.row x.col row col
                obtain ⟨q, hq⟩ : ∃ q, q = decide ((⟨x.row, x.col⟩ : Cl) = ⟨row, col⟩) := ⟨_, rfl⟩
                rw [← hq] at hE2
                clear hq
                obtain ⟨hgl, c0, c1x⟩ := hL.cells HX.out
                have d0 := fun d os => cell_regrown c0 d os
                have d1 := fun d os => cell_regrown c1x d os
                have gb := hT.box.gr
                have lb := hT.box.lt
                cases q with
                | true =>
                  refine wp_region_quiet_below (by kernel_rfl) (by kernel_rfl) ?_
                  repeat (any_goals (first | go_big_quiet_step ((fail)) | fail))
                  refine wpQuiet_nil ?_
                  intro w6 hw'
                  have hb6 := class_below hw'
                  clear hw' hE2 c0 c1x d0 d1 gb lb hgl
                  replace hT := hT.below hb6
                  replace hS := hS.below hb6
                  replace hL := hL.below hb6
                  clear hb6
                  go_wp2_with fail
                  go_roundw
                  case rel => exact ⟨k + 1, pk', O', M', P, stk, by omega, by go_num, hT, hS, hL, hvA, HPI, hsl, by omega, hgk⟩
                  case measure => simp [intOf]; omega
                | false =>
                  refine wp_region_quiet_below (by kernel_rfl) (by kernel_rfl) ?_
                  repeat (any_goals (first | go_big_quiet_step ((fail)) | fail))
                  refine wpQuiet_nil ?_
                  intro w6 hw'
                  have hb6 := class_below hw'
                  clear hw' hE2 c0 c1x d0 d1 gb lb hgl
                  replace hT := hT.below hb6
                  replace hS := hS.below hb6
                  replace hL := hL.below hb6
                  clear hb6
                  obtain ⟨hgl, c0, c1x⟩ := hL.cells HX.out
                  go_wp2_with fail
                  refine (rkput_any x.row x.col 1 hT.rk (bnd_p (by omega) hl)).mono ?_
                  rintro e w8 ⟨rfl, hp⟩
                  obtain ⟨O8, hT8, hF8, hz8⟩ := hT.putd hp
                  replace hS := hS.putd hF8 hz8
                  replace hL := hL.putd hF8 hz8
                  replace hT := hT8
                  have hM8 := putL_len (⟨x.row, x.col⟩ : Cl) 1 M'
                  have hPE8 := HPC.out.len
                  rw [List.length_append, List.length_singleton] at hPE8
                  have hsk8 : (stk ++ [x]).length = stk.length + 1 := by simp
                  have hPk8 : (P ++ [x]).length = P.length + 1 := by simp
                  have HSK := Lib.hid hsk8
                  have HPK := Lib.hid hPk8
                  clear hgl c0 c1x hp hF8 hz8 hT8 hsk8 hPk8
                  generalize putL (⟨x.row, x.col⟩ : Cl) 1 M' = M8 at hT hM8 HPC
                  obtain ⟨hgl, c0, c1x⟩ := hL.cells HX.out
                  have hT6 := hT.below (bel_alloc (bel_refl w8) (.cells #[.int .i64 x.row, .int .i64 x.col] 32))
                  have hS6 := hS.below (bel_alloc (bel_refl w8) (.cells #[.int .i64 x.row, .int .i64 x.col] 32))
                  have hL6 := hL.below (bel_alloc (bel_refl w8) (.cells #[.int .i64 x.row, .int .i64 x.col] 32))
                  have hlies : Lies KC (w8.alloc (.cells #[.int .i64 x.row, .int .i64 x.col] 32)) (some ⟨w8.heap.size, 0, none⟩) [x] := Lies.blk (Blk.new w8 rfl 32 #[.int .i64 x.row, .int .i64 x.col]) rfl
                  have ha0 : stk.length + 1 ≤ Es.length + 1 := by omega
                  have ha1 : stk.length + 1 ≤ maxLen := by unfold maxLen; omega
                  have ha2 : (stk.length + 1) * KC.bytes ≤ 140737488355328 := bnd_16 ha0 hE
                  have ha3 : bc + 1 ≤ (w8.alloc (.cells #[.int .i64 x.row, .int .i64 x.col] 32)).heap.size := hT6.box.lt
                  go_upto_region 29 with (at_builtin; (refine wp_ol_append_f info_kc rfl Try.underlying41 rfl _ _ rfl rfl hS6.1 (x := x) (c := 1) rfl hlies ha1 ha2 ha3 ?_); intro v9 w9 hO9 hg9 hn9)
                  have hT9 := hT6.step (frm_row hg9) (fun z hz => by have h1 := (hS6.1.lt z hz).1; have h2 := hT6.bcw; exact ⟨by omega, hS6.2 z hz, by omega⟩)
                  have hS9 := hS6.app hT6.rk.lt hO9 hn9
                  have hL9 := hL6.grown hg9 (fun g hg e => hvA g e hg)
                  have hvA9 : ∀ g, v9.ownBlock = some g → (Value.slice (some ⟨gl, 0, none⟩) L2.length c2).ownBlock ≠ some g := fun g hg e => (hn9 g hg).elim (fun h1 => hvA g h1 e) (fun h1 => by have := (hL6.1.lt g e).2; omega)
                  clear hT6 hS6 hL6 hlies ha0 ha1 ha2 ha3 hO9 hg9 hn9
                  clear c0 c1x hgl hT hS hL hvA
                  obtain ⟨A9, c9, rfl, _, _, _, _⟩ := hS9.1.see
                  obtain ⟨At, ct, htop⟩ := hT9.rk.topb
                  rw [HSK.out] at hS9 hvA9 ⊢
                  have q0 := htop.rd
                  have l0 := htop.lt
                  have z0 := htop.fz
                  by_cases hpk : pk' < ((stk.length : Int) + 1)
                  · have hd : decide (pk' < ((stk.length : Int) + 1)) = true := decide_eq_true hpk
                    go_wp2_with fail
                    have hS10 := hS9.peakd hT9.rk.self (.int .i64 ((stk.length : Int) + 1))
                    have hL10 := hL9.peakd hT9.rk.self (.int .i64 ((stk.length : Int) + 1))
                    have hT10 := hT9.peakd ((stk.length : Int) + 1)
                    clear q0 l0 z0 htop hT9 hS9 hL9
                    go_roundw
                    case rel => exact ⟨k + 1, _, O8, M8, P ++ [x], stk ++ [x], by omega, by go_num, hT10, hS10, hL10, hvA9, HPC, by rw [HSK.out, HPK.out]; omega, by rw [HPK.out]; omega, by rw [HSK.out, HPK.out]; omega⟩
                    case measure => simp [intOf]; omega
                  · have hd : decide (pk' < ((stk.length : Int) + 1)) = false := decide_eq_false hpk
                    go_wp2_with fail
                    clear q0 l0 z0 htop
                    go_roundw
                    case rel => exact ⟨k + 1, pk', O8, M8, P ++ [x], stk ++ [x], by omega, by go_num, hT9, hS9, hL9, hvA9, HPC, by rw [HSK.out, HPK.out]; omega, by rw [HPK.out]; omega, by rw [HSK.out, HPK.out]; omega⟩
                    case measure => simp [intOf]; omega
              · have hq0 : (u == 0) = false := by rw [beq_eq_false_iff_ne]; exact hu0
                obtain ⟨hgl, c0, c1x⟩ := hL.cells HX.out
                have d0 := fun d os => cell_regrown c0 d os
                have d1 := fun d os => cell_regrown c1x d os
                have gb := hT.box.gr
                have lb := hT.box.lt
                have hE2 := hq0
                have hq1 : (u != 0) = true := by rw [bne_iff_ne]; exact hu0
                have hq2 : decide (u = 0) = false := decide_eq_false hu0
                refine wp_region_quiet_below (by kernel_rfl) (by kernel_rfl) ?_
                repeat (any_goals (first | go_big_quiet_step ((fail)) | fail))
                refine wpQuiet_nil ?_
                intro w6 hw'
                have hb6 := class_below hw'
                clear hw' hE2 c0 c1x d0 d1 gb lb hgl
                replace hT := hT.below hb6
                replace hS := hS.below hb6
                replace hL := hL.below hb6
                clear hb6
                go_wp2_with fail
                go_roundw
                case rel => exact ⟨k + 1, pk', O', M', P, stk, by omega, by go_num, hT, hS, hL, hvA, HPI, hsl, by omega, hgk⟩
                case measure => simp [intOf]; omega
            obtain rfl : k = L2.length := by omega
            have i1 : ¬ ((L2.length : Int) < (L2.length : Int)) := by omega
            go_wp2_with fail
            go_roundg (2 * (Es.length - P.length) + stk.length)
            case measure => exact hgk
            case rel => exact ⟨pk', O', M', P, stk, hT, hS, HPI, hsl, hMl, Nat.le_refl _⟩
end Go.Proofs.Ytdionganlmnlkaa

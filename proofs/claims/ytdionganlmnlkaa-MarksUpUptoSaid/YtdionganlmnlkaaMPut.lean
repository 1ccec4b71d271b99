/-
  The document's marks: put, Clean. Conditions: those of each theorem.
-/
import Derived.Test.YtdionganlmnlkaaMDoc
namespace Go.Proofs.Ytdionganlmnlkaa
open Go.ChangeShapes Go.WideShapes Go.ChangeAt Go.RowKit Go.Deep
attribute [local go_sem] Cls

theorem bnd_24m {a b : Nat} (h1 : a ≤ b) (h2 : b * 24 ≤ 140737488355328) : a ≤ maxLen := by unfold maxLen; omega
theorem step_p {c : Cl} {s : Int} {m : Mk} {b dn e : Bool} {G : List Mk} (hb : befB c.row c.col m.row m.col = b) (he : decide (mCl m = c) = e) : stepP c s (G, dn) m = ((if (b && !dn) = true then G ++ [⟨c.row, c.col, s⟩] else G) ++ (if e = true then [] else [m]), (b && !dn) || dn) := by
  unfold stepP
  rw [hb]
  cases e with
  | true => rw [if_pos (of_decide_eq_true he), if_pos rfl]
  | false => rw [if_neg (of_decide_eq_false he)]; rfl
theorem put_of {c : Cl} {s : Int} {M G : List Mk} {dn : Bool} (h : foldP c s M = (G, dn)) : putL c s M = G ++ (if dn = true then [] else [⟨c.row, c.col, s⟩]) := by
  unfold putL
  rw [h]
theorem foldP_len2 (c : Cl) (s : Int) : ∀ (M : List Mk) (o : List Mk) (d : Bool), (M.foldl (stepP c s) (o, d)).1.length + (if (M.foldl (stepP c s) (o, d)).2 = true then 0 else 1) ≤ o.length + (if d = true then 0 else 1) + (M.filter fun m => decide (mCl m ≠ c)).length
  | [], o, d => Nat.le_refl _
  | m :: M, o, d => by
    have h := foldP_len2 c s M (stepP c s (o, d) m).1 (stepP c s (o, d) m).2
    rw [List.foldl_cons, List.filter_cons]
    refine Nat.le_trans h ?_
    unfold stepP
    dsimp only
    by_cases e : mCl m = c <;> cases d <;> cases befB c.row c.col m.row m.col <;> simp [e] <;> omega
/-- A state that was there is turned: the list grows no longer. -/
theorem putL_len2 {c : Cl} {s : Int} {M : List Mk} (h0 : look M c ≠ none) : (putL c s M).length ≤ M.length := by
  have h := foldP_len2 c s M [] (decide (s < 0))
  have h1 : (M.filter fun m => decide (mCl m ≠ c)).length < M.length := by
    rw [List.length_filter_lt_length_iff_exists]
    unfold look at h0
    cases hf : M.find? fun m => decide (mCl m = c) with
    | none => rw [hf] at h0; exact absurd rfl h0
    | some m => 
      have h2 := List.find?_some hf
      exact ⟨m, List.mem_of_find?_eq_some hf, by simpa using h2⟩
  generalize (M.filter fun m => decide (mCl m ≠ c)).length = q at h h1
  unfold putL
  have hf : foldP c s M = M.foldl (stepP c s) ([], decide (s < 0)) := rfl
  rw [List.length_append, hf]
  generalize M.foldl (stepP c s) ([], decide (s < 0)) = G at h
  obtain ⟨o, d⟩ := G
  by_cases h3 : s < 0 <;> cases d <;> simp [h3] at h ⊢ <;> omega
/-- What put leaves. -/
def RkPut (w : World) (rb yb : Nat) (pk : Int) (O : Nat → Prop) (M : List Mk) (w' : World) : Prop :=
  ∃ O', RK w' rb yb pk O' M ∧ Frm O w w' ∧ ∀ z, O' z → O z ∨ w.heap.size ≤ z
theorem RK.store {w w9 : World} {rb yb : Nat} {pk : Int} {O : Nat → Prop} {M N : List Mk} {B : Nat} {v : Value} (h : RK w rb yb pk O M) (hb : Below w.heap.size w w9) (hO : OL KM w9 B v N) (hB : w.heap.size ≤ B) : RkPut w rb yb pk O N (w9.setCell ⟨rb, 0, none⟩ v) := by
  obtain ⟨A, cap, h1, h2, h3, h4, h5⟩ := h
  have hlt := h1.lt
  obtain ⟨A9, c9, rfl, _, _, _, hA9⟩ := hO.see
  refine ⟨fun z => z = rb ∨ ∃ off, A9 = some ⟨z, off, none⟩, ⟨A9, c9, (h1.below hb).put 0 _, (hO.low (Nat.zero_le B)).set (fun g hg e => by have := (hO.lt g hg).1; omega) 0 _, .inl rfl, fun g off e => .inr ⟨off, e⟩, fun z hz => ?_⟩, (Frm.of_below hb).set (.inl h3) _, fun z hz => ?_⟩
  · have hs := hb.size
    rw [show (w9.setCell ⟨rb, 0, none⟩ (.slice A9 N.length c9)).heap.size = w9.heap.size by simp]
    rcases hz with rfl | ⟨off, e⟩
    · omega
    · rcases hA9 with h9 | ⟨g9, h9, _, h9'⟩
      · rw [h9] at e; cases e
      · rw [h9] at e
        injection e with e
        injection e with e _ _
        omega
  · rcases hz with rfl | ⟨off, e⟩
    · exact .inl h3
    · rcases hA9 with h9 | ⟨g9, h9, h9', _⟩
      · rw [h9] at e; cases e
      · rw [h9] at e
        injection e with e
        injection e with e _ _
        exact .inr (by omega)
set_option maxHeartbeats 6400000 in
set_option maxRecDepth 100000 in
theorem rkput_any {rb yb : Nat} {pk : Int} {O : Nat → Prop} {M : List Mk} (row col s : Int) {w : World} (h : RK w rb yb pk O M) (hl : (M.length + 2) * 24 ≤ 140737488355328) : Calls Try.prog 44 #[.pointer (some ⟨rb, 0, none⟩), .agg #[.int .i64 row, .int .i64 col], .int .i64 s] w fun e w' => e = .returned (.tuple #[]) ∧ RkPut w rb yb pk O (putL (⟨row, col⟩ : Cl) s M) w' := by
  obtain ⟨A, cap, htop0, hLi0, hMl⟩ := h.list
  obtain ⟨dz, hdz⟩ : ∃ d, d = decide (s < 0) := ⟨_, rfl⟩
  have HDZ : Hid (foldP (⟨row, col⟩ : Cl) s (M.take 0) = ([], dz)) := Lib.hid (by rw [hdz]; rfl)
  go_enter Try.func44, Try.ntmps44
  go_wp2_with fail
  try rw [← hdz]
  clear hdz
  have hW0 := bel_alloc (bel_refl w) (.cells #[.int .i64 row, .int .i64 col] 32)
  have hc0 := Blk.new w rfl 32 #[.int .i64 row, .int .i64 col]
  go_loopw [6, 7, 8] (fun s6 s7 s8 wr => ∃ (k : Nat) (G : List Mk) (dn : Bool), k ≤ M.length ∧ s8 = .int .i64 k ∧ s7 = .bool dn ∧ OL KM wr (w.heap.size + 1) s6 G ∧ Hid (foldP (⟨row, col⟩ : Cl) s (M.take k) = (G, dn)) ∧ Hid (G.length ≤ k + 1 ∧ (dn = false → G.length ≤ k)) ∧ Blk wr w.heap.size 32 #[.int .i64 row, .int .i64 col] ∧ Below w.heap.size w wr) (fun _ _ s8 _ => M.length - (intOf s8).toNat)
  case atStart => exact ⟨0, [], dz, Nat.zero_le _, rfl, rfl, OL.nil _ _, HDZ, Lib.hid ⟨Nat.zero_le _, fun _ => Nat.le_refl _⟩, hc0, hW0⟩
  case round =>
    obtain ⟨k, G, dn, hk, rfl, rfl, hO, HF, HG, hc, hW⟩ := hrel
    clear hc0 hW0 HDZ
    have htop := htop0.below hW
    have q7 := htop.rd
    have l7 := htop.lt
    by_cases hkl : k < M.length
    · obtain ⟨x, hx⟩ : ∃ x, M[k]? = some x := ⟨_, List.getElem?_eq_getElem hkl⟩
      obtain ⟨g, off, hAe, hg, c0, c1, c2⟩ := mk_at (hLi0.below hW) hx
      subst hAe
      have HX := Lib.hid hx
      have i0 : (0 : Int) ≤ (k : Int) := by omega
      have i1 : (k : Int) < (M.length : Int) := by omega
      have hP : ∀ W, Calls Try.prog 58 #[.agg #[.int .i64 row, .int .i64 col], .agg #[.int .i64 x.row, .int .i64 x.col]] W fun e w' => e = .returned (.bool (befB row col x.row x.col)) ∧ Below W.heap.size W w' := fun W => rbefore_any row col x.row x.col W
      obtain ⟨b, hbe⟩ : ∃ b, b = befB row col x.row x.col := ⟨_, rfl⟩
      rw [← hbe] at hP
      have HB : Hid (befB ((⟨row, col⟩ : Cl) : Cl).row ((⟨row, col⟩ : Cl) : Cl).col x.row x.col = b) := Lib.hid hbe.symm
      have HP := Lib.hid hP
      clear hx hP hbe
      go_wp2_with fail
      clear q7 l7
      have hgl := HG.out.1
      cases b with
      | false =>
        have d0 := fun d os => cell_regrown c0 d os
        have d1 := fun d os => cell_regrown c1 d os
        have d2 := fun d os => cell_regrown c2 d os
        have gc := hc.gr
        have lc := hc.lt
        have gt := htop.gr
        have rdt := htop.rd
        have ltt := htop.lt
        refine wp_region_quiet_below (by kernel_rfl) (by kernel_rfl) ?_
        repeat (any_goals (first | go_big_quiet_step ((first | (go_at_call 58; exact Calls.regrown_of (HP.out _)))) | fail))
        refine wpQuiet_nil ?_
        intro w5 hw'
        have hb5 := class_below hw'
        clear hw' d0 d1 d2 gc lc gt rdt ltt HP
        replace c0 := (hb5.cell hg).trans c0
        replace c1 := (hb5.cell hg).trans c1
        replace c2 := (hb5.cell hg).trans c2
        replace hW := bel_call hW hb5
        replace hO := hO.below hb5
        replace hc := hc.below hb5
        replace htop := htop.below hb5
        replace hg := Nat.lt_of_lt_of_le hg hb5.size
        clear hb5
        go_upto_region 10 with fail
        have hne := fun W => neq_cell W x.row x.col row col
        obtain ⟨q, hq⟩ : ∃ q, q = decide (mCl x = (⟨row, col⟩ : Cl)) := ⟨_, rfl⟩
        have HQ : Hid (decide (mCl x = (⟨row, col⟩ : Cl)) = q) := Lib.hid hq.symm
        rw [show decide ((⟨x.row, x.col⟩ : Cl) = ⟨row, col⟩) = q from hq.symm] at hne
        clear hq
        cases q with
        | true =>
          rw [show (!true) = false from rfl] at hne
          have d0 := fun d os => cell_regrown c0 d os
          have d1 := fun d os => cell_regrown c1 d os
          have d2 := fun d os => cell_regrown c2 d os
          have gc := hc.gr
          have lc := hc.lt
          have gt := htop.gr
          have rdt := htop.rd
          have ltt := htop.lt
          refine wp_region_quiet_below (by kernel_rfl) (by kernel_rfl) ?_
          repeat (any_goals (first | go_big_quiet_step ((fail)) | fail))
          refine wpQuiet_nil ?_
          intro w16 hw'
          have hb16 := class_below hw'
          clear hw' d0 d1 d2 gc lc gt rdt ltt hne
          replace c0 := (hb16.cell hg).trans c0
          replace c1 := (hb16.cell hg).trans c1
          replace c2 := (hb16.cell hg).trans c2
          replace hW := bel_call hW hb16
          replace hO := hO.below hb16
          replace hc := hc.below hb16
          replace htop := htop.below hb16
          replace hg := Nat.lt_of_lt_of_le hg hb16.size
          clear hb16
          clear c0 c1 c2
          go_wp2_with fail
          go_roundw
          case rel => exact ⟨k + 1, G, dn, by omega, by go_num, rfl, hO, Lib.hid (by rw [foldP_take HX.out, HF.out, step_p HB.out HQ.out]; simp), Lib.hid ⟨by (try simp); omega, fun h => by have := HG.out.2 h; (try simp); omega⟩, hc, hW⟩
          case measure => simp [intOf]; omega
        | false =>
          rw [show (!false) = true from rfl] at hne
          have d0 := fun d os => cell_regrown c0 d os
          have d1 := fun d os => cell_regrown c1 d os
          have d2 := fun d os => cell_regrown c2 d os
          have gc := hc.gr
          have lc := hc.lt
          have gt := htop.gr
          have rdt := htop.rd
          have ltt := htop.lt
          refine wp_region_quiet_below (by kernel_rfl) (by kernel_rfl) ?_
          repeat (any_goals (first | go_big_quiet_step ((fail)) | fail))
          refine wpQuiet_nil ?_
          intro w16 hw'
          have hb16 := class_below hw'
          clear hw' d0 d1 d2 gc lc gt rdt ltt hne
          replace c0 := (hb16.cell hg).trans c0
          replace c1 := (hb16.cell hg).trans c1
          replace c2 := (hb16.cell hg).trans c2
          replace hW := bel_call hW hb16
          replace hO := hO.below hb16
          replace hc := hc.below hb16
          replace htop := htop.below hb16
          replace hg := Nat.lt_of_lt_of_le hg hb16.size
          clear hb16
          have hOa := hO.alloc (.cells #[.int .i64 x.row, .int .i64 x.col, .int .i64 x.st] 61)
          have hca := hc.alloc (.cells #[.int .i64 x.row, .int .i64 x.col, .int .i64 x.st] 61)
          have hWa := bel_alloc hW (.cells #[.int .i64 x.row, .int .i64 x.col, .int .i64 x.st] 61)
          have hlies : Lies KM (w16.alloc (.cells #[.int .i64 x.row, .int .i64 x.col, .int .i64 x.st] 61)) (some ⟨w16.heap.size, 0, none⟩) [x] := Lies.blk (Blk.new w16 rfl 61 #[.int .i64 x.row, .int .i64 x.col, .int .i64 x.st]) rfl
          have ha0 : (G).length + [x].length ≤ M.length + 2 := by show G.length + 1 ≤ _; omega
          have ha1 : (G).length + [x].length ≤ maxLen := bnd_24m ha0 hl
          have ha2 : ((G).length + [x].length) * KM.bytes ≤ 140737488355328 := bnd_24 ha0 hl
          have ha3 : w.heap.size + 1 ≤ (w16.alloc (.cells #[.int .i64 x.row, .int .i64 x.col, .int .i64 x.st] 61)).heap.size := hca.lt
          have rdc := hc.rd
          have lcc := hc.lt
          have rdt := htop.rd
          have ltt := htop.lt
          go_wp2_with (at_builtin; (refine wp_ol_append info_km rfl Try.underlying58 rfl _ _ rfl rfl hOa (M := [x]) (c := 1) rfl rfl hlies ha1 ha2 ha3 ?_); intro v17 w17 hO17 hg17)
          have hW17 := bel_grown hWa hg17 (fun z hz => by have := (hOa.lt z hz).1; omega)
          have hc17 := hca.grownX hg17 (fun e => by have := (hOa.lt _ e.symm).1; omega)
          clear hOa hca hWa hlies ha0 ha1 ha2 ha3 rdc lcc rdt ltt hg17 hO hc hW htop
          clear c0 c1 c2
          go_roundw
          case rel => exact ⟨k + 1, G ++ [x], dn, by omega, by go_num, rfl, hO17, Lib.hid (by rw [foldP_take HX.out, HF.out, step_p HB.out HQ.out]; simp), Lib.hid ⟨by (try simp); omega, fun h => by have := HG.out.2 h; simp; omega⟩, hc17, hW17⟩
          case measure => simp [intOf]; omega
      | true =>
        cases dn with
        | true =>
          have d0 := fun d os => cell_regrown c0 d os
          have d1 := fun d os => cell_regrown c1 d os
          have d2 := fun d os => cell_regrown c2 d os
          have gc := hc.gr
          have lc := hc.lt
          have gt := htop.gr
          have rdt := htop.rd
          have ltt := htop.lt
          refine wp_region_quiet_below (by kernel_rfl) (by kernel_rfl) ?_
          repeat (any_goals (first | go_big_quiet_step ((first | (go_at_call 58; exact Calls.regrown_of (HP.out _)))) | fail))
          refine wpQuiet_nil ?_
          intro w5 hw'
          have hb5 := class_below hw'
          clear hw' d0 d1 d2 gc lc gt rdt ltt HP
          replace c0 := (hb5.cell hg).trans c0
          replace c1 := (hb5.cell hg).trans c1
          replace c2 := (hb5.cell hg).trans c2
          replace hW := bel_call hW hb5
          replace hO := hO.below hb5
          replace hc := hc.below hb5
          replace htop := htop.below hb5
          replace hg := Nat.lt_of_lt_of_le hg hb5.size
          clear hb5
          go_upto_region 10 with fail
          have hne := fun W => neq_cell W x.row x.col row col
          obtain ⟨q, hq⟩ : ∃ q, q = decide (mCl x = (⟨row, col⟩ : Cl)) := ⟨_, rfl⟩
          have HQ : Hid (decide (mCl x = (⟨row, col⟩ : Cl)) = q) := Lib.hid hq.symm
          rw [show decide ((⟨x.row, x.col⟩ : Cl) = ⟨row, col⟩) = q from hq.symm] at hne
          clear hq
          cases q with
          | true =>
            rw [show (!true) = false from rfl] at hne
            have d0 := fun d os => cell_regrown c0 d os
            have d1 := fun d os => cell_regrown c1 d os
            have d2 := fun d os => cell_regrown c2 d os
            have gc := hc.gr
            have lc := hc.lt
            have gt := htop.gr
            have rdt := htop.rd
            have ltt := htop.lt
            refine wp_region_quiet_below (by kernel_rfl) (by kernel_rfl) ?_
            repeat (any_goals (first | go_big_quiet_step ((fail)) | fail))
            refine wpQuiet_nil ?_
            intro w16 hw'
            have hb16 := class_below hw'
            clear hw' d0 d1 d2 gc lc gt rdt ltt hne
            replace c0 := (hb16.cell hg).trans c0
            replace c1 := (hb16.cell hg).trans c1
            replace c2 := (hb16.cell hg).trans c2
            replace hW := bel_call hW hb16
            replace hO := hO.below hb16
            replace hc := hc.below hb16
            replace htop := htop.below hb16
            replace hg := Nat.lt_of_lt_of_le hg hb16.size
            clear hb16
            clear c0 c1 c2
            go_wp2_with fail
            go_roundw
            case rel => exact ⟨k + 1, G, true, by omega, by go_num, rfl, hO, Lib.hid (by rw [foldP_take HX.out, HF.out, step_p HB.out HQ.out]; simp), Lib.hid ⟨by (try simp); omega, fun h => by cases h⟩, hc, hW⟩
            case measure => simp [intOf]; omega
          | false =>
            rw [show (!false) = true from rfl] at hne
            have d0 := fun d os => cell_regrown c0 d os
            have d1 := fun d os => cell_regrown c1 d os
            have d2 := fun d os => cell_regrown c2 d os
            have gc := hc.gr
            have lc := hc.lt
            have gt := htop.gr
            have rdt := htop.rd
            have ltt := htop.lt
            refine wp_region_quiet_below (by kernel_rfl) (by kernel_rfl) ?_
            repeat (any_goals (first | go_big_quiet_step ((fail)) | fail))
            refine wpQuiet_nil ?_
            intro w16 hw'
            have hb16 := class_below hw'
            clear hw' d0 d1 d2 gc lc gt rdt ltt hne
            replace c0 := (hb16.cell hg).trans c0
            replace c1 := (hb16.cell hg).trans c1
            replace c2 := (hb16.cell hg).trans c2
            replace hW := bel_call hW hb16
            replace hO := hO.below hb16
            replace hc := hc.below hb16
            replace htop := htop.below hb16
            replace hg := Nat.lt_of_lt_of_le hg hb16.size
            clear hb16
            have hOa := hO.alloc (.cells #[.int .i64 x.row, .int .i64 x.col, .int .i64 x.st] 61)
            have hca := hc.alloc (.cells #[.int .i64 x.row, .int .i64 x.col, .int .i64 x.st] 61)
            have hWa := bel_alloc hW (.cells #[.int .i64 x.row, .int .i64 x.col, .int .i64 x.st] 61)
            have hlies : Lies KM (w16.alloc (.cells #[.int .i64 x.row, .int .i64 x.col, .int .i64 x.st] 61)) (some ⟨w16.heap.size, 0, none⟩) [x] := Lies.blk (Blk.new w16 rfl 61 #[.int .i64 x.row, .int .i64 x.col, .int .i64 x.st]) rfl
            have ha0 : (G).length + [x].length ≤ M.length + 2 := by show G.length + 1 ≤ _; omega
            have ha1 : (G).length + [x].length ≤ maxLen := bnd_24m ha0 hl
            have ha2 : ((G).length + [x].length) * KM.bytes ≤ 140737488355328 := bnd_24 ha0 hl
            have ha3 : w.heap.size + 1 ≤ (w16.alloc (.cells #[.int .i64 x.row, .int .i64 x.col, .int .i64 x.st] 61)).heap.size := hca.lt
            have rdc := hc.rd
            have lcc := hc.lt
            have rdt := htop.rd
            have ltt := htop.lt
            go_wp2_with (at_builtin; (refine wp_ol_append info_km rfl Try.underlying58 rfl _ _ rfl rfl hOa (M := [x]) (c := 1) rfl rfl hlies ha1 ha2 ha3 ?_); intro v17 w17 hO17 hg17)
            have hW17 := bel_grown hWa hg17 (fun z hz => by have := (hOa.lt z hz).1; omega)
            have hc17 := hca.grownX hg17 (fun e => by have := (hOa.lt _ e.symm).1; omega)
            clear hOa hca hWa hlies ha0 ha1 ha2 ha3 rdc lcc rdt ltt hg17 hO hc hW htop
            clear c0 c1 c2
            go_roundw
            case rel => exact ⟨k + 1, G ++ [x], true, by omega, by go_num, rfl, hO17, Lib.hid (by rw [foldP_take HX.out, HF.out, step_p HB.out HQ.out]; simp), Lib.hid ⟨by (try simp); omega, fun h => by cases h⟩, hc17, hW17⟩
            case measure => simp [intOf]; omega
        | false =>
          replace hgl := HG.out.2 rfl
          have d0 := fun d os => cell_regrown c0 d os
          have d1 := fun d os => cell_regrown c1 d os
          have d2 := fun d os => cell_regrown c2 d os
          have gc := hc.gr
          have lc := hc.lt
          have gt := htop.gr
          have rdt := htop.rd
          have ltt := htop.lt
          refine wp_region_quiet_below (by kernel_rfl) (by kernel_rfl) ?_
          repeat (any_goals (first | go_big_quiet_step ((first | (go_at_call 58; exact Calls.regrown_of (HP.out _)))) | fail))
          refine wpQuiet_nil ?_
          intro w5 hw'
          have hb5 := class_below hw'
          clear hw' d0 d1 d2 gc lc gt rdt ltt HP
          replace c0 := (hb5.cell hg).trans c0
          replace c1 := (hb5.cell hg).trans c1
          replace c2 := (hb5.cell hg).trans c2
          replace hW := bel_call hW hb5
          replace hO := hO.below hb5
          replace hc := hc.below hb5
          replace htop := htop.below hb5
          replace hg := Nat.lt_of_lt_of_le hg hb5.size
          clear hb5
          clear c0 c1 c2 hg
          have hOa := hO.alloc (.cells #[.int .i64 row, .int .i64 col, .int .i64 s] 61)
          have hca := hc.alloc (.cells #[.int .i64 row, .int .i64 col, .int .i64 s] 61)
          have hWa := bel_alloc hW (.cells #[.int .i64 row, .int .i64 col, .int .i64 s] 61)
          have hlies : Lies KM (w5.alloc (.cells #[.int .i64 row, .int .i64 col, .int .i64 s] 61)) (some ⟨w5.heap.size, 0, none⟩) [(⟨row, col, s⟩ : Mk)] := Lies.blk (Blk.new w5 rfl 61 #[.int .i64 row, .int .i64 col, .int .i64 s]) rfl
          have ha0 : (G).length + [(⟨row, col, s⟩ : Mk)].length ≤ M.length + 2 := by show G.length + 1 ≤ _; omega
          have ha1 : (G).length + [(⟨row, col, s⟩ : Mk)].length ≤ maxLen := bnd_24m ha0 hl
          have ha2 : ((G).length + [(⟨row, col, s⟩ : Mk)].length) * KM.bytes ≤ 140737488355328 := bnd_24 ha0 hl
          have ha3 : w.heap.size + 1 ≤ (w5.alloc (.cells #[.int .i64 row, .int .i64 col, .int .i64 s] 61)).heap.size := hca.lt
          have rdc := hc.rd
          have lcc := hc.lt
          have rdt := htop.rd
          have ltt := htop.lt
          go_upto_region 10 with (at_builtin; (refine wp_ol_append info_km rfl Try.underlying58 rfl _ _ rfl rfl hOa (M := [(⟨row, col, s⟩ : Mk)]) (c := 1) rfl rfl hlies ha1 ha2 ha3 ?_); intro v6 w6 hO6 hg6)
          have hW6 := bel_grown hWa hg6 (fun z hz => by have := (hOa.lt z hz).1; omega)
          have hc6 := hca.grownX hg6 (fun e => by have := (hOa.lt _ e.symm).1; omega)
          clear hOa hca hWa hlies ha0 ha1 ha2 ha3 rdc lcc rdt ltt hg6 hO hc hW htop
          have htop := htop0.below hW6
          obtain ⟨g2, off2, hAe2, hg, c0, c1, c2⟩ := mk_at (hLi0.below hW6) HX.out
          injection hAe2 with hAe2
          injection hAe2 with hAe3 hAe4 _
          subst hAe3 hAe4
          have hO := hO6
          have hc := hc6
          have hW := hW6
          clear hO6 hc6 hW6
          have hne := fun W => neq_cell W x.row x.col row col
          obtain ⟨q, hq⟩ : ∃ q, q = decide (mCl x = (⟨row, col⟩ : Cl)) := ⟨_, rfl⟩
          have HQ : Hid (decide (mCl x = (⟨row, col⟩ : Cl)) = q) := Lib.hid hq.symm
          rw [show decide ((⟨x.row, x.col⟩ : Cl) = ⟨row, col⟩) = q from hq.symm] at hne
          clear hq
          cases q with
          | true =>
            rw [show (!true) = false from rfl] at hne
            have d0 := fun d os => cell_regrown c0 d os
            have d1 := fun d os => cell_regrown c1 d os
            have d2 := fun d os => cell_regrown c2 d os
            have gc := hc.gr
            have lc := hc.lt
            have gt := htop.gr
            have rdt := htop.rd
            have ltt := htop.lt
            refine wp_region_quiet_below (by kernel_rfl) (by kernel_rfl) ?_
            repeat (any_goals (first | go_big_quiet_step ((fail)) | fail))
            refine wpQuiet_nil ?_
            intro w16 hw'
            have hb16 := class_below hw'
            clear hw' d0 d1 d2 gc lc gt rdt ltt hne
            replace c0 := (hb16.cell hg).trans c0
            replace c1 := (hb16.cell hg).trans c1
            replace c2 := (hb16.cell hg).trans c2
            replace hW := bel_call hW hb16
            replace hO := hO.below hb16
            replace hc := hc.below hb16
            replace htop := htop.below hb16
            replace hg := Nat.lt_of_lt_of_le hg hb16.size
            clear hb16
            clear c0 c1 c2
            go_wp2_with fail
            go_roundw
            case rel => exact ⟨k + 1, G ++ [(⟨row, col, s⟩ : Mk)], true, by omega, by go_num, rfl, hO, Lib.hid (by rw [foldP_take HX.out, HF.out, step_p HB.out HQ.out]; simp), Lib.hid ⟨by (try simp); omega, fun h => by cases h⟩, hc, hW⟩
            case measure => simp [intOf]; omega
          | false =>
            rw [show (!false) = true from rfl] at hne
            have d0 := fun d os => cell_regrown c0 d os
            have d1 := fun d os => cell_regrown c1 d os
            have d2 := fun d os => cell_regrown c2 d os
            have gc := hc.gr
            have lc := hc.lt
            have gt := htop.gr
            have rdt := htop.rd
            have ltt := htop.lt
            refine wp_region_quiet_below (by kernel_rfl) (by kernel_rfl) ?_
            repeat (any_goals (first | go_big_quiet_step ((fail)) | fail))
            refine wpQuiet_nil ?_
            intro w16 hw'
            have hb16 := class_below hw'
            clear hw' d0 d1 d2 gc lc gt rdt ltt hne
            replace c0 := (hb16.cell hg).trans c0
            replace c1 := (hb16.cell hg).trans c1
            replace c2 := (hb16.cell hg).trans c2
            replace hW := bel_call hW hb16
            replace hO := hO.below hb16
            replace hc := hc.below hb16
            replace htop := htop.below hb16
            replace hg := Nat.lt_of_lt_of_le hg hb16.size
            clear hb16
            have hOa := hO.alloc (.cells #[.int .i64 x.row, .int .i64 x.col, .int .i64 x.st] 61)
            have hca := hc.alloc (.cells #[.int .i64 x.row, .int .i64 x.col, .int .i64 x.st] 61)
            have hWa := bel_alloc hW (.cells #[.int .i64 x.row, .int .i64 x.col, .int .i64 x.st] 61)
            have hlies : Lies KM (w16.alloc (.cells #[.int .i64 x.row, .int .i64 x.col, .int .i64 x.st] 61)) (some ⟨w16.heap.size, 0, none⟩) [x] := Lies.blk (Blk.new w16 rfl 61 #[.int .i64 x.row, .int .i64 x.col, .int .i64 x.st]) rfl
            have ha0 : (G ++ [(⟨row, col, s⟩ : Mk)]).length + [x].length ≤ M.length + 2 := by simp; omega
            have ha1 : (G ++ [(⟨row, col, s⟩ : Mk)]).length + [x].length ≤ maxLen := bnd_24m ha0 hl
            have ha2 : ((G ++ [(⟨row, col, s⟩ : Mk)]).length + [x].length) * KM.bytes ≤ 140737488355328 := bnd_24 ha0 hl
            have ha3 : w.heap.size + 1 ≤ (w16.alloc (.cells #[.int .i64 x.row, .int .i64 x.col, .int .i64 x.st] 61)).heap.size := hca.lt
            have rdc := hc.rd
            have lcc := hc.lt
            have rdt := htop.rd
            have ltt := htop.lt
            go_wp2_with (at_builtin; (refine wp_ol_append info_km rfl Try.underlying58 rfl _ _ rfl rfl hOa (M := [x]) (c := 1) rfl rfl hlies ha1 ha2 ha3 ?_); intro v17 w17 hO17 hg17)
            have hW17 := bel_grown hWa hg17 (fun z hz => by have := (hOa.lt z hz).1; omega)
            have hc17 := hca.grownX hg17 (fun e => by have := (hOa.lt _ e.symm).1; omega)
            clear hOa hca hWa hlies ha0 ha1 ha2 ha3 rdc lcc rdt ltt hg17 hO hc hW htop
            clear c0 c1 c2
            go_roundw
            case rel => exact ⟨k + 1, G ++ [(⟨row, col, s⟩ : Mk)] ++ [x], true, by omega, by go_num, rfl, hO17, Lib.hid (by rw [foldP_take HX.out, HF.out, step_p HB.out HQ.out]; simp), Lib.hid ⟨by (try simp); omega, fun h => by cases h⟩, hc17, hW17⟩
            case measure => simp [intOf]; omega
    obtain rfl : k = M.length := by omega
    have HF2 : Hid (foldP (⟨row, col⟩ : Cl) s M = (G, dn)) := Lib.hid (by have := HF.out; rwa [List.take_length] at this)
    have i1 : ¬ ((M.length : Int) < (M.length : Int)) := by omega
    have hgl := HG.out.1
    clear HF HG
    cases dn with
    | true =>
      obtain ⟨Ao, co, rfl, _, _, _, _⟩ := hO.see
      have hfin : RkPut w rb yb pk O (putL (⟨row, col⟩ : Cl) s M) (wr.setCell ⟨rb, 0, none⟩ _) := h.store hW (show OL KM wr (w.heap.size + 1) _ (putL (⟨row, col⟩ : Cl) s M) by rw [put_of HF2.out]; simpa using hO) (by omega)
      have z7 := htop.fz
      go_wp2_with fail
      try simp only [Exit.inBlock, Exit.then]
      exact ⟨rfl, .tuple #[], by simp [results, Try.results44, go_sem], rfl, hfin⟩
    | false =>
      have hgl2 : G.length ≤ M.length + 1 := hgl
      have hOa := hO.alloc (.cells #[.int .i64 row, .int .i64 col, .int .i64 s] 61)
      have hca := hc.alloc (.cells #[.int .i64 row, .int .i64 col, .int .i64 s] 61)
      have hWa := bel_alloc hW (.cells #[.int .i64 row, .int .i64 col, .int .i64 s] 61)
      have hlies : Lies KM (wr.alloc (.cells #[.int .i64 row, .int .i64 col, .int .i64 s] 61)) (some ⟨wr.heap.size, 0, none⟩) [(⟨row, col, s⟩ : Mk)] := Lies.blk (Blk.new wr rfl 61 #[.int .i64 row, .int .i64 col, .int .i64 s]) rfl
      have ha0 : (G).length + [(⟨row, col, s⟩ : Mk)].length ≤ M.length + 2 := by show G.length + 1 ≤ _; omega
      have ha1 : (G).length + [(⟨row, col, s⟩ : Mk)].length ≤ maxLen := bnd_24m ha0 hl
      have ha2 : ((G).length + [(⟨row, col, s⟩ : Mk)].length) * KM.bytes ≤ 140737488355328 := bnd_24 ha0 hl
      have ha3 : w.heap.size + 1 ≤ (wr.alloc (.cells #[.int .i64 row, .int .i64 col, .int .i64 s] 61)).heap.size := hca.lt
      have rdc := hc.rd
      have lcc := hc.lt
      have rdt := htop.rd
      have ltt := htop.lt
      go_upto_region 14 with (at_builtin; (refine wp_ol_append info_km rfl Try.underlying58 rfl _ _ rfl rfl hOa (M := [(⟨row, col, s⟩ : Mk)]) (c := 1) rfl rfl hlies ha1 ha2 ha3 ?_); intro v6 w6 hO6 hg6)
      have hW6 := bel_grown hWa hg6 (fun z hz => by have := (hOa.lt z hz).1; omega)
      have hc6 := hca.grownX hg6 (fun e => by have := (hOa.lt _ e.symm).1; omega)
      clear hOa hca hWa hlies ha0 ha1 ha2 ha3 rdc lcc rdt ltt hg6 hO hc hW htop
      obtain ⟨Ao, co, rfl, _, _, _, _⟩ := hO6.see
      have htop := htop0.below hW6
      have q7 := htop.rd
      have l7 := htop.lt
      have z7 := htop.fz
      have hfin : RkPut w rb yb pk O (putL (⟨row, col⟩ : Cl) s M) (w6.setCell ⟨rb, 0, none⟩ _) := h.store hW6 (show OL KM w6 (w.heap.size + 1) _ (putL (⟨row, col⟩ : Cl) s M) by rw [put_of HF2.out]; simpa using hO6) (by omega)
      go_wp2_with fail
      try simp only [Exit.inBlock, Exit.then]
      exact ⟨rfl, .tuple #[], by simp [results, Try.results44, go_sem], rfl, hfin⟩
end Go.Proofs.Ytdionganlmnlkaa

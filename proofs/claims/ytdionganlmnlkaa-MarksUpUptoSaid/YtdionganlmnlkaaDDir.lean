/-
  Deps: contract of Direct. Conditions: those of each theorem.
-/
import Derived.Test.YtdionganlmnlkaaDDir0
import Derived.Deep.LoopGhost
namespace Go.Proofs.Ytdionganlmnlkaa
open Go.ChangeShapes Go.WideShapes Go.ChangeAt Go.RowKit Go.Deep
attribute [local go_sem] Cls

/-- What Direct answers. -/
def DirIs (w : World) (Cs : List Cl) (e : Ending) (w' : World) : Prop := ∃ v, e = .returned v ∧ OW KC w' w.heap.size v Cs ∧ Below w.heap.size w w'
theorem mp_own {w : World} {H : Type} {P : Program} {k : TypeId} {R : Value → Option (DataW H × List MemPlace)} {b n : Nat} {D : DataW H} (h : w.ownsMap P k R b n D) : IsMp w b := by
  obtain ⟨es, clock, e, _⟩ := h
  exact ⟨es, clock, e⟩
set_option maxHeartbeats 6400000 in
set_option maxRecDepth 100000 in
theorem ddirect_any (db fm tm bb n : Nat) (O : Nat → Prop) (Ps : List Pr) (f t : Cl → Option Value) (E Ef : Cl → List Rf) (Wh : Cl → List Cl) (row col : Int) (Cs : List Cl) (w : World)
    (h : DMem w db fm tm bb n O Ps f t Ef Wh) (hr : DRel Ps Wh E) (hrc : rngC ⟨row, col⟩) (hs : SrtC Cs) (hm : ∀ x, x ∈ Cs ↔ refs E row col x) (hn : n ≤ 1099511627776) :
    Calls Try.prog 33 #[.pointer (some ⟨db, 0, none⟩), .agg #[.int .i64 row, .int .i64 col]] w (DirIs w Cs) := by
  have HS := Lib.hid hs
  have HRC := Lib.hid hrc
  have hov := ovs_len row col Ps []
  have hpl := h.bnd.len
  obtain ⟨C0, hC0⟩ : ∃ C0, C0 = ovs row col Ps := ⟨_, rfl⟩
  have hC0l : C0.length ≤ n := by rw [hC0]; unfold ovs; simp at hov; omega
  have HM : Hid (∀ x, x ∈ Cs ↔ x ∈ C0 ∨ x ∈ Wh ⟨row, col⟩) := Lib.hid (fun x => by rw [hm x, refs_is hr h.bnd.srt, hC0])
  have HWC : Hid (∀ x, x ∈ Wh ⟨row, col⟩ → rngC x) := Lib.hid (fun x hx => rngC_of_may (hr.ok x _ ((hr.wh _ x).1 hx)).2)
  have HC0 := Lib.hid hC0
  clear hs hrc hov hpl hm hC0
  go_enter Try.func33, Try.ntmps33
  go_wp2_with fail
  have kc := Blk.new w rfl 32 #[.int .i64 row, .int .i64 col]
  have hB := bel_alloc (bel_refl w) (.cells #[.int .i64 row, .int .i64 col] 32)
  have h3 := h.below hB
  generalize hwz : w.alloc (.cells #[.int .i64 row, .int .i64 col] 32) = w3 at kc hB h3 ⊢
  clear hwz
  obtain ⟨S, hSS⟩ : ∃ S : World → Prop, S = fun w' => Blk w' db 74 #[.map (some fm), .map (some tm), .pointer (some ⟨bb, 0, none⟩)] ∧ Blk w' w.heap.size 32 #[.int .i64 row, .int .i64 col] := ⟨_, rfl⟩
  have q0 := fun x => (held_of hSS x).1.rd
  have p0 := fun x => (held_of hSS x).1.lt
  have q1 := fun x => (held_of hSS x).2.rd
  have HSS := Lib.hid hSS
  have hS0 : S w3.drew := held_in HSS.out ⟨h3.top.drew, kc.drew⟩
  haveI : Nonempty (Held S) := ⟨⟨_, hS0⟩⟩
  clear hSS
  refine wp_region_tree (S := S) 7 (.q 0 <| .q 1 <| .q 2 <| .q 3 <| .q 4 <| .a 5 <| .q 6 <| .done) [] (by kernel_rfl) (by kernel_rfl) hS0 ?_
  repeat (refine tree_q (by rfl) (by rfl) (fun K hK => ?_); go_simp; refine hK _ ?_; clear hK K)
  refine tree_a (by rfl) (by rfl) (fun K hK => ?_)
  go_simp
  refine (pb_over bb n O Ps row col _ (h3.bnd.below (bel_drew (bel_refl w3))) HRC.out.1 (by omega)).mono ?_
  rintro e w4 ⟨A4, rfl, hl4, ho4, hb4⟩
  have hb4' := bel_call (bel_drew (bel_refl w3)) hb4
  rw [← HC0.out] at hl4 ho4 ⊢
  have hAP4 : AP KC w4 w3.heap.size (.slice A4 C0.length C0.length) C0 := .inl ⟨A4, rfl, OW.of_own hl4 ho4 (by unfold maxLen; omega)⟩
  have h4 := h3.below hb4'
  have kc4 := kc.below hb4'
  refine hK _ _ (held_in HSS.out ⟨h4.top, kc4⟩) ?_
  clear hK K
  repeat (refine tree_q (by rfl) (by rfl) (fun K hK => ?_); go_simp; refine hK _ ?_; clear hK K)
  refine tree_nil ?_
  have hB4 := bel_call hB hb4'
  have hw3 : w.heap.size < w3.heap.size := kc.lt
  have hw34 : w3.heap.size ≤ w4.heap.size := hb4'.size
  clear q0 p0 q1 hS0 HSS hb4 hb4' hl4 ho4 h3 kc
  go_wp2_with fail
  obtain ⟨klc, hklc⟩ := key_cell ⟨row, col⟩ HRC.out
  cases htc : t ⟨row, col⟩ with
  | none =>
    have HTC := Lib.hid htc
    have hWn : Wh ⟨row, col⟩ = [] := h4.tno _ htc
    obtain ⟨S, hSS⟩ : ∃ S : World → Prop, S = fun w' => Blk w' db 74 #[.map (some fm), .map (some tm), .pointer (some ⟨bb, 0, none⟩)] ∧ Blk w' w.heap.size 32 #[.int .i64 row, .int .i64 col] ∧ (Instr.lookup 71 (.map (some tm)) (.agg #[.int .i64 row, .int .i64 col]) false).run Try.prog w' = .ok (.map none) w' := ⟨_, rfl⟩
    have q0 := fun x => (held_of hSS x).1.rd
    have p0 := fun x => (held_of hSS x).1.lt
    have q1 := fun x => (held_of hSS x).2.1.rd
    have q2 := fun x => (held_of hSS x).2.2
    have HSS := Lib.hid hSS
    have hS0 : S w4.drew := held_in HSS.out ⟨h4.top.drew, kc4.drew, by rw [(h4.below (bel_drew (bel_refl w4))).look_t ⟨row, col⟩ HRC.out, HTC.out]; rfl⟩
    haveI : Nonempty (Held S) := ⟨⟨_, hS0⟩⟩
    clear hSS htc
    refine wp_region_tree (S := S) 7 (.q 0 <| .q 1 <| .q 2 <| .q 3 <| .q 4 <| .q 5 <| .a 6 <| .done) [] (by kernel_rfl) (by kernel_rfl) hS0 ?_
    repeat (refine tree_q (by rfl) (by rfl) (fun K hK => ?_); go_simp; refine hK _ ?_; clear hK K)
    refine tree_a (by rfl) (by rfl) (fun K hK => ?_)
    have hrg := run_range_nilMap (P := Try.prog) w4.drew 76 32 79 Try.underlying76
    go_simp
    have hbi := bel_drew (bel_alloc (bel_refl w4) (.mapIter none 0 #[] 0))
    have h5 := h4.below hbi
    refine hK _ _ (held_in HSS.out ⟨h5.top, kc4.below hbi, by rw [h5.look_t ⟨row, col⟩ HRC.out, HTC.out]; rfl⟩) ?_
    clear hK K hrg
    refine tree_nil ?_
    clear q0 p0 q1 q2 hS0 HSS
    have hnx : ∀ ty, (Instr.next (.pointer (some ⟨w4.heap.size, 0, none⟩)) false ty).run Try.prog (w4.alloc (.mapIter none 0 #[] 0)).drew = .ok (.tuple #[.bool false]) (w4.alloc (.mapIter none 0 #[] 0)).drew := fun ty => run_next_nilMap w4.drew ty 0 0 #[]
    have hB7 := bel_drew (bel_alloc hB4 (.mapIter none 0 #[] 0))
    have hO2 := ((hAP4.alloc (.mapIter none 0 #[] 0)).ow).drew
    have HMEM : Hid (∀ x, x ∈ C0 ↔ x ∈ Cs) := Lib.hid (fun x => by rw [HM.out x, hWn]; simp)
    generalize (w4.alloc (.mapIter none 0 #[] 0)).drew = w5 at hnx hB7 hO2 ⊢
    clear hWn hklc hbi h5 h4 kc4 hB4 hAP4
    go_wp2_with fail
    refine wp_loop_rounds 1 ?_
    rw [rounds_succ]
    go_wp2_with fail
    refine (sortC_any hO2 (by omega)).mono ?_
    rintro e w8 ⟨rfl, M, hM, hp, hso, hg8⟩
    have hB8 := bel_grown hB7 hg8 (fun z hz => by have := (hO2.lt z hz).1; omega)
    have hmemM : ∀ x, x ∈ cpt M ↔ x ∈ Cs := fun x => by
      rw [show cpt M = M.foldl cptS [] from rfl, mem_cpt, hp.mem_iff, HMEM.out x]
      simp
    have hsrtM : SrtC (cpt M) := cpt_srt M [] hso List.Pairwise.nil (fun x hx => by cases hx)
    have HCM : Hid (cpt M = Cs) := Lib.hid (srtC_ext hsrtM HS.out hmemM)
    have hMl : M.length < 4611686018427387904 := by rw [hp.length_eq]; omega
    clear hp hso hmemM hsrtM hg8 hB7 hO2
    go_wp2_with fail
    refine (compact_any hM hMl).mono ?_
    rintro e w9 ⟨⟨v9, rfl, hO9⟩, hg9⟩
    have hB9 := bel_grown hB8 hg9 (fun z hz => by have := (hM.lt z hz).1; omega)
    rw [HCM.out] at hO9
    go_wp2_with fail
    go_ret
    exact ⟨_, rfl, hO9.low (by omega), hB9⟩
  | some v =>
    obtain ⟨g, rfl, _⟩ := h4.grp ⟨row, col⟩ v htc
    have HTC := Lib.hid htc
    obtain ⟨S, hSS⟩ : ∃ S : World → Prop, S = fun w' => Blk w' db 74 #[.map (some fm), .map (some tm), .pointer (some ⟨bb, 0, none⟩)] ∧ Blk w' w.heap.size 32 #[.int .i64 row, .int .i64 col] ∧ (Instr.lookup 71 (.map (some tm)) (.agg #[.int .i64 row, .int .i64 col]) false).run Try.prog w' = .ok (.map (some g)) w' := ⟨_, rfl⟩
    have q0 := fun x => (held_of hSS x).1.rd
    have p0 := fun x => (held_of hSS x).1.lt
    have q1 := fun x => (held_of hSS x).2.1.rd
    have q2 := fun x => (held_of hSS x).2.2
    have HSS := Lib.hid hSS
    have hd := h4.below (bel_drew (bel_refl w4))
    have hS0 : S w4.drew := held_in HSS.out ⟨h4.top.drew, kc4.drew, by rw [hd.look_t ⟨row, col⟩ HRC.out, HTC.out]; rfl⟩
    haveI : Nonempty (Held S) := ⟨⟨_, hS0⟩⟩
    clear hSS htc
    refine wp_region_tree (S := S) 7 (.q 0 <| .q 1 <| .q 2 <| .q 3 <| .q 4 <| .q 5 <| .a 6 <| .done) [] (by kernel_rfl) (by kernel_rfl) hS0 ?_
    repeat (refine tree_q (by rfl) (by rfl) (fun K hK => ?_); go_simp; refine hK _ ?_; clear hK K)
    refine tree_a (by rfl) (by rfl) (fun K hK => ?_)
    obtain ⟨D, hown, hk1, hk2⟩ := hd.grp' HTC.out
    have hsz := hown.size_le
    obtain ⟨w5, hrun, hrg0, hg0, hs0⟩ := hown.range law_cell Try.underlying76
    have hb5 := below_of_grown' hg0
    have h5 := hd.below hb5
    have kc5 := kc4.drew.below hb5
    go_simp
    refine hK _ _ (held_in HSS.out ⟨h5.top, kc5, by rw [h5.look_t ⟨row, col⟩ HRC.out, HTC.out]; rfl⟩) ?_
    clear hK K hrun
    refine tree_nil ?_
    clear q0 p0 q1 q2 hS0 HSS
    have HK1 := Lib.hid hk1
    have HK2 := Lib.hid hk2
    have hB5 : Below w.heap.size w w5 := bel_grown (bel_drew hB4) hg0 (fun z hz => by cases hz)
    have hAP5 : AP KC w5 w3.heap.size (.slice A4 C0.length C0.length) C0 := (hAP4.below (bel_drew (bel_refl w4))).below hb5
    have hri : w.heap.size < w4.heap.size := kc4.lt
    have hmg : IsMp w5 g := mp_set (h5.grp' HTC.out)
    have hrg0 : w5.ranges Try.prog 32 unitElem g w4.heap.size n D (Maps.has D) (Maps.size D) := hrg0
    generalize w4.heap.size = ri at hri hw34 hrg0 ⊢
    clear hk1 hk2 hs0 hg0 hb5 hown h5 h4 kc4 kc5 hB4 hd hAP4 hklc
    go_wp2_with fail
    go_loopg [5] (Maps.size D) (fun gk s5 wr => ∃ (out : List Cl) (left : Lit → Bool) (cnt : Nat), cnt ≤ gk ∧ wr.ranges Try.prog 32 unitElem g ri n D left cnt ∧ AP KC wr w3.heap.size s5 out ∧ out.length + cnt ≤ n + n ∧ Hid (∀ x, x ∈ out → x ∈ C0 ∨ x ∈ Wh ⟨row, col⟩) ∧ Hid (∀ x, x ∈ C0 → x ∈ out) ∧
        Hid (∀ x l, keyOf Try.prog 32 (cellV x) = some l → x ∈ Wh ⟨row, col⟩ → left l = false → x ∈ out) ∧ Hid (∀ l, left l = true → Maps.has D l = true) ∧ Below w.heap.size w wr)
    case atStart => exact ⟨C0, _, _, Nat.le_refl _, hrg0, hAP5, by omega, Lib.hid (fun x hx => .inl hx), Lib.hid (fun x hx => hx), Lib.hid (fun x l hl h1 h2 => by
      have := (HK1.out x l hl).2 h1
      rw [h2] at this
      cases this), Lib.hid (fun l hl => hl), hB5⟩
    case round =>
      obtain ⟨out, left, cnt, hcg, hrg, hAP, hcl, HIN, HC1, HLF, HSUB, hW⟩ := hrel
      clear hrg0 hAP5 hB5 hmg
      go_upto_region 4 with (at_next; refine wp_mset_next rfl _ rfl law_cell g ri n cnt D left HK2.out HSUB.out rfl hrg (fun hc0 hl0 => ?_) (fun x kl w1 cnt1 hrx hkx hlk hrg1 hlt1 hg1 hsz1 hen => ?_))
      · clear hrg
        have HL0 := Lib.hid hl0
        have hO2 := hAP.ow
        have hB7 := hW
        have HMEM : Hid (∀ x, x ∈ out ↔ x ∈ Cs) := Lib.hid (fun x => by
          rw [HM.out x]
          refine ⟨HIN.out x, fun hx => hx.elim (HC1.out x) (fun hx => ?_)⟩
          obtain ⟨kl, hkl⟩ := key_cell x (HWC.out x hx)
          exact HLF.out x kl hkl hx (HL0.out kl))
        clear hl0 hc0 hAP hW
        go_wp2_with fail
        refine (sortC_any hO2 (by omega)).mono ?_
        rintro e w8 ⟨rfl, M, hM, hp, hso, hg8⟩
        have hB8 := bel_grown hB7 hg8 (fun z hz => by have := (hO2.lt z hz).1; omega)
        have hmemM : ∀ x, x ∈ cpt M ↔ x ∈ Cs := fun x => by
          rw [show cpt M = M.foldl cptS [] from rfl, mem_cpt, hp.mem_iff, HMEM.out x]
          simp
        have hsrtM : SrtC (cpt M) := cpt_srt M [] hso List.Pairwise.nil (fun x hx => by cases hx)
        have HCM : Hid (cpt M = Cs) := Lib.hid (srtC_ext hsrtM HS.out hmemM)
        have hMl : M.length < 4611686018427387904 := by rw [hp.length_eq]; omega
        clear hp hso hmemM hsrtM hg8 hB7 hO2
        go_wp2_with fail
        refine (compact_any hM hMl).mono ?_
        rintro e w9 ⟨⟨v9, rfl, hO9⟩, hg9⟩
        have hB9 := bel_grown hB8 hg9 (fun z hz => by have := (hM.lt z hz).1; omega)
        rw [HCM.out] at hO9
        go_wp2_with fail
        go_ret
        exact ⟨_, rfl, hO9.low (by omega), hB9⟩
      · have hxW : x ∈ Wh ⟨row, col⟩ := (HK1.out x kl hkx).1 (HSUB.out kl hlk)
        have hB1 := bel_grown hW hg1 (fun z hz => by injection hz with hz; omega)
        have hAP1 := hAP.grown hg1 (fun g' hg' e => hAP.ne_iter hrg g' hg' (by injection e with e; exact e.symm))
        have HIN2 : Hid (∀ y, y ∈ out ++ [x] → y ∈ C0 ∨ y ∈ Wh ⟨row, col⟩) := Lib.hid (fun y hy => by
          rcases List.mem_append.1 hy with h1 | h1
          · exact HIN.out y h1
          · rw [List.mem_singleton.1 h1]; exact .inr hxW)
        have HC2 : Hid (∀ y, y ∈ C0 → y ∈ out ++ [x]) := Lib.hid (fun y hy => List.mem_append_left _ (HC1.out y hy))
        have HLF2 : Hid (∀ y l, keyOf Try.prog 32 (cellV y) = some l → y ∈ Wh ⟨row, col⟩ → (left l && !l.sameKey kl) = false → y ∈ out ++ [x]) := Lib.hid (fun y l hl h1 h2 => by
          cases hll : left l with
          | false => exact List.mem_append_left _ (HLF.out y l hl h1 hll)
          | true =>
            rw [hll, Bool.true_and, Bool.not_eq_false'] at h2
            have := WideAt.sameKey_eq h2
            subst this
            rw [cellV_inj y x (law_cell.inj hl hkx)]
            exact List.mem_append_right _ (by simp))
        have HSUB2 : Hid (∀ l, (left l && !l.sameKey kl) = true → Maps.has D l = true) := Lib.hid (fun l hl => HSUB.out l (by rw [Bool.and_eq_true] at hl; exact hl.1))
        have hen' : (Instr.entry (.pointer (some ⟨ri, 0, none⟩))).run Try.prog w1 = .ok (.tuple #[.agg #[.int .i64 x.row, .int .i64 x.col], .agg #[]]) w1 := hen
        clear hen hrg hW hg1 hAP HLF HSUB HIN HC1 hxW hlk hkx
        have hcl2 : out.length + 1 + cnt1 ≤ n + n := by omega
        go_upto_region 5 with fail
        try rw [← hsz1]
        have kx := Blk.new w1 (g := w1.heap.size) rfl 32 #[.int .i64 x.row, .int .i64 x.col]
        have hAP2 := hAP1.alloc (.cells #[.int .i64 x.row, .int .i64 x.col] 32)
        have hB2 := bel_alloc hB1 (.cells #[.int .i64 x.row, .int .i64 x.col] 32)
        have hrg2 := hrg1.alloc (.cells #[.int .i64 x.row, .int .i64 x.col] 32)
        generalize hwz : w1.alloc (.cells #[.int .i64 x.row, .int .i64 x.col] 32) = w2 at kx hAP2 hB2 hrg2 ⊢
        generalize w1.heap.size = gx at kx ⊢
        clear hwz hrg1 hAP1 hB1 hsz1 hen'
        have rdx := kx.rd
        have hAP6 := hAP2.alloc (.cells #[.int .i64 x.row, .int .i64 x.col] 32)
        have hrg6 := hrg2.alloc (.cells #[.int .i64 x.row, .int .i64 x.col] 32)
        have hB6 := bel_alloc hB2 (.cells #[.int .i64 x.row, .int .i64 x.col] 32)
        have hlies : Lies KC (w2.alloc (.cells #[.int .i64 x.row, .int .i64 x.col] 32)) (some ⟨w2.heap.size, 0, none⟩) [x] := Lies.blk (Blk.new w2 rfl 32 #[.int .i64 x.row, .int .i64 x.col]) rfl
        have hb1 : out.length + 1 ≤ maxLen := by unfold maxLen; omega
        have hb2 : (out.length + 1) * KC.bytes ≤ 140737488355328 := by show (out.length + 1) * 16 ≤ _; omega
        have hb3 : w3.heap.size ≤ (w2.alloc (.cells #[.int .i64 x.row, .int .i64 x.col] 32)).heap.size := by have h1 := hrg6.lt; omega
        clear hAP2 hrg2 hB2
        go_wp2_with (at_builtin; (refine wp_ap_append info_kc rfl Try.underlying41 rfl _ _ rfl rfl hAP6 (y := x) (c := 1) rfl hlies hb1 hb2 hb3 ?_); intro v7 w7 hO7 hg7)
        have hB7 := bel_grown hB6 hg7 (fun z hz => by have := (hAP6.lt z hz).1; omega)
        have hrg7 := hrg6.kept hg7 (fun e => hAP6.ne_map (mp_own hrg6.owns) _ e.symm rfl) (fun e => hAP6.ne_iter hrg6 _ e.symm rfl)
        go_roundg cnt1
        case measure => omega
        case rel => exact ⟨out ++ [x], _, cnt1, Nat.le_refl _, hrg7, .inr hO7, by rw [List.length_append, List.length_singleton]; exact hcl2, HIN2, HC2, HLF2, HSUB2, hB7⟩
end Go.Proofs.Ytdionganlmnlkaa

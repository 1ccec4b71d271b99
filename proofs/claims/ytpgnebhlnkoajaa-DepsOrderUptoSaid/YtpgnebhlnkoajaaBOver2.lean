/-
  Bands: contract of the program's Over where the band is there. Conditions: those of each theorem.
-/
import Derived.Test.YtpgnebhlnkoajaaBOver
import Derived.Test.YtpgnebhlnkoajaaBCell
import Derived.Deep.LoopGhost
namespace Go.Proofs.Ytpgnebhlnkoajaa
open Go.ChangeShapes Go.WideShapes Go.ChangeAt Go.RowKit Go.Deep
attribute [local go_sem] Cls

set_option maxHeartbeats 6400000 in
set_option maxRecDepth 100000 in
theorem over_some (bb ma mb nb n g : Nat) (row col : Int) (L : List Pr) (Cs : List Cl) (F : Int → Option Nat) (w : World) (h : BIs w bb ma mb nb n L F) (hr : i64P row) (hF : F (row.tdiv 64) = some g) (hs : SrtC Cs) (hm : ∀ x, x ∈ Cs ↔ ∃ p, p ∈ L ∧ reach (row.tdiv 64) p = true ∧ inB p.t p.l p.b p.r row col = true ∧ x = ⟨p.row, p.col⟩) (hn : (n + 1) * 56 ≤ 140737488355328) :
    Calls Try.prog 33 #[.pointer (some ⟨bb, 0, none⟩), .agg #[.int .i64 row, .int .i64 col]] w (OverIs w Cs) := by
  go_enter Try.func33, Try.ntmps33
  go_wp2_with fail
  go_step3
  go_wp2_with fail
  go_step3
  go_upto_region 2 with fail
  have hk : i64P (row.tdiv 64) := i64_quo hr
  have HK := Lib.hid hk
  have wq : IntKind.i64.wrap (row.tdiv 64) = row.tdiv 64 := IntWalk.i64_in _ (by unfold i64P at hk; omega)
  have HF := Lib.hid hF
  clear hk hF hr
  have hB3 := bel_alloc (bel_refl w) (.cells #[.int .i64 row, .int .i64 col] 33)
  have h3 := h.below hB3
  have k3 := Blk.new w rfl 33 #[.int .i64 row, .int .i64 col]
  generalize hwz : w.alloc (.cells #[.int .i64 row, .int .i64 col] 33) = w3 at hB3 h3 k3 ⊢
  clear hwz
  obtain ⟨S, hSS⟩ : ∃ S : World → Prop, S = fun w' => BIs w' bb ma mb nb n L F ∧ Blk w' w.heap.size 33 #[.int .i64 row, .int .i64 col] := ⟨_, rfl⟩
  have q0 := fun x => (held_of hSS x).1.top.rd
  have q1 := fun x => (held_of hSS x).2.rd
  have q2 : ∀ x : Held S, (Instr.lookup 74 (.map (some mb)) (.int .i64 (row.tdiv 64)) false).run Try.prog x.w = .ok (.map (some g)) x.w := fun x => by
    rw [(held_of hSS x).1.bg.look HK.out, HF.out]
  have HSS := Lib.hid hSS
  have hS0 := held_in HSS.out ⟨h3.below (bel_drew (bel_refl w3)), k3.drew⟩
  haveI : Nonempty (Held S) := ⟨⟨_, hS0⟩⟩
  clear hSS
  refine wp_region_tree (S := S) 9 (.q 0 <| .q 1 <| .q 2 <| .q 3 <| .q 4 <| .q 5 <| .q 6 <| .q 7 <| .a 8 <| .done) [] (by kernel_rfl) (by kernel_rfl) hS0 ?_
  repeat (refine tree_q (by rfl) (by rfl) (fun K hK => ?_); go_simp; refine hK _ ?_; clear hK K)
  refine tree_a (by rfl) (by rfl) (fun K hK => ?_)
  obtain ⟨D, hown, hk1, hk2⟩ := (h3.below (bel_drew (bel_refl w3))).bg.grp _ g HF.out
  have hsz := hown.size_le
  obtain ⟨w5, hrun, hrg0, hg0, hs0⟩ := hown.range law_pair Try.underlying73
  have hb5 := below_of_grown' hg0
  have h5 := (h3.below (bel_drew (bel_refl w3))).below hb5
  have k5 := k3.drew.below hb5
  go_simp
  refine hK _ _ (held_in HSS.out ⟨h5, k5⟩) ?_
  clear hK K hrun
  refine tree_nil ?_
  have HK1 := Lib.hid hk1
  have HK2 := Lib.hid hk2
  clear hk1 hk2
  have hB0 : Below w.heap.size w w5 := bel_grown (bel_drew hB3) hg0 (fun z hz => by cases hz)
  have hri : w.heap.size < w3.heap.size := k3.lt
  have hszr : w5.heap.size = w3.heap.size + 1 := hs0
  have hrg0 : w5.ranges Try.prog 79 unitElem g w3.heap.size n D (Maps.has D) (Maps.size D) := hrg0
  generalize w3.heap.size = ri at hri hszr hrg0 ⊢
  clear hs0 hg0 hb5 hown hS0 this HSS q0 q1 q2 h5 h3 k3 hB3
  go_wp2_with fail
  go_loopg [5] (Maps.size D) (fun gk s5 wr => ∃ (out : List Cl) (left : Lit → Bool) (cnt : Nat), cnt ≤ gk ∧ wr.ranges Try.prog 79 unitElem g ri n D left cnt ∧ OL KC wr (ri + 1) s5 out ∧ out.Nodup ∧ out.length + cnt ≤ n ∧ Hid (∀ x, x ∈ out → x ∈ Cs) ∧
      Hid (∀ p l, keyOf Try.prog 79 (pairV p) = some l → p ∈ L → reach (row.tdiv 64) p = true → inB p.t p.l p.b p.r row col = true → left l = false → (⟨p.row, p.col⟩ : Cl) ∈ out) ∧ Hid (∀ l, left l = true → Maps.has D l = true) ∧ Blk wr w.heap.size 33 #[.int .i64 row, .int .i64 col] ∧ Below w.heap.size w wr)
  case atStart =>
    refine ⟨[], _, _, Nat.le_refl _, hrg0, OL.nil _ _, List.nodup_nil, by simpa using hsz, Lib.hid (fun p hp => by simp at hp), Lib.hid (fun p l hl h1 h2 _ h4 => ?_), Lib.hid (fun l hl => hl), k5, hB0⟩
    have := (HK1.out p l hl).2 (List.mem_filter.2 ⟨h1, h2⟩)
    rw [h4] at this
    cases this
  case round =>
    obtain ⟨out, left, cnt, hcg, hrg, hO, hnd, hcl, HIN, HLF, HSUB, hk, hW⟩ := hrel
    clear hrg0 hB0 k5 hszr
    have rdk := hk.rd
    go_upto_region 5 with (at_next; refine wp_pair_next rfl _ rfl g ri n D left cnt HK2.out HSUB.out rfl hrg (fun hc0 hl0 => ?_) (fun p kl w1 cnt1 hkp hlk hrg1 hlt1 hg1 hsz1 hen => ?_))
    · clear hrg rdk
      obtain ⟨A, c, rfl, hcle, hcm, _, hA⟩ := hO.see
      have HL0 := Lib.hid hl0
      clear hl0 hc0
      refine (sort_cells hO hnd (by omega)).mono ?_
      rintro e w6 ⟨rfl, M, hO5, hlen, hsM, hM, hg5⟩
      obtain rfl : M = Cs := srtC_ext hsM hs (fun x => by
        rw [hM x]
        refine ⟨fun hx => HIN.out x hx, fun hx => ?_⟩
        obtain ⟨p, hpL, hpr, hpi, rfl⟩ := (hm x).1 hx
        obtain ⟨kl, hkl⟩ := key_pair p (okP_rng (h.may p hpL)).2
        exact HLF.out p kl hkl hpL hpr hpi (HL0.out kl))
      have hB5 := bel_grown hW hg5 (fun z hz => by have := (hO.lt z hz).1; omega)
      have HLEN := Lib.hid hlen
      clear hlen
      go_wp2_with fail
      refine (clipc_any A out.length c w6 hcle).mono ?_
      rintro e w7 ⟨rfl, rfl⟩
      go_wp2_with fail
      try rw [Exit.noGoto_ret]
      go_ret
      refine ⟨A, by rw [HLEN.out]; rfl, ol_lies hO5, ?_, hB5⟩
      rcases hA with rfl | ⟨g', rfl, hg1, hg2⟩
      · exact .inl rfl
      · obtain ⟨cur, b1, b2, b3, b4⟩ := ol_blk hO5
        exact .inr ⟨g', cur, rfl, by omega, b1, by have := HLEN.out; rw [b2]; show _ ≤ c * 2; omega⟩
    · obtain ⟨hpL, hpr⟩ := List.mem_filter.1 ((HK1.out p kl hkp).1 (HSUB.out kl hlk))
      have hB1 := bel_grown hW hg1 (fun z hz => by injection hz with hz; omega)
      have hO1 := hO.grown hg1 (fun g' hg' e => ol_ne_iter hO hrg g' hg' (by injection e with e; exact e.symm))
      have hk1 := hk.grown hg1 (by omega)
      have hHLF : ∀ (q : Pr) (l : Lit), keyOf Try.prog 79 (pairV q) = some l → q ∈ L → reach (row.tdiv 64) q = true → inB q.t q.l q.b q.r row col = true → (left l && !l.sameKey kl) = false → (⟨q.row, q.col⟩ : Cl) ∈ out ∨ q = p := fun q l hl h1 h2 h3 h4 => by
        cases hll : left l with
        | false => exact .inl (HLF.out q l hl h1 h2 h3 hll)
        | true =>
          rw [hll, Bool.true_and, Bool.not_eq_false'] at h4
          have := WideAt.sameKey_eq h4
          subst this
          exact .inr (pairV_inj q p (law_pair.inj hl hkp))
      have hHSUB : ∀ l, (left l && !l.sameKey kl) = true → Maps.has D l = true := fun l hl => HSUB.out l (by rw [Bool.and_eq_true] at hl; exact hl.1)
      have HLF' := Lib.hid hHLF
      have HSUB' := Lib.hid hHSUB
      have HPL := Lib.hid (And.intro hpL hpr)
      clear hHLF hHSUB hen hrg hW hg1 hO HLF HSUB rdk hk hlk hpL hpr
      rw [← hsz1]
      have k4 := Blk.new w1 (g := w1.heap.size) rfl 79 #[.int .i64 p.t, .int .i64 p.l, .int .i64 p.b, .int .i64 p.r, .int .i64 p.row, .int .i64 p.col]
      have hO2 := hO1.alloc (.cells #[.int .i64 p.t, .int .i64 p.l, .int .i64 p.b, .int .i64 p.r, .int .i64 p.row, .int .i64 p.col] 79)
      have hB2 := bel_alloc hB1 (.cells #[.int .i64 p.t, .int .i64 p.l, .int .i64 p.b, .int .i64 p.r, .int .i64 p.row, .int .i64 p.col] 79)
      have hrg2 := hrg1.alloc (.cells #[.int .i64 p.t, .int .i64 p.l, .int .i64 p.b, .int .i64 p.r, .int .i64 p.row, .int .i64 p.col] 79)
      have hk2 := hk1.alloc (.cells #[.int .i64 p.t, .int .i64 p.l, .int .i64 p.b, .int .i64 p.r, .int .i64 p.row, .int .i64 p.col] 79)
      have hlt4 := k4.lt
      generalize hwz : w1.alloc (.cells #[.int .i64 p.t, .int .i64 p.l, .int .i64 p.b, .int .i64 p.r, .int .i64 p.row, .int .i64 p.col] 79) = w2 at k4 hO2 hB2 hrg2 hk2 hlt4 ⊢
      generalize w1.heap.size = gp at k4 hlt4 ⊢
      clear hwz hrg1 hO1 hB1 hk1 hsz1
      have rd4 := k4.rd
      have rd2 := hk2.rd
      go_wp2_with fail
      refine (pin_any p.t p.l p.b p.r row col w2).mono ?_
      rintro e w4 ⟨rfl, hb4⟩
      have hrg4 := hrg2.kept (grown_of_below hb4 none) (by simp) (by simp)
      have hO4 := hO2.below hb4
      have hk4 := hk2.below hb4
      have hp4 := k4.below hb4
      have hB4 := bel_call hB2 hb4
      clear hrg2 hO2 hk2 k4 hb4 rd4 rd2 hlt4 hB2
      cases hib : inB p.t p.l p.b p.r row col with
      | false =>
        have HIB := Lib.hid hib
        clear hib
        go_wp2_with fail
        go_roundg cnt1
        case measure => omega
        case rel =>
          refine ⟨out, _, cnt1, Nat.le_refl _, hrg4, hO4, hnd, by omega, HIN, Lib.hid (fun q l hl h1 h2 h3 h4 => ?_), HSUB', hk4, hB4⟩
          rcases HLF'.out q l hl h1 h2 h3 h4 with h5 | h5
          · exact h5
          · rw [h5, HIB.out] at h3
            cases h3
      | true =>
        have hpC : (⟨p.row, p.col⟩ : Cl) ∈ Cs := (hm _).2 ⟨p, HPL.out.1, HPL.out.2, hib, rfl⟩
        have HPC := Lib.hid hpC
        clear hib hpC
        have rd4 := hp4.rd
        obtain ⟨A, c, rfl, hcle, hcm, hLi, hA⟩ := hO4.see
        go_wp2_with fail
        go_loopg [29] out.length (fun g2 s29 wy => ∃ j : Nat, j + g2 = out.length ∧ s29 = .int .i64 j ∧ Hid (∀ x, x ∈ out.take j → x ≠ (⟨p.row, p.col⟩ : Cl)) ∧ Below w4.heap.size w4 wy)
        case atStart => exact ⟨0, by omega, rfl, Lib.hid (fun x hx => by simp at hx), bel_refl w4⟩
        case round =>
          obtain ⟨j, hj, rfl, HJ, hby⟩ := hrel
          have hpy := hp4.below hby
          have hOy := hO4.below hby
          have hLy := hLi.below hby
          have rdp := hpy.rd
          have ltp := hpy.lt
          clear rd4
          by_cases hjl : j < out.length
          · obtain ⟨x, hx⟩ : ∃ x, out[j]? = some x := ⟨_, List.getElem?_eq_getElem hjl⟩
            obtain ⟨gx, off, hAe, hgx, c0, c1⟩ := cl_at hLy hx
            subst hAe
            have i0 : (0 : Int) ≤ (j : Int) := by omega
            have i1 : (j : Int) < (out.length : Int) := by omega
            have hE := fun W => eql_cell W x.row x.col p.row p.col
            obtain ⟨q, hq⟩ : ∃ q, q = decide ((⟨x.row, x.col⟩ : Cl) = ⟨p.row, p.col⟩) := ⟨_, rfl⟩
            rw [← hq] at hE
            have HQ := Lib.hid hq
            have HX := Lib.hid hx
            have hb6 := bel_alloc hby (.cells #[.int .i64 x.row, .int .i64 x.col] 33)
            clear hq hx
            cases q with
            | true =>
              have hin : (⟨p.row, p.col⟩ : Cl) ∈ out := by
                have e : x = (⟨p.row, p.col⟩ : Cl) := of_decide_eq_true HQ.out.symm
                rw [← e]
                exact List.mem_of_getElem? HX.out
              have HIN2 := Lib.hid hin
              clear hin
              go_wp2_with fail
              go_roundg cnt1
              case measure => omega
              case rel =>
                refine ⟨out, _, cnt1, Nat.le_refl _, hrg4.kept (grown_of_below hb6 none) (by simp) (by simp), hO4.below hb6, hnd, by omega, HIN, Lib.hid (fun q l hl h1 h2 h3 h4 => ?_), HSUB', hk4.below hb6, bel_call hB4 hb6⟩
                rcases HLF'.out q l hl h1 h2 h3 h4 with h5 | h5
                · exact h5
                · rw [h5]; exact HIN2.out
            | false =>
              have hne : ∀ y, y ∈ out.take (j + 1) → y ≠ (⟨p.row, p.col⟩ : Cl) := fun y hy => by
                rw [List.take_add_one, List.mem_append, HX.out] at hy
                rcases hy with h1 | h1
                · exact HJ.out y h1
                · have h2 : y = x := by simpa using h1
                  rw [h2]
                  exact of_decide_eq_false HQ.out.symm
              have HNE := Lib.hid hne
              clear hne
              go_wp2_with fail
              go_roundg (out.length - (j + 1))
              case measure => omega
              case rel => exact ⟨j + 1, by omega, by go_num, HNE, hb6⟩
          · obtain rfl : j = out.length := by omega
            have hno : (⟨p.row, p.col⟩ : Cl) ∉ out := fun h9 => HJ.out _ (by rw [List.take_length]; exact h9) rfl
            have hnd' : (out ++ [(⟨p.row, p.col⟩ : Cl)]).Nodup := by
              rw [List.nodup_append]
              exact ⟨hnd, by simp, fun a ha b hb => by rw [List.mem_singleton.1 hb]; rintro rfl; exact hno ha⟩
            have hlen' : (out ++ [(⟨p.row, p.col⟩ : Cl)]).length + cnt1 ≤ n := by rw [List.length_append, List.length_singleton]; omega
            have HIN' : Hid (∀ x, x ∈ out ++ [(⟨p.row, p.col⟩ : Cl)] → x ∈ Cs) := Lib.hid (fun x hx => by
              rcases List.mem_append.1 hx with h1 | h1
              · exact HIN.out x h1
              · rw [List.mem_singleton.1 h1]; exact HPC.out)
            clear hno
            have hB6 := bel_alloc (bel_call hB4 hby) (.cells #[.int .i64 p.row, .int .i64 p.col] 33)
            have hO6 := hOy.alloc (.cells #[.int .i64 p.row, .int .i64 p.col] 33)
            have hrg6 := (hrg4.kept (grown_of_below hby none) (by simp) (by simp)).alloc (.cells #[.int .i64 p.row, .int .i64 p.col] 33)
            have hk6 := (hk4.below hby).alloc (.cells #[.int .i64 p.row, .int .i64 p.col] 33)
            have hlies : Lies KC (wr.alloc (.cells #[.int .i64 p.row, .int .i64 p.col] 33)) (some ⟨wr.heap.size, 0, none⟩) [(⟨p.row, p.col⟩ : Cl)] := Lies.blk (Blk.new wr rfl 33 #[.int .i64 p.row, .int .i64 p.col]) rfl
            have hb1 : out.length + [(⟨p.row, p.col⟩ : Cl)].length ≤ maxLen := by show out.length + 1 ≤ _; unfold maxLen; omega
            have hb2 : (out.length + [(⟨p.row, p.col⟩ : Cl)].length) * KC.bytes ≤ 140737488355328 := by show (out.length + 1) * 16 ≤ _; omega
            have hb3 : ri + 1 ≤ (wr.alloc (.cells #[.int .i64 p.row, .int .i64 p.col] 33)).heap.size := hrg6.lt
            go_wp2_with (at_builtin; (refine wp_ol_append info_kc rfl Try.underlying23 rfl _ _ rfl rfl hO6 (M := [(⟨p.row, p.col⟩ : Cl)]) (c := 1) rfl rfl hlies hb1 hb2 hb3 ?_); intro v7 w7 hO7 hg7)
            have hB7 := bel_grown hB6 hg7 (fun z hz => by have := (hO6.lt z hz).1; omega)
            have hrg7 := hrg6.kept hg7 (fun e => ol_ne_map' hO6 hrg6.owns _ e.symm rfl) (fun e => ol_ne_iter hO6 hrg6 _ e.symm rfl)
            have hk7 := hk6.grownX hg7 (fun e => by have := (hO6.lt _ e.symm).1; omega)
            go_roundg cnt1
            case measure => omega
            case rel =>
              refine ⟨out ++ [(⟨p.row, p.col⟩ : Cl)], _, cnt1, Nat.le_refl _, hrg7, hO7, hnd', hlen', HIN', Lib.hid (fun q l hl h1 h2 h3 h4 => ?_), HSUB', hk7, hB7⟩
              rcases HLF'.out q l hl h1 h2 h3 h4 with h5 | h5
              · exact List.mem_append_left _ h5
              · rw [h5]; exact List.mem_append_right _ (by simp)
end Go.Proofs.Ytpgnebhlnkoajaa

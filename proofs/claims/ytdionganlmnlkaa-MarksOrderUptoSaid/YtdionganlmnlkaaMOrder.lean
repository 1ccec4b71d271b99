/-
  The walk of MarksOrder. Conditions: the deeds and the cells lie as said; they hold no more than the bound.
-/
import Derived.Test.YtdionganlmnlkaaMStop
import Derived.Test.YtdionganlmnlkaaMLoop2
import Derived.Test.YtdionganlmnlkaaDOpC
namespace Go.Proofs.Ytdionganlmnlkaa
open Go.ChangeShapes Go.WideShapes Go.ChangeAt Go.RowKit Go.Deep
attribute [local go_sem] Cls

theorem fs_iff {Es : List Ed} {f0 f : Cl → Option Int} {S S' : Cl → Prop} (hS : ∀ x, S' x ↔ S x) (h : IsFS Es f0 S f) : IsFS Es f0 S' f := by
  have hS' : S' = S := funext fun x => propext (hS x)
  rw [hS']
  exact h
theorem setE_may {c : Cl} {L : List Rf} (h : setE c L = 0) : mayB c.row c.col = true := by
  cases e : mayB c.row c.col with
  | true => rfl
  | false => rw [setE_addr e] at h; cases h
theorem order_step {Es : List Ed} {c : Cl} {L : List Rf} {fm : Bool} {f f' : Cl → Option Int} {pk pk' : Int} (hs : SrtE Es) (h0 : setE c L = 0) (hfm : 0 < L.length → fm = true) (hF : ∀ x, x ∈ Es.map eCl → (f x).isSome = true) (ht : TMay (setD c L Es) c fm f f' pk pk') :
    (∀ x, (f' x).isSome = if x = c then fm else (f x).isSome) ∧ ∀ x, x ∈ (setD c L Es).map eCl → (f' x).isSome = true := by
  rcases ht with ⟨hm, _⟩ | ⟨_, ht⟩
  · rw [setE_may h0] at hm; cases hm
  have h1 := dom_touch (setD_spec hs).1 (fun x hx hn => hF x (from_set hs hx hn)) ht
  refine ⟨h1, fun x hx => ?_⟩
  rw [h1 x]
  by_cases e : x = c
  · rw [if_pos e]; exact hfm (self_set hs h0 (by rw [e] at hx; exact hx))
  · rw [if_neg e]; exact hF x (from_set hs hx e)
set_option maxHeartbeats 25600000 in
set_option maxRecDepth 100000 in
theorem marksOrder_walk (A : Option Addr) (cap : Nat) (D : List DdV) (A2 : Option Addr) (cap2 : Nat) (C : List Cl) (w : World) (hS : DeedsAt w A D) (hC : CellsAt w A2 C) (htot : tot D + 1 ≤ 1048576) (hCl : C.length ≤ 1048575) :
    Calls Try.prog 6 #[.slice A D.length cap, .slice A2 C.length cap2] w fun e w' => e = .returned (.bool true) ∧ Below w.heap.size w w' := by
  have hDl := tot_len D
  have hnq := fun W a b s => neq_mk_same W a b s
  go_enter Try.func6, Try.ntmps6
  go_wp2_with fail
  refine (begin_any _).mono ?_
  rintro e w1 ⟨ba, da, ma, sa, ya, ra, ca, rfl, hSa, hla, hb1⟩
  go_wp2_with fail
  refine (begin_any _).mono ?_
  rintro e w2 ⟨bb, db, mb, sm, yb, rb, cb, rfl, hSb, hlb, hb2⟩
  have ha0 := (li_new hb1 hSa hla).below hb2
  have hb0 := li_new (bel_call hb1 hb2) hSb (fun z hz => Nat.le_trans hb1.size (hlb z hz))
  have HD0 : Hid (∀ z, cb z ≠ 0 → ca z = 0) := Lib.hid (fun z hz => by
    by_cases e : ca z = 0
    · exact e
    · have h1 := hSa.csz z e
      have h2 := hlb z hz
      omega)
  have qa := ha0.bs.top.rd
  have la := ha0.bs.top.lt
  have qb := hSb.top.rd
  have lb := hSb.top.lt
  clear hSa hSb hla hlb hb1 hb2
  go_wp2_with fail
  clear qa la qb lb
  go_loopw [7] (fun s wr => ∃ (k : Nat) (ca cb : Nat → Nat) (pa pb : Int) (fa fb : Cl → Option Int) (Es : List Ed), k ≤ D.length ∧ s = .int .i64 k ∧ LI w wr ba da ma sa ya ra (tot (D.take k)) ca pa fa Es ∧ LI w wr bb db mb sm yb rb (tot (D.take k)) cb pb fb Es ∧ Hid (∀ z, cb z ≠ 0 → ca z = 0) ∧ Hid (∀ x, (fa x).isSome = (fb x).isSome) ∧ Hid (∀ x, x ∈ Es.map eCl → (fa x).isSome = true)) (fun s _ => D.length - (intOf s).toNat)
  case atStart => exact ⟨0, ca, cb, 0, 0, _, _, [], Nat.zero_le _, rfl, ha0, hb0, HD0, Lib.hid (fun x => rfl), Lib.hid (fun x hx => by cases hx)⟩
  case round =>
    clear ha0 hb0 HD0
    obtain ⟨k, ca, cb, pa, pb, fa, fb, Es, hk, rfl, ha, hb, HDIS, HEQ, HFA⟩ := hrel
    by_cases hkl : k < D.length
    · skip
      obtain ⟨d, hd⟩ : ∃ d, D[k]? = some d := ⟨_, List.getElem?_eq_getElem hkl⟩
      obtain ⟨b1, o1, hA1, hb1, ⟨z0, z1, z2, z3, z4⟩, hLi, hrcd, hkd⟩ := hS k d hd
      subst hA1
      have c0 := (ha.bel.cell hb1).trans z0
      have c1 := (ha.bel.cell hb1).trans z1
      have c2 := (ha.bel.cell hb1).trans z2
      have c3 := (ha.bel.cell hb1).trans z3
      have c4 := (ha.bel.cell hb1).trans z4
      have htk := tot_take hd
      have htl := tot_le D (k + 1)
      have hT : tot (D.take k) + (d.L.length + 1) ≤ 1048576 := by omega
      have i0 : (0 : Int) ≤ (k : Int) := by omega
      have i1 : (k : Int) < (D.length : Int) := by omega
      have HTK := Lib.hid htk
      clear hd htk htl z1 z2 z3 z4
      go_upto_region 9 with fail
      have hBx := bel_alloc (bel_refl wr) (.cells #[.int .i64 d.kd, .int .i64 d.row, .int .i64 d.col, .slice d.A d.L.length d.cap, .bool d.fm] 35)
      have kb := ha.bs.box hBx (Blk.new wr rfl 35 #[.int .i64 d.kd, .int .i64 d.row, .int .i64 d.col, .slice d.A d.L.length d.cap, .bool d.fm]) (Nat.le_refl _)
      have hcb := (hb.bs.box hBx (Blk.new wr rfl 35 #[.int .i64 d.kd, .int .i64 d.row, .int .i64 d.col, .slice d.A d.L.length d.cap, .bool d.fm]) (Nat.le_refl _)).2
      have hgx := ha.bel.size
      replace ha := ha.below hBx
      replace hb := hb.below hBx
      have h6o := ha.low
      generalize hwz : wr.alloc (.cells #[.int .i64 d.kd, .int .i64 d.row, .int .i64 d.col, .slice d.A d.L.length d.cap, .bool d.fm] 35) = w2 at hBx kb ha hb ⊢
      generalize wr.heap.size = gx at kb hcb hgx ⊢
      generalize d.fm = fm0 at kb
      clear hwz hBx c0 c1 c2 c3 c4 z0 hkd
      have qx := kb.1.rd
      have lx := kb.1.lt
      have zx := kb.1.fz
      go_upto_region 10 with fail
      replace ha := ha.poke (g := gx) kb.2 hgx 0 (.int .i64 0)
      replace hb := hb.poke (g := gx) hcb hgx 0 (.int .i64 0)
      replace kb := kb.put 0 (.int .i64 0)
      generalize hwz : w2.setCell ⟨gx, 0, none⟩ (.int .i64 0) = w3 at ha hb kb ⊢
      clear hwz qx lx zx
      cases fm0 with
      | true =>
        have kb : Bx _ ca gx 35 #[.int .i64 0, .int .i64 d.row, .int .i64 d.col, .slice d.A d.L.length d.cap, .bool true] := kb
        have qx := kb.1.rd
        have lx := kb.1.lt
        have zx := kb.1.fz
        go_upto_region 11 with fail
        replace ha := ha.poke (g := gx) kb.2 hgx 4 (.bool true)
        replace hb := hb.poke (g := gx) hcb hgx 4 (.bool true)
        replace kb := kb.put 4 (.bool true)
        generalize hwz : w3.setCell ⟨gx, 4, none⟩ (.bool true) = w4 at ha hb kb ⊢
        clear hwz qx lx zx
        have kb : Bx _ ca gx 35 #[.int .i64 0, .int .i64 d.row, .int .i64 d.col, .slice d.A d.L.length d.cap, .bool true] := kb
        have qx := kb.1.rd
        have lx := kb.1.lt
        have zx := kb.1.fz
        have qa := ha.bs.top.rd
        have la := ha.bs.top.lt
        go_wp2_with fail
        go_still_tail 8, (by kernel_rfl)
        go_wp2_with fail
        refine (li_set d.row d.col d.L d.A d.cap (ha.below (bel_drew (bel_refl _))) hLi hT).mono ?_
        rintro e w6 ⟨rfl, ca6, h6, x6⟩
        have kb6 := (kb.below (bel_drew (bel_refl _))).ext x6
        obtain ⟨hb6, hdis6⟩ := (hb.below (bel_drew (bel_refl _))).other x6 HDIS.out h6o
        have HDIS6 := Lib.hid hdis6
        have hsr := ha.bs.srt
        obtain ⟨er, her⟩ : ∃ er, er = setE (⟨d.row, d.col⟩ : Cl) d.L := ⟨_, rfl⟩
        rw [← her]
        have HER := Lib.hid her
        clear her qx lx zx qa la hdis6
        by_cases h0 : er = 0
        · subst h0
          have kb := kb6
          have qx := kb.1.rd
          have lx := kb.1.lt
          go_wp2_with fail
          refine (li_does2 0 d.row d.col d.L d.A d.cap true h6 hsr (by decide) hLi hrcd (by unfold i64P; decide) hT).mono ?_
          rintro e w7 ⟨rfl, ca7, pa7, fa7, ha7, x7, hta⟩
          have kb7 := kb.ext x7
          obtain ⟨hb7, hdis7⟩ := hb6.other x7 HDIS6.out h6.low
          have qx7 := kb7.1.rd
          have lx7 := kb7.1.lt
          clear qx lx x7
          go_wp2_with fail
          refine (li_does 0 d.row d.col d.L d.A d.cap true hb7 hLi hrcd (by unfold i64P; decide) hT).mono ?_
          rintro e w8 ⟨rfl, cb8, pb8, fb8, Es8, hb8, x8, hst⟩
          have hut : Es8 = setD (⟨d.row, d.col⟩ : Cl) d.L Es ∧ TMay (setD (⟨d.row, d.col⟩ : Cl) d.L Es) ⟨d.row, d.col⟩ true fb fb8 pb pb8 := by
            rcases hst with ⟨_, h1, h2⟩ | ⟨hc, _⟩ | ⟨hc, _⟩ | ⟨hc, _⟩
            · exact ⟨h1, by rw [← h1]; exact h2⟩
            · exact absurd hc (by decide)
            · exact absurd hc (by decide)
            · exact absurd hc (by decide)
          obtain ⟨rfl, htb⟩ := hut
          obtain ⟨ha8, hdis8⟩ := ha7.other x8 (fun z hz => by
            by_cases e : cb z = 0
            · exact e
            · exact absurd (hdis7 z e) hz) hb7.low
          have hFB : ∀ x, x ∈ Es.map eCl → (fb x).isSome = true := fun x hx => by rw [← HEQ.out x]; exact HFA.out x hx
          have hfmV : 0 < d.L.length → true = true := fun hlp => rfl
          obtain ⟨ea, efa⟩ := order_step hsr HER.out.symm hfmV HFA.out hta
          obtain ⟨eb, _⟩ := order_step hsr HER.out.symm hfmV hFB htb
          have HEQ8 : Hid (∀ x, (fa7 x).isSome = (fb8 x).isSome) := Lib.hid (fun x => by rw [ea x, eb x, HEQ.out x])
          have HFA8 := Lib.hid efa
          have HDIS8 : Hid (∀ z, cb8 z ≠ 0 → ca7 z = 0) := Lib.hid (fun z hz => by
            by_cases e : ca7 z = 0
            · exact e
            · exact absurd (hdis8 z e) hz)
          rw [← HTK.out] at ha8 hb8
          clear qx7 lx7 hst htb hta x8 ea eb efa hFB hdis7 hdis8 hfmV
          go_wp2_with fail
          go_roundw
          case rel => exact ⟨k + 1, ca7, cb8, pa7, pb8, fa7, fb8, _, by omega, by go_num, ha8, hb8, HDIS8, HEQ8, HFA8⟩
          case measure => simp [intOf]; omega
        · have b0 : (er == 0) = false := by rw [beq_eq_false_iff_ne]; exact h0
          have b1 : (er != 0) = true := by rw [bne_iff_ne]; exact h0
          have b2 : decide (er = 0) = false := decide_eq_false h0
          have h9 := h6.refused (fun e => h0 (by rw [HER.out]; exact e))
          have hb9 := hb6.up (T' := tot (D.take (k + 1))) (by rw [HTK.out]; omega)
          rw [← HTK.out] at h9
          go_wp2_with fail
          go_roundw
          case rel => exact ⟨k + 1, ca6, cb, pa, pb, fa, fb, Es, by omega, by go_num, h9, hb9, HDIS6, HEQ, HFA⟩
          case measure => simp [intOf]; omega
      | false =>
        have kb : Bx _ ca gx 35 #[.int .i64 0, .int .i64 d.row, .int .i64 d.col, .slice d.A d.L.length d.cap, .bool false] := kb
        have qx := kb.1.rd
        have lx := kb.1.lt
        have zx := kb.1.fz
        go_upto_region 11 with fail
        replace ha := ha.poke (g := gx) kb.2 hgx 4 (.bool (decide (0 < d.L.length)))
        replace hb := hb.poke (g := gx) hcb hgx 4 (.bool (decide (0 < d.L.length)))
        replace kb := kb.put 4 (.bool (decide (0 < d.L.length)))
        generalize hwz : w3.setCell ⟨gx, 4, none⟩ (.bool (decide (0 < d.L.length))) = w4 at ha hb kb ⊢
        clear hwz qx lx zx
        have kb : Bx _ ca gx 35 #[.int .i64 0, .int .i64 d.row, .int .i64 d.col, .slice d.A d.L.length d.cap, .bool (decide (0 < d.L.length))] := kb
        have qx := kb.1.rd
        have lx := kb.1.lt
        have zx := kb.1.fz
        have qa := ha.bs.top.rd
        have la := ha.bs.top.lt
        go_wp2_with fail
        go_still_tail 8, (by kernel_rfl)
        go_wp2_with fail
        refine (li_set d.row d.col d.L d.A d.cap (ha.below (bel_drew (bel_refl _))) hLi hT).mono ?_
        rintro e w6 ⟨rfl, ca6, h6, x6⟩
        have kb6 := (kb.below (bel_drew (bel_refl _))).ext x6
        obtain ⟨hb6, hdis6⟩ := (hb.below (bel_drew (bel_refl _))).other x6 HDIS.out h6o
        have HDIS6 := Lib.hid hdis6
        have hsr := ha.bs.srt
        obtain ⟨er, her⟩ : ∃ er, er = setE (⟨d.row, d.col⟩ : Cl) d.L := ⟨_, rfl⟩
        rw [← her]
        have HER := Lib.hid her
        clear her qx lx zx qa la hdis6
        by_cases h0 : er = 0
        · subst h0
          have kb := kb6
          have qx := kb.1.rd
          have lx := kb.1.lt
          go_wp2_with fail
          refine (li_does2 0 d.row d.col d.L d.A d.cap (decide (0 < d.L.length)) h6 hsr (by decide) hLi hrcd (by unfold i64P; decide) hT).mono ?_
          rintro e w7 ⟨rfl, ca7, pa7, fa7, ha7, x7, hta⟩
          have kb7 := kb.ext x7
          obtain ⟨hb7, hdis7⟩ := hb6.other x7 HDIS6.out h6.low
          have qx7 := kb7.1.rd
          have lx7 := kb7.1.lt
          clear qx lx x7
          go_wp2_with fail
          refine (li_does 0 d.row d.col d.L d.A d.cap (decide (0 < d.L.length)) hb7 hLi hrcd (by unfold i64P; decide) hT).mono ?_
          rintro e w8 ⟨rfl, cb8, pb8, fb8, Es8, hb8, x8, hst⟩
          have hut : Es8 = setD (⟨d.row, d.col⟩ : Cl) d.L Es ∧ TMay (setD (⟨d.row, d.col⟩ : Cl) d.L Es) ⟨d.row, d.col⟩ (decide (0 < d.L.length)) fb fb8 pb pb8 := by
            rcases hst with ⟨_, h1, h2⟩ | ⟨hc, _⟩ | ⟨hc, _⟩ | ⟨hc, _⟩
            · exact ⟨h1, by rw [← h1]; exact h2⟩
            · exact absurd hc (by decide)
            · exact absurd hc (by decide)
            · exact absurd hc (by decide)
          obtain ⟨rfl, htb⟩ := hut
          obtain ⟨ha8, hdis8⟩ := ha7.other x8 (fun z hz => by
            by_cases e : cb z = 0
            · exact e
            · exact absurd (hdis7 z e) hz) hb7.low
          have hFB : ∀ x, x ∈ Es.map eCl → (fb x).isSome = true := fun x hx => by rw [← HEQ.out x]; exact HFA.out x hx
          have hfmV : 0 < d.L.length → (decide (0 < d.L.length)) = true := fun hlp => decide_eq_true hlp
          obtain ⟨ea, efa⟩ := order_step hsr HER.out.symm hfmV HFA.out hta
          obtain ⟨eb, _⟩ := order_step hsr HER.out.symm hfmV hFB htb
          have HEQ8 : Hid (∀ x, (fa7 x).isSome = (fb8 x).isSome) := Lib.hid (fun x => by rw [ea x, eb x, HEQ.out x])
          have HFA8 := Lib.hid efa
          have HDIS8 : Hid (∀ z, cb8 z ≠ 0 → ca7 z = 0) := Lib.hid (fun z hz => by
            by_cases e : ca7 z = 0
            · exact e
            · exact absurd (hdis8 z e) hz)
          rw [← HTK.out] at ha8 hb8
          clear qx7 lx7 hst htb hta x8 ea eb efa hFB hdis7 hdis8 hfmV
          go_wp2_with fail
          go_roundw
          case rel => exact ⟨k + 1, ca7, cb8, pa7, pb8, fa7, fb8, _, by omega, by go_num, ha8, hb8, HDIS8, HEQ8, HFA8⟩
          case measure => simp [intOf]; omega
        · have b0 : (er == 0) = false := by rw [beq_eq_false_iff_ne]; exact h0
          have b1 : (er != 0) = true := by rw [bne_iff_ne]; exact h0
          have b2 : decide (er = 0) = false := decide_eq_false h0
          have h9 := h6.refused (fun e => h0 (by rw [HER.out]; exact e))
          have hb9 := hb6.up (T' := tot (D.take (k + 1))) (by rw [HTK.out]; omega)
          rw [← HTK.out] at h9
          go_wp2_with fail
          go_roundw
          case rel => exact ⟨k + 1, ca6, cb, pa, pb, fa, fb, Es, by omega, by go_num, h9, hb9, HDIS6, HEQ, HFA⟩
          case measure => simp [intOf]; omega
    obtain rfl : k = D.length := by omega
    rw [List.take_length] at ha hb
    have j1 : ¬ ((D.length : Int) < (D.length : Int)) := by omega
    go_wp2_with fail
    refine (li_does 3 0 0 [] none 0 false ha (Lies.nil _ _) (by unfold rngC i64P; decide) (by unfold i64P; decide) htot).mono ?_
    rintro e w4 ⟨rfl, ca4, pa4, fa4, Ea4, ha4, x4, hsta⟩
    obtain ⟨hb4, hdis4⟩ := hb.other x4 HDIS.out ha.low
    have hua : Ea4 = Es ∧ fa4 = allC fa := by
      rcases hsta with ⟨hc, _⟩ | ⟨hc, _⟩ | ⟨hc, _⟩ | ⟨_, h1, h2, _⟩
      · exact absurd hc (by decide)
      · exact absurd hc (by decide)
      · exact absurd hc (by decide)
      · exact ⟨h1, h2⟩
    obtain ⟨rfl, rfl⟩ := hua
    clear hsta x4 ha hb
    go_wp2_with fail
    refine (li_does 3 0 0 [] none 0 false hb4 (Lies.nil _ _) (by unfold rngC i64P; decide) (by unfold i64P; decide) htot).mono ?_
    rintro e w5 ⟨rfl, cb5, pb5, fb5, Eb5, hb5, x5, hstb⟩
    obtain ⟨ha5, hdis5⟩ := ha4.other x5 (fun z hz => by
      by_cases e : cb z = 0
      · exact e
      · exact absurd (hdis4 z e) hz) hb4.low
    have hub : Eb5 = Ea4 ∧ fb5 = allC fb := by
      rcases hstb with ⟨hc, _⟩ | ⟨hc, _⟩ | ⟨hc, _⟩ | ⟨_, h1, h2, _⟩
      · exact absurd hc (by decide)
      · exact absurd hc (by decide)
      · exact absurd hc (by decide)
      · exact ⟨h1, h2⟩
    obtain ⟨rfl, rfl⟩ := hub
    obtain ⟨f0, hf0⟩ : ∃ f0, f0 = allC fa := ⟨_, rfl⟩
    rw [allC_same (f := fb) (g := fa) (fun x => (HEQ.out x).symm), ← hf0] at hb5
    rw [← hf0] at ha5
    have HDIS5 : Hid (∀ z, cb5 z ≠ 0 → ca4 z = 0) := Lib.hid (fun z hz => by
      by_cases e : ca4 z = 0
      · exact e
      · exact absurd (hdis5 z e) hz)
    have HF0 : Hid (∀ x, x ∈ Eb5.map eCl → (f0 x).isSome = true) := Lib.hid (fun x hx => by rw [hf0, allC_dom]; exact HFA.out x hx)
    have HZ0 : Hid (∀ x, cln (f0 x)) := Lib.hid (fun x => by rw [hf0]; exact allC_cln fa x)
    have HSRT := Lib.hid ha5.bs.srt
    have HOK := Lib.hid ha5.bs.okE
    have HD0 := Lib.hid ha5.dom
    have hE20 : Eb5.length ≤ 1048576 := by have := ha5.len; simp at this; omega
    have hia : Hid (IsFS Eb5 f0 (fun z => z ∈ C.take 0) f0) := Lib.hid (fs_iff (fun z => by simp) (fs_start _ _))
    have hib : Hid (IsFS Eb5 f0 (fun z => z ∈ C.reverse.take 0) f0) := Lib.hid (fs_iff (fun z => by simp) (fs_start _ _))
    have hTT : tot D + (([] : List Rf).length + 1) = tot D + 1 + 0 := rfl
    rw [hTT] at ha5 hb5
    generalize Eb5 = Es at *
    clear hstb x5 ha4 hb4 hdis4 hdis5 HEQ HFA HDIS hf0 hTT hkl hk j1
    go_wp2_with fail
    go_loopw [9] (fun s wr => ∃ (j : Nat) (ca cb : Nat → Nat) (pa pb : Int) (fa fb : Cl → Option Int), j ≤ C.length ∧ s = .int .i64 j ∧ LI w wr ba da ma sa ya ra (tot D + 1 + j) ca pa fa Es ∧ LI w wr bb db mb sm yb rb (tot D + 1 + j) cb pb fb Es ∧ Hid (∀ z, cb z ≠ 0 → ca z = 0) ∧ Hid (IsFS Es f0 (fun z => z ∈ C.take j) fa) ∧ Hid (IsFS Es f0 (fun z => z ∈ C.reverse.take j) fb)) (fun s _ => C.length - (intOf s).toNat)
    case atStart => exact ⟨0, ca4, cb5, _, _, f0, f0, Nat.zero_le _, rfl, ha5, hb5, HDIS5, hia, hib⟩
    case round =>
      clear ha5 hb5 HDIS5 hia hib
      obtain ⟨j, ca, cb, pa, pb, fa, fb, hj, rfl, ha, hb, HDIS, HIA, HIB⟩ := hrel
      by_cases hjl : j < C.length
      · skip
        obtain ⟨x, hx⟩ : ∃ x, C[j]? = some x := ⟨_, List.getElem?_eq_getElem hjl⟩
        obtain ⟨m, hm⟩ : ∃ m, C.length = j + m + 1 := ⟨C.length - 1 - j, by omega⟩
        obtain ⟨y, hy⟩ : ∃ y, C[m]? = some y := ⟨_, List.getElem?_eq_getElem (by omega)⟩
        have HXM : Hid (C.take (j + 1) = C.take j ++ [x]) := Lib.hid (by rw [List.take_add_one, hx]; rfl)
        have HYM : Hid (C.reverse.take (j + 1) = C.reverse.take j ++ [y]) := Lib.hid (by
          have h1 : C.reverse[j]? = some y := by rw [List.getElem?_reverse (by omega), show C.length - 1 - j = m by omega]; exact hy
          rw [List.take_add_one, h1]; rfl)
        have hrx : rngC ⟨x.row, x.col⟩ := hC.2 x (List.mem_of_getElem? hx)
        have hry : rngC ⟨y.row, y.col⟩ := hC.2 y (List.mem_of_getElem? hy)
        obtain ⟨g, off, hAe, hg, c0, c1⟩ := cl_at (hC.1.below ha.bel) hx
        subst hAe
        obtain ⟨g2, off2, hAe2, hg2, e0, e1⟩ := cl_at (hC.1.below ha.bel) hy
        injection hAe2 with hAe2
        injection hAe2 with hAe3 hAe4 _
        subst hAe3 hAe4
        have HM := Lib.hid hm
        have i0 : (0 : Int) ≤ (j : Int) := by omega
        have i1 : (j : Int) < (C.length : Int) := by omega
        have i2 : (0 : Int) ≤ (m : Int) := by omega
        have i3 : (m : Int) < (C.length : Int) := by omega
        have e2 : IntKind.i64.wrap ((C.length : Int) - 1) = (C.length : Int) - 1 := IntWalk.i64_in _ (by omega)
        have e3 : IntKind.i64.wrap ((C.length : Int) - 1 - (j : Int)) = (m : Int) := by rw [IntWalk.i64_in _ (by omega)]; omega
        clear hx hy hm
        go_upto_region 20 with fail
        have hBx := bel_alloc (bel_refl wr) (.cells #[.int .i64 x.row, .int .i64 x.col] 32)
        have kx := ha.bs.box hBx (Blk.new wr rfl 32 #[.int .i64 x.row, .int .i64 x.col]) (Nat.le_refl _)
        have kx2 := hb.bs.box hBx (Blk.new wr rfl 32 #[.int .i64 x.row, .int .i64 x.col]) (Nat.le_refl _)
        replace ha := ha.below hBx
        replace hb := hb.below hBx
        replace e0 := (hBx.cell (p := ⟨g, off + m * 2, none⟩) hg).trans e0
        replace e1 := (hBx.cell (p := ⟨g, off + m * 2 + 1, none⟩) hg).trans e1
        replace hg := Nat.lt_of_lt_of_le hg hBx.size
        generalize hwz : wr.alloc (.cells #[.int .i64 x.row, .int .i64 x.col] 32) = w3 at hBx kx kx2 ha hb e0 e1 hg ⊢
        generalize wr.heap.size = gx at kx kx2 ⊢
        clear hwz hBx c0 c1 hg2
        go_upto_region 21 with fail
        have hBy := bel_alloc (bel_refl w3) (.cells #[.int .i64 y.row, .int .i64 y.col] 32)
        have ky := ha.bs.box hBy (Blk.new w3 rfl 32 #[.int .i64 y.row, .int .i64 y.col]) (Nat.le_refl _)
        have ky2 := hb.bs.box hBy (Blk.new w3 rfl 32 #[.int .i64 y.row, .int .i64 y.col]) (Nat.le_refl _)
        replace ha := ha.below hBy
        replace hb := hb.below hBy
        replace kx := kx.below hBy
        replace kx2 := kx2.below hBy
        generalize hwz : w3.alloc (.cells #[.int .i64 y.row, .int .i64 y.col] 32) = w4 at hBy kx kx2 ky ky2 ha hb ⊢
        generalize w3.heap.size = gy at ky ky2 ⊢
        clear hwz hBy e0 e1 e2 e3 hg
        have HMM := Lib.hid ha.bs.mm
        have HTOP := Lib.hid ha.bs.top
        have HKB := Lib.hid kx.1
        have HRX := Lib.hid hrx
        have HFD : Hid ((fa (⟨x.row, x.col⟩ : Cl)).isSome = (f0 (⟨x.row, x.col⟩ : Cl)).isSome) := Lib.hid (fs_dom HSRT.out HF0.out HIA.out _)
        obtain ⟨S, hSS⟩ : ∃ S : World → Prop, S = fun W => Blk W ba 30 #[.pointer (some ⟨da, 0, none⟩), .pointer (some ⟨ma, 0, none⟩), .pointer (some ⟨ya, 0, none⟩), .pointer (some ⟨ra, 0, none⟩)] ∧ Blk W gx 32 #[.int .i64 x.row, .int .i64 x.col] := ⟨_, rfl⟩
        have q0 := fun x => (held_of hSS x).1.rd
        have l0 := fun x => (held_of hSS x).1.lt
        have q1 := fun x => (held_of hSS x).2.rd
        have HSS := Lib.hid hSS
        have HCL : Hid (∀ W', Below w4.heap.size w4 W' → S W') := Lib.hid (fun W' hB => held_in HSS.out ⟨HTOP.out.below hB, HKB.out.below hB⟩)
        have hS0 : S w4.drew := HCL.out _ (bel_drew (bel_refl w4))
        haveI : Nonempty (Held S) := ⟨⟨_, hS0⟩⟩
        clear hSS
        refine wp_region_tree (S := S) 11 (.q 0 <| .q 1 <| .q 2 <| .q 3 <| .q 4 <| .a 5 <| .q 6 <| .q 7 <| .q 8 <| .q 9 <| .q 10 <| .done) [] (by kernel_rfl) (by kernel_rfl) hS0 ?_
        repeat (refine tree_q (by rfl) (by rfl) (fun K hK => ?_); go_simp; refine hK _ ?_; clear hK K)
        refine tree_a (by rfl) (by rfl) (fun K hK => ?_)
        go_simp
        refine (mstate_any x.row x.col (HMM.out.below (bel_drew (bel_refl w4))) HRX.out).mono ?_
        rintro e w5 ⟨rfl, hb5⟩
        rw [HFD.out]
        have hB5 := bel_call (bel_drew (bel_refl w4)) hb5
        clear hb5
        refine hK _ _ (HCL.out _ (hB5)) ?_
        clear hK K
        repeat (refine tree_q (by rfl) (by rfl) (fun K hK => ?_); go_simp; refine hK _ ?_; clear hK K)
        refine tree_nil ?_
        clear q0 l0 q1 hS0 HSS HCL
        replace ha := ha.below hB5
        replace hb := hb.below hB5
        replace kx := kx.below hB5
        replace kx2 := kx2.below hB5
        replace ky := ky.below hB5
        replace ky2 := ky2.below hB5
        clear HMM HTOP HKB HRX HFD hB5
        obtain ⟨va, hva⟩ : ∃ va, va = (f0 (⟨x.row, x.col⟩ : Cl)).isSome := ⟨_, rfl⟩
        rw [← hva]
        have HVA := Lib.hid hva
        clear hva
        go_upto_region 22 with fail
        have HMM := Lib.hid hb.bs.mm
        have HTOP := Lib.hid hb.bs.top
        have HKB := Lib.hid ky.1
        have HRX := Lib.hid hry
        have HFD : Hid ((fb (⟨y.row, y.col⟩ : Cl)).isSome = (f0 (⟨y.row, y.col⟩ : Cl)).isSome) := Lib.hid (fs_dom HSRT.out HF0.out HIB.out _)
        obtain ⟨S, hSS⟩ : ∃ S : World → Prop, S = fun W => Blk W bb 30 #[.pointer (some ⟨db, 0, none⟩), .pointer (some ⟨mb, 0, none⟩), .pointer (some ⟨yb, 0, none⟩), .pointer (some ⟨rb, 0, none⟩)] ∧ Blk W gy 32 #[.int .i64 y.row, .int .i64 y.col] := ⟨_, rfl⟩
        have q0 := fun x => (held_of hSS x).1.rd
        have l0 := fun x => (held_of hSS x).1.lt
        have q1 := fun x => (held_of hSS x).2.rd
        have HSS := Lib.hid hSS
        have HCL : Hid (∀ W', Below w5.heap.size w5 W' → S W') := Lib.hid (fun W' hB => held_in HSS.out ⟨HTOP.out.below hB, HKB.out.below hB⟩)
        have hS0 : S w5.drew := HCL.out _ (bel_drew (bel_refl w5))
        haveI : Nonempty (Held S) := ⟨⟨_, hS0⟩⟩
        clear hSS
        refine wp_region_tree (S := S) 11 (.q 0 <| .q 1 <| .q 2 <| .q 3 <| .q 4 <| .a 5 <| .q 6 <| .q 7 <| .q 8 <| .q 9 <| .q 10 <| .done) [] (by kernel_rfl) (by kernel_rfl) hS0 ?_
        repeat (refine tree_q (by rfl) (by rfl) (fun K hK => ?_); go_simp; refine hK _ ?_; clear hK K)
        refine tree_a (by rfl) (by rfl) (fun K hK => ?_)
        go_simp
        refine (mstate_any y.row y.col (HMM.out.below (bel_drew (bel_refl w5))) HRX.out).mono ?_
        rintro e w6 ⟨rfl, hb6⟩
        rw [HFD.out]
        have hB6 := bel_call (bel_drew (bel_refl w5)) hb6
        clear hb6
        refine hK _ _ (HCL.out _ (hB6)) ?_
        clear hK K
        repeat (refine tree_q (by rfl) (by rfl) (fun K hK => ?_); go_simp; refine hK _ ?_; clear hK K)
        refine tree_nil ?_
        clear q0 l0 q1 hS0 HSS HCL
        replace ha := ha.below hB6
        replace hb := hb.below hB6
        replace kx := kx.below hB6
        replace kx2 := kx2.below hB6
        replace ky := ky.below hB6
        replace ky2 := ky2.below hB6
        clear HMM HTOP HKB HRX HFD hB6
        obtain ⟨vb, hvb⟩ : ∃ vb, vb = (f0 (⟨y.row, y.col⟩ : Cl)).isSome := ⟨_, rfl⟩
        rw [← hvb]
        have HVB := Lib.hid hvb
        clear hvb
        have qa := ha.bs.top.rd
        have la := ha.bs.top.lt
        have q0 := kx.1.rd
        go_wp2_with fail
        go_still_tail 6, (by kernel_rfl)
        go_wp2_with fail
        refine (li_touch x.row x.col va (ha.below (bel_drew (bel_refl _))) hrx (by omega) hE20).mono ?_
        rintro e w7 ⟨rfl, pa7, fa7, ha7, x7, hta⟩
        have ky7 := (ky.below (bel_drew (bel_refl _))).ext x7
        obtain ⟨hb7, hdis7⟩ := (hb.below (bel_drew (bel_refl _))).other x7 HDIS.out ha.low
        have ky72 : Bx w7 cb gy 32 #[.int .i64 y.row, .int .i64 y.col] := ⟨ky7.1, ky2.2⟩
        have HIA7 : Hid (IsFS Es f0 (fun z => z ∈ C.take (j + 1)) fa7) := Lib.hid (fs_iff (fun z => by rw [HXM.out]; simp) (fs_touch (s := ⟨x.row, x.col⟩) HSRT.out HOK.out HF0.out HZ0.out HD0.out HIA.out (by rw [← HVA.out]; exact hta)))
        clear qa la q0 hta x7 ha hb kx kx2 ky ky2 ky7
        have qa := hb7.bs.top.rd
        have la := hb7.bs.top.lt
        have q0 := ky72.1.rd
        go_wp2_with fail
        go_still_tail 6, (by kernel_rfl)
        go_wp2_with fail
        refine (li_touch y.row y.col vb (hb7.below (bel_drew (bel_refl _))) hry (by omega) hE20).mono ?_
        rintro e w8 ⟨rfl, pb8, fb8, hb8, x8, htb⟩
        obtain ⟨ha8, hdis8⟩ := (ha7.below (bel_drew (bel_refl _))).other x8 (fun z hz => by
          by_cases e : cb z = 0
          · exact e
          · exact absurd (hdis7 z e) hz) hb7.low
        have HIB8 : Hid (IsFS Es f0 (fun z => z ∈ C.reverse.take (j + 1)) fb8) := Lib.hid (fs_iff (fun z => by rw [HYM.out]; simp) (fs_touch (s := ⟨y.row, y.col⟩) HSRT.out HOK.out HF0.out HZ0.out HD0.out HIB.out (by rw [← HVB.out]; exact htb)))
        clear qa la q0 htb x8 hb7 ha7 ky72 hdis7 hdis8
        go_wp2_with fail
        go_roundw
        case rel => exact ⟨j + 1, ca, cb, pa7, pb8, fa7, fb8, by omega, by go_num, ha8, hb8, HDIS, HIA7, HIB8⟩
        case measure => simp [intOf]; omega
      obtain rfl : j = C.length := by omega
      have j1 : ¬ ((C.length : Int) < (C.length : Int)) := by omega
      obtain rfl : fa = fb := fs_same (fun z => by rw [List.take_length, List.take_of_length_le (by simp)]; simp) HIA.out HIB.out
      clear HIA HIB
      have qb := ha.bs.top.rd
      have lb := ha.bs.top.lt
      go_wp2_with fail
      refine (mall_any ha.bs.mm (cb7 (by omega))).mono ?_
      rintro e w7 ⟨v7, L7, rfl, hO7, hs7, hm7, hr7, hl7, hb7⟩
      obtain ⟨A7, c7, rfl, _, hc7, hLi7, _⟩ := hO7.see
      have HS7 := Lib.hid hs7
      have HM7 := Lib.hid hm7
      have HR7 := Lib.hid hr7
      have hlc7 : L7.length ≤ 9223372036854775807 := by unfold maxLen at hc7; omega
      clear qb lb hO7 hs7 hm7 hr7 hc7 hl7
      replace hb := hb.below hb7
      clear hb7 ha
      have qb := hb.bs.top.rd
      have lb := hb.bs.top.lt
      go_wp2_with fail
      refine (mall_any hb.bs.mm (cb7 (by omega))).mono ?_
      rintro e w9 ⟨v9, L9, rfl, hO9, hs9, hm9, hr9, hl9, hb9⟩
      obtain ⟨A9, c9, rfl, _, hc9, hLi9, _⟩ := hO9.see
      have HS9 := Lib.hid hs9
      have HM9 := Lib.hid hm9
      have HR9 := Lib.hid hr9
      have hlc9 : L9.length ≤ 9223372036854775807 := by unfold maxLen at hc9; omega
      clear qb lb hO9 hs9 hm9 hr9 hc9 hl9
      obtain rfl : L7 = L9 := all_same HS7.out HS9.out HM7.out HM9.out HR7.out HR9.out
      have hla := hLi7.below hb9
      have hlb := hLi9
      have hWf := bel_call hb.bel hb9
      clear hb hb9 hLi7 hLi9 HS7 HS9 HM7 HM9 HR7 HR9
      have hj9 := bel_refl w9
      go_wp2_with fail
      go_loopw [18] (fun s wr => ∃ k : Nat, k ≤ L7.length ∧ s = .int .i64 k ∧ Below w9.heap.size w9 wr) (fun s _ => L7.length - (intOf s).toNat)
      case atStart => exact ⟨0, Nat.zero_le _, rfl, hj9⟩
      case round =>
        obtain ⟨k, hk, rfl, hj2⟩ := hrel
        clear hj9
        by_cases hkl : k < L7.length
        · obtain ⟨x, hx⟩ : ∃ x, L7[k]? = some x := ⟨_, List.getElem?_eq_getElem hkl⟩
          obtain ⟨g, off, hAe, hg, c0, c1, c2⟩ := mks_at (hla.below hj2) hx
          obtain ⟨g', off', hAe', hg', e0, e1, e2⟩ := mks_at (hlb.below hj2) hx
          subst hAe hAe'
          have i0 : (0 : Int) ≤ (k : Int) := by omega
          have i1 : (k : Int) < (L7.length : Int) := by omega
          have d0 := fun d os => cell_regrown c0 d os
          have d1 := fun d os => cell_regrown c1 d os
          have d2 := fun d os => cell_regrown c2 d os
          have d3 := fun d os => cell_regrown e0 d os
          have d4 := fun d os => cell_regrown e1 d os
          have d5 := fun d os => cell_regrown e2 d os
          clear hx
          go_wp2_with fail
          refine wp_region_quiet_below (by kernel_rfl) (by kernel_rfl) ?_
          repeat (any_goals (first | go_big_quiet_step ((fail)) | fail))
          refine wpQuiet_nil ?_
          intro w5 hw'
          have hb5 := class_below hw'
          have hj3 := bel_call hj2 hb5
          clear hw' c0 c1 c2 e0 e1 e2 d0 d1 d2 d3 d4 d5 hb5 hg hg'
          go_wp2_with fail
          go_roundw
          case rel => exact ⟨k + 1, by omega, by go_num, hj3⟩
          case measure => simp [intOf]; omega
        obtain rfl : k = L7.length := by omega
        have i2 : ¬ ((L7.length : Int) < (L7.length : Int)) := by omega
        replace hWf := bel_call hWf hj2
        clear hla hlb hj2 hkl
        go_wp2_with fail
        refine (lives_any _).mono ?_
        rintro e w20 ⟨rfl, hb20⟩
        have hW20 := bel_call hWf hb20
        clear hb20
        go_wp2_with fail
        go_ret
        exact ⟨rfl, hW20⟩
end Go.Proofs.Ytdionganlmnlkaa

/-
  Deps: contract of Back. Conditions: those of each theorem.
-/
import Derived.Test.YtpgnebhlnkoajaaDHelp
namespace Go.Proofs.Ytpgnebhlnkoajaa
open Go.ChangeShapes Go.WideShapes Go.ChangeAt Go.RowKit Go.Deep
attribute [local go_sem] Cls

def pE (p : Pr) : Ed := ⟨p.row, p.col, true, p.t, p.l, p.b, p.r⟩
theorem pE_inj {p q : Pr} (h : pE p = pE q) : p = q := by
  obtain ⟨a, b, c, d, e, f⟩ := p
  obtain ⟨a', b', c', d', e', f'⟩ := q
  simp [pE] at h
  obtain ⟨rfl, rfl, rfl, rfl, rfl, rfl⟩ := h
  rfl
theorem lies_pE {w : World} {A : Option Addr} {L : List Pr} (h : Lies KE w A L) : Lies KD w A (L.map pE) := fun i x hx => by
  rw [List.getElem?_map] at hx
  cases hy : L[i]? with
  | none => rw [hy] at hx; cases hx
  | some y =>
    rw [hy] at hx
    injection hx with hx
    subst hx
    exact h i y hy
def tgt (e : Ed) : Cl := ⟨e.t, e.l⟩
/-- One who refers to a single cell. -/
def sgE (s y : Cl) : Ed := ⟨y.row, y.col, false, s.row, s.col, s.row, s.col⟩
theorem iter_map {w : World} {H : Type} {P : Program} {k : TypeId} {R : Value → Option (DataW H × List MemPlace)} {b r n cnt : Nat} {D : DataW H} {left : Lit → Bool} (h : w.ranges P k R b r n D left cnt) {z : Nat} (hz : IsMp w z) (e : r = z) : False := by
  obtain ⟨_, _, _, _, _, _, _, _, _, e2, _⟩ := h
  obtain ⟨es, clock, e3⟩ := hz
  rw [e, e3] at e2
  injection e2 with e2
  cases e2
theorem iter_blk {w : World} {H : Type} {P : Program} {k : TypeId} {R : Value → Option (DataW H × List MemPlace)} {b r n cnt : Nat} {D : DataW H} {left : Lit → Bool} (h : w.ranges P k R b r n D left cnt) {z : Nat} {t : TypeId} {cs : Array Value} (hz : Blk w z t cs) (e : r = z) : False := by
  obtain ⟨_, _, _, _, _, _, _, _, _, e2, _⟩ := h
  have e3 : w.heap[z]? = some (.cells cs t (0, 0)) := hz
  rw [e, e3] at e2
  injection e2 with e2
  cases e2
set_option maxHeartbeats 6400000 in
set_option maxRecDepth 100000 in
theorem dback_any (db fm tm bb n : Nat) (O : Nat → Prop) (Ps : List Pr) (f t : Cl → Option Value) (E Ef : Cl → List Rf) (Wh : Cl → List Cl) (Es : List Ed) (w : World)
    (h : DMem w db fm tm bb n O Ps f t Ef Wh) (hr : DRel Ps Wh E) (hs : SrtE Es) (hm : ∀ e, e ∈ Es ↔ eRf e ∈ E (eCl e)) (hEl : Es.length ≤ 1099511627776) (hn : n ≤ 1099511627776) :
    Calls Try.prog 22 #[.pointer (some ⟨db, 0, none⟩)] w (EdgIs w Es) := by
  have HS := Lib.hid hs
  have HMP : Hid (∀ p, p ∈ Ps ↔ pE p ∈ Es) := Lib.hid (fun p => by rw [hr.pr p, hm]; rfl)
  have HMS : Hid (∀ s y, y ∈ Wh s ↔ sgE s y ∈ Es) := Lib.hid (fun s y => by rw [hr.wh s y, hm]; rfl)
  have HCS : Hid (∀ e, e ∈ Es → (e.m = true ∧ ∃ p, p ∈ Ps ∧ pE p = e) ∨ (e.m = false ∧ sgE (tgt e) (eCl e) = e)) := Lib.hid (fun e he => by
    have h1 := (hm e).1 he
    cases hx : e.m with
    | true =>
      refine .inl ⟨rfl, ⟨e.row, e.col, e.t, e.l, e.b, e.r⟩, (hr.pr _).2 ?_, ?_⟩
      · have h2 : eRf e = ⟨true, e.t, e.l, e.b, e.r⟩ := by unfold eRf; rw [hx]
        rw [← h2]
        exact h1
      · obtain ⟨a, b, m, c, d, e', f'⟩ := e
        dsimp only at hx
        subst hx
        rfl
    | false =>
      have h2 := okR_one (hr.ok _ _ h1).1 hx
      refine .inr ⟨rfl, ?_⟩
      obtain ⟨a, b, m, c, d, e', f'⟩ := e
      simp only [eRf] at h2
      injection h2 with h3 h4 h5 h6 h7
      subst h3 h6 h7
      rfl)
  have HWC : Hid (∀ s y, y ∈ Wh s → rngC y ∧ rngC s) := Lib.hid (fun s y hy => by
    have h1 := hr.ok y _ ((hr.wh s y).1 hy)
    have h2 := okR_rng h1.1
    exact ⟨rngC_of_may h1.2, h2.1, h2.2.1⟩)
  have rdt := h.top.rd
  have ltt := h.top.lt
  clear hs hr hm
  go_enter Try.func22, Try.ntmps22
  go_wp2_with fail
  refine (pb_all bb n O Ps _ h.bnd (by omega)).mono ?_
  rintro e w1 ⟨A1, rfl, hl1, ho1, hb1⟩
  have h1 := h.below hb1
  have hAP1 : AP KD w1 w.heap.size (.slice A1 Ps.length Ps.length) (Ps.map pE) := .inl ⟨A1, by rw [List.length_map], by
    have hpl := h.bnd.len
    have := OW.of_own (B := w.heap.size) (lies_pE hl1) (ho1.imp id (fun ⟨g, cur, k1, k2, k3, k4⟩ => ⟨g, cur, k1, k2, k3, by rw [List.length_map]; exact k4⟩)) (by rw [List.length_map]; unfold maxLen; omega)
    rw [List.length_map] at this
    exact this⟩
  have hsrt := h.bnd.srt
  have hnd0 : (Ps.map pE).Nodup := List.Pairwise.map _ (fun a b (hab : ltP a b) e => ltP_irrefl a (by have := pE_inj e; subst this; exact hab)) hsrt
  obtain ⟨D, hown, hk1, hk2⟩ := h1.tof
  have HK1 := Lib.hid hk1
  have HK2 := Lib.hid hk2
  have HGRP := Lib.hid h.grp
  have HTNO := Lib.hid h1.tno
  have hw1 := hb1.size
  have rdt := h1.top.rd
  have ltt := h1.top.lt
  have HB1 := Lib.hid hb1
  clear hk1 hk2 hl1 ho1 hsrt hb1
  go_wp2_with (at_range; refine wpList_range_own _ rfl _ _ rfl 33 63 law_cell Try.underlying56 heldE tm n D rfl hown ?_; intro w0 hrg0 hg0 hs0)
  go_frame
  clear rdt ltt
  have hbg0 := below_of_grown' hg0
  have hB0 := bel_call HB1.out hbg0
  have hAP0 := hAP1.below hbg0
  clear hAP1 hbg0
  go_loopg [3] (Maps.size D) (fun gk s3 wr => ∃ (out : List Ed) (left : Lit → Bool) (cnt : Nat), cnt ≤ gk ∧ wr.ranges Try.prog 33 heldE tm w1.heap.size n D left cnt ∧ AP KD wr w.heap.size s3 out ∧ out.Nodup ∧ Hid (∀ e, e ∈ out → e ∈ Es) ∧ Hid (∀ e, e ∈ Es → e.m = true → e ∈ out) ∧ Hid (∀ e l, e.m = false → keyOf Try.prog 33 (cellV (tgt e)) = some l → left l = true → e ∉ out) ∧
      Hid (∀ e l, e.m = false → keyOf Try.prog 33 (cellV (tgt e)) = some l → e ∈ Es → left l = false → e ∈ out) ∧ Hid (∀ l, left l = true → Maps.has D l = true) ∧ Below w.heap.size w wr)
  case atStart => exact ⟨Ps.map pE, _, _, Nat.le_refl _, hrg0, hAP0, hnd0, Lib.hid (fun e he => by
    obtain ⟨p, hp, rfl⟩ := List.mem_map.1 he
    exact (HMP.out p).1 hp), Lib.hid (fun e he hx => by
    rcases HCS.out e he with ⟨_, p, hp, h3⟩ | ⟨h3, _⟩
    · exact List.mem_map.2 ⟨p, hp, h3⟩
    · rw [hx] at h3; cases h3), Lib.hid (fun e l hx _ _ he => by
    obtain ⟨p, _, rfl⟩ := List.mem_map.1 he
    cases hx), Lib.hid (fun e l hx hl he h0 => by
    have h2 := MFun.has HK1.out hl
    rw [h0] at h2
    rcases HCS.out e he with ⟨h3, _⟩ | ⟨_, h3⟩
    · rw [hx] at h3; cases h3
    · have h4 : eCl e ∈ Wh (tgt e) := (HMS.out _ _).2 (by rw [h3]; exact he)
      cases hf : t (tgt e) with
      | none => rw [HTNO.out _ hf] at h4; cases h4
      | some v => rw [hf] at h2; cases h2), Lib.hid (fun l hl => hl), hB0⟩
  case round =>
    obtain ⟨out, left, cnt, hcg, hrg, hO, hnd, HIN, HMT, HNL, HLF, HSUB, hW⟩ := hrel
    clear hrg0 hg0 hs0 hB0 hAP0 hnd0
    go_upto_region 4 with (at_next; refine wp_mfun_next rfl _ rfl law_cell w1.heap.size cnt D left HK1.out HK2.out HSUB.out rfl hrg (fun hc0 hl0 => ?_) (fun s v kl w2 cnt1 hrs hks hlk hfs hrg1 hlt1 hg1 hsz1 hen => ?_))
    · clear hrg
      have HL0 := Lib.hid hl0
      clear hl0 hc0
      have hol := sub_len hnd HIN.out
      go_wp2_with fail
      refine (sorted_any hO.ow hnd (by omega)).mono ?_
      rintro e w5 ⟨rfl, M, hM, hsM, hmM, _, hg5⟩
      have hB5 := bel_grown hW hg5 (fun z hz => (hO.lt z hz).1)
      obtain rfl : M = Es := srte_ext hsM HS.out (fun e => by
        rw [hmM e]
        refine ⟨HIN.out e, fun he => ?_⟩
        rcases HCS.out e he with ⟨h3, _⟩ | ⟨h3, h4⟩
        · exact HMT.out e he h3
        · obtain ⟨kl, hkl⟩ := key_cell (tgt e) (HWC.out (tgt e) (eCl e) ((HMS.out _ _).2 (by rw [h4]; exact he))).2
          exact HLF.out e kl h3 hkl he (HL0.out kl))
      clear hol
      go_wp2_with fail
      go_ret
      exact ⟨_, rfl, hM, hB5⟩
    · obtain ⟨g, rfl, hset⟩ := HGRP.out s v hfs
      have hB1 := bel_grown hW hg1 (fun z hz => by injection hz with hz; omega)
      have hO1 := hO.grown hg1 (fun g' hg' e => hO.ne_iter hrg g' hg' (by injection e with e; exact e.symm))
      have HKS := Lib.hid hks
      have HNO : Hid (∀ e, e ∈ out → e.m = false → tgt e ≠ s) := Lib.hid (fun e he hx ee => HNL.out e kl hx (by rw [ee]; exact hks) hlk he)
      have hen' : (Instr.entry (.pointer (some ⟨w1.heap.size, 0, none⟩))).run Try.prog w2 = .ok (.tuple #[.agg #[.int .i64 s.row, .int .i64 s.col], .map (some g)]) w2 := hen
      have HSUB2 : Hid (∀ l, (left l && !l.sameKey kl) = true → Maps.has D l = true) := Lib.hid (fun l hl => HSUB.out l (by rw [Bool.and_eq_true] at hl; exact hl.1))
      have HNL2 : Hid (∀ e l, e.m = false → keyOf Try.prog 33 (cellV (tgt e)) = some l → (left l && !l.sameKey kl) = true → e ∉ out) := Lib.hid (fun e l hx hl h1 => HNL.out e l hx hl (by rw [Bool.and_eq_true] at h1; exact h1.1))
      have hset1 : CSet w2 g n (Wh s) := (hset.below hB1)
      obtain ⟨D2, hown2, hj1, hj2⟩ := hset1
      have HJ1 := Lib.hid hj1
      have HJ2 := Lib.hid hj2
      clear hen hrg hW hg1 hO hks hlk hfs hset hj1 hj2
      go_upto_region 5 with fail
      try rw [← hsz1]
      have kx := Blk.new w2 (g := w2.heap.size) rfl 33 #[.int .i64 s.row, .int .i64 s.col]
      have hO2 := hO1.alloc (.cells #[.int .i64 s.row, .int .i64 s.col] 33)
      have hB2 := bel_alloc hB1 (.cells #[.int .i64 s.row, .int .i64 s.col] 33)
      have hrg2 := hrg1.alloc (.cells #[.int .i64 s.row, .int .i64 s.col] 33)
      have hown3 := hown2.alloc (.cells #[.int .i64 s.row, .int .i64 s.col] 33)
      generalize hwz : w2.alloc (.cells #[.int .i64 s.row, .int .i64 s.col] 33) = w3 at kx hO2 hB2 hrg2 hown3 ⊢
      generalize w2.heap.size = gx at kx ⊢
      clear hwz hrg1 hO1 hB1 hsz1 hen' hown2
      go_wp2_with (at_range; refine wpList_range_own _ rfl _ _ rfl 33 66 law_cell Try.underlying63 unitElem g n D2 rfl hown3 ?_; intro w5 hrg5 hg5 hs5)
      go_frame
      have hb5 := below_of_grown' hg5
      have hO5 := hO2.below hb5
      have hB5 := bel_call hB2 hb5
      have hrg25 := hrg2.kept hg5 (by simp) (by simp)
      have kx5 := kx.below hb5
      have hr2 : w.heap.size ≤ w3.heap.size := hB2.size
      have hr3 : w1.heap.size < w3.heap.size := hrg2.lt
      generalize w3.heap.size = r2 at hrg5 hr2 hr3 ⊢
      clear hO2 hB2 hrg2 hown3 hg5 hs5 hb5 kx
      go_loopg [3] (Maps.size D2) (fun g2 s3 wr => ∃ (o2 : List Ed) (left2 : Lit → Bool) (cnt2 : Nat), cnt2 ≤ g2 ∧ wr.ranges Try.prog 33 unitElem g r2 n D2 left2 cnt2 ∧ wr.ranges Try.prog 33 heldE tm w1.heap.size n D (fun z => left z && !z.sameKey kl) cnt1 ∧ AP KD wr w.heap.size s3 o2 ∧ o2.Nodup ∧ Hid (∀ e, e ∈ o2 → e ∈ Es) ∧ Hid (∀ e, e ∈ out → e ∈ o2) ∧
        Hid (∀ e, e ∈ o2 → e ∈ out ∨ e.m = false ∧ tgt e = s) ∧ Hid (∀ y l, keyOf Try.prog 33 (cellV y) = some l → left2 l = true → sgE s y ∉ o2) ∧ Hid (∀ y l, keyOf Try.prog 33 (cellV y) = some l → y ∈ Wh s → left2 l = false → sgE s y ∈ o2) ∧ Hid (∀ l, left2 l = true → Maps.has D2 l = true) ∧ Blk wr gx 33 #[.int .i64 s.row, .int .i64 s.col] ∧ Below w.heap.size w wr)
      case atStart => exact ⟨out, _, _, Nat.le_refl _, hrg5, hrg25, hO5, hnd, HIN, Lib.hid (fun e he => he), Lib.hid (fun e he => .inl he), Lib.hid (fun y l hl h1 he => HNO.out _ he rfl rfl), Lib.hid (fun y l hl hy h0 => by
        have h1 := (HJ1.out y l hl).2 hy
        rw [h0] at h1
        cases h1), Lib.hid (fun l hl => hl), kx5, hB5⟩
      case round =>
        obtain ⟨o2, left2, cnt2, hcg2, hrgi, hrgo, hO3, hnd2, HIN2, HSB, HCO, HNY, HLY, HSY, kx3, hW⟩ := hrel
        clear hrg5 hrg25 hO5 kx5 hB5
        have hmi := mp_own hrgi.owns
        have hmo := mp_own hrgo.owns
        go_upto_region 7 with (at_next; refine wp_mset_next rfl _ rfl law_cell g r2 n cnt2 D2 left2 HJ2.out HSY.out rfl hrgi (fun hc0 hl0 => ?_) (fun y ky w6 cnt3 hry hky hlk2 hrgi1 hlt3 hg6 hsz6 hen => ?_))
        · clear hrgi hmi hmo
          have HL0 := Lib.hid hl0
          clear hl0 hc0
          have hnm : ∀ e, e ∈ Es → e.m = false → tgt e = s → e ∈ o2 := fun e he hx ht => by
            rcases HCS.out e he with ⟨h3, _⟩ | ⟨_, h4⟩
            · rw [hx] at h3; cases h3
            · rw [ht] at h4
              have hy : eCl e ∈ Wh s := (HMS.out s _).2 (by rw [h4]; exact he)
              obtain ⟨kl2, hkl2⟩ := key_cell (eCl e) (HWC.out s _ hy).1
              rw [← h4]
              exact HLY.out (eCl e) kl2 hkl2 hy (HL0.out kl2)
          have HNM := Lib.hid hnm
          clear hnm
          go_wp2_with fail
          go_roundg cnt1
          case measure => omega
          case rel =>
            refine ⟨o2, _, cnt1, Nat.le_refl _, hrgo, hO3, hnd2, HIN2, Lib.hid (fun e he hx => HSB.out e (HMT.out e he hx)), Lib.hid (fun e l hx hl h1 he => ?_), Lib.hid (fun e l hx hl he h0 => ?_), HSUB2, hW⟩
            · rcases HCO.out e he with h2 | ⟨_, h2⟩
              · exact HNL2.out e l hx hl h1 h2
              · rw [h2, HKS.out] at hl
                injection hl with hl
                rw [← hl, WideAt.sameKey_self (law_cell.key HKS.out)] at h1
                simp at h1
            · cases hll : left l with
              | false => exact HSB.out e (HLF.out e l hx hl he hll)
              | true =>
                rw [hll, Bool.true_and, Bool.not_eq_false'] at h0
                have := WideAt.sameKey_eq h0
                subst this
                exact HNM.out e he hx (cellV_inj _ _ (law_cell.inj hl HKS.out))
        · have hyW : y ∈ Wh s := (HJ1.out y ky hky).1 (HSY.out ky hlk2)
          have hyE := (HMS.out s y).1 hyW
          have hyn : sgE s y ∉ o2 := HNY.out y ky hky hlk2
          have hnd3 : (o2 ++ [sgE s y]).Nodup := by
            rw [List.nodup_append]
            exact ⟨hnd2, by simp, fun a ha b hb => by rw [List.mem_singleton.1 hb]; rintro rfl; exact hyn ha⟩
          have HIN3 : Hid (∀ e, e ∈ o2 ++ [sgE s y] → e ∈ Es) := Lib.hid (fun e he => by
            rcases List.mem_append.1 he with h1 | h1
            · exact HIN2.out e h1
            · rw [List.mem_singleton.1 h1]; exact hyE)
          have hbd := sub_len hnd3 HIN3.out
          rw [List.length_append, List.length_singleton] at hbd
          have HSB3 : Hid (∀ e, e ∈ out → e ∈ o2 ++ [sgE s y]) := Lib.hid (fun e he => List.mem_append_left _ (HSB.out e he))
          have HCO3 : Hid (∀ e, e ∈ o2 ++ [sgE s y] → e ∈ out ∨ e.m = false ∧ tgt e = s) := Lib.hid (fun e he => by
            rcases List.mem_append.1 he with h1 | h1
            · exact HCO.out e h1
            · rw [List.mem_singleton.1 h1]; exact .inr ⟨rfl, rfl⟩)
          have hinj : ∀ y', sgE s y' = sgE s y → y' = y := fun y' h => by
            obtain ⟨a, b⟩ := y'
            obtain ⟨a', b'⟩ := y
            simp [sgE] at h
            obtain ⟨rfl, rfl⟩ := h
            rfl
          have HNY3 : Hid (∀ y' l, keyOf Try.prog 33 (cellV y') = some l → (left2 l && !l.sameKey ky) = true → sgE s y' ∉ o2 ++ [sgE s y]) := Lib.hid (fun y' l hl h1 he => by
            rw [Bool.and_eq_true] at h1
            rcases List.mem_append.1 he with h2 | h2
            · exact HNY.out y' l hl h1.1 h2
            · have h3 := hinj y' (List.mem_singleton.1 h2)
              rw [h3, hky] at hl
              injection hl with hl
              rw [← hl, WideAt.sameKey_self (law_cell.key hky)] at h1
              simp at h1)
          have HLY3 : Hid (∀ y' l, keyOf Try.prog 33 (cellV y') = some l → y' ∈ Wh s → (left2 l && !l.sameKey ky) = false → sgE s y' ∈ o2 ++ [sgE s y]) := Lib.hid (fun y' l hl h1 h2 => by
            cases hll : left2 l with
            | false => exact List.mem_append_left _ (HLY.out y' l hl h1 hll)
            | true =>
              rw [hll, Bool.true_and, Bool.not_eq_false'] at h2
              have := WideAt.sameKey_eq h2
              subst this
              rw [cellV_inj y' y (law_cell.inj hl hky)]
              exact List.mem_append_right _ (by simp))
          have HSY3 : Hid (∀ l, (left2 l && !l.sameKey ky) = true → Maps.has D2 l = true) := Lib.hid (fun l hl => HSY.out l (by rw [Bool.and_eq_true] at hl; exact hl.1))
          have hB6 := bel_grown hW hg6 (fun z hz => by injection hz with hz; omega)
          have hO6 := hO3.grown hg6 (fun g' hg' e => hO3.ne_iter hrgi g' hg' (by injection e with e; exact e.symm))
          have hne12 : ¬ r2 = w1.heap.size := by omega
          have hrgo6 := hrgo.kept hg6 (fun e => iter_map hrgi hmo (by injection e with e; exact e.symm)) (fun e => by injection e with e; exact hne12 e.symm)
          have kx6 := kx3.grown hg6 (fun e => iter_blk hrgi kx3 e.symm)
          have hen' : (Instr.entry (.pointer (some ⟨r2, 0, none⟩))).run Try.prog w6 = .ok (.tuple #[.agg #[.int .i64 y.row, .int .i64 y.col], .agg #[]]) w6 := hen
          clear hen hrgi hrgo hW hg6 hO3 hky hlk2 hyW hyE hyn hinj hmi hmo hnd2 kx3
          go_upto_region 8 with fail
          try rw [← hsz6]
          have ky6 := Blk.new w6 (g := w6.heap.size) rfl 33 #[.int .i64 y.row, .int .i64 y.col]
          have hO7 := hO6.alloc (.cells #[.int .i64 y.row, .int .i64 y.col] 33)
          have hB7 := bel_alloc hB6 (.cells #[.int .i64 y.row, .int .i64 y.col] 33)
          have hrgi7 := hrgi1.alloc (.cells #[.int .i64 y.row, .int .i64 y.col] 33)
          have hrgo7 := hrgo6.alloc (.cells #[.int .i64 y.row, .int .i64 y.col] 33)
          have kx7 := kx6.alloc (.cells #[.int .i64 y.row, .int .i64 y.col] 33)
          generalize hwz : w6.alloc (.cells #[.int .i64 y.row, .int .i64 y.col] 33) = w7 at ky6 hO7 hB7 hrgi7 hrgo7 kx7 ⊢
          generalize w6.heap.size = gy at ky6 ⊢
          clear hwz hrgi1 hrgo6 hO6 hB6 hsz6 hen' kx6
          have rdy := ky6.rd
          have rdx := kx7.rd
          have hO8 := hO7.alloc (.cells #[.int .i64 y.row, .int .i64 y.col, .bool false, .int .i64 s.row, .int .i64 s.col, .int .i64 s.row, .int .i64 s.col] 51)
          have hrgi8 := hrgi7.alloc (.cells #[.int .i64 y.row, .int .i64 y.col, .bool false, .int .i64 s.row, .int .i64 s.col, .int .i64 s.row, .int .i64 s.col] 51)
          have hrgo8 := hrgo7.alloc (.cells #[.int .i64 y.row, .int .i64 y.col, .bool false, .int .i64 s.row, .int .i64 s.col, .int .i64 s.row, .int .i64 s.col] 51)
          have hB8 := bel_alloc hB7 (.cells #[.int .i64 y.row, .int .i64 y.col, .bool false, .int .i64 s.row, .int .i64 s.col, .int .i64 s.row, .int .i64 s.col] 51)
          have kx8 := kx7.alloc (.cells #[.int .i64 y.row, .int .i64 y.col, .bool false, .int .i64 s.row, .int .i64 s.col, .int .i64 s.row, .int .i64 s.col] 51)
          have hlies : Lies KD (w7.alloc (.cells #[.int .i64 y.row, .int .i64 y.col, .bool false, .int .i64 s.row, .int .i64 s.col, .int .i64 s.row, .int .i64 s.col] 51)) (some ⟨w7.heap.size, 0, none⟩) [sgE s y] := Lies.blk (Blk.new w7 rfl 51 #[.int .i64 y.row, .int .i64 y.col, .bool false, .int .i64 s.row, .int .i64 s.col, .int .i64 s.row, .int .i64 s.col]) rfl
          have hb1 : o2.length + 1 ≤ maxLen := by unfold maxLen; omega
          have hb2 : (o2.length + 1) * KD.bytes ≤ 140737488355328 := by show (_ + 1) * 56 ≤ _; omega
          have hb3 : w.heap.size ≤ (w7.alloc (.cells #[.int .i64 y.row, .int .i64 y.col, .bool false, .int .i64 s.row, .int .i64 s.col, .int .i64 s.row, .int .i64 s.col] 51)).heap.size := hB8.size
          go_wp2_with (at_builtin; (refine wp_ap_append info_kd rfl Try.underlying27 rfl _ _ rfl rfl hO8 (y := sgE s y) (c := 1) rfl hlies hb1 hb2 hb3 ?_); intro v9 w9 hO9 hg9)
          have hB9 := bel_grown hB8 hg9 (fun z hz => (hO8.lt z hz).1)
          have hrgi9 := hrgi8.kept hg9 (fun e => hO8.ne_map (mp_own hrgi8.owns) _ e.symm rfl) (fun e => hO8.ne_iter hrgi8 _ e.symm rfl)
          have hrgo9 := hrgo8.kept hg9 (fun e => hO8.ne_map (mp_own hrgo8.owns) _ e.symm rfl) (fun e => hO8.ne_iter hrgo8 _ e.symm rfl)
          have kx9 := kx8.grownX hg9 (fun e => by
            obtain ⟨cur, hcur⟩ := hO8.ow.type gx e.symm
            have hk : (w7.alloc (.cells #[.int .i64 y.row, .int .i64 y.col, .bool false, .int .i64 s.row, .int .i64 s.col, .int .i64 s.row, .int .i64 s.col] 51)).heap[gx]? = some (.cells _ 33 (0, 0)) := kx8
            have hc' : (w7.alloc (.cells #[.int .i64 y.row, .int .i64 y.col, .bool false, .int .i64 s.row, .int .i64 s.col, .int .i64 s.row, .int .i64 s.col] 51)).heap[gx]? = some (.cells cur KD.t (0, 0)) := hcur
            rw [hc'] at hk
            injection hk with hk
            injection hk with _ hk _
            exact absurd hk (of_decide_eq_false (by kernel_rfl)))
          go_roundg cnt3
          case measure => omega
          case rel => exact ⟨o2 ++ [sgE s y], _, cnt3, Nat.le_refl _, hrgi9, hrgo9, .inr hO9, hnd3, HIN3, HSB3, HCO3, HNY3, HLY3, HSY3, kx9, hB9⟩
theorem ds_back (db N : Nat) (Ow : Nat → Prop) (Es : List Ed) (w : World) (h : DS w db N Ow Es) (hN : N ≤ 1099511627776) :
    Calls Try.prog 22 #[.pointer (some ⟨db, 0, none⟩)] w (EdgIs w Es) := by
  obtain ⟨fm, tm, bb, O, Ps, f, t, E, Wh, h1, h2, h3, h4, h5, h6⟩ := h
  exact dback_any db fm tm bb N O Ps f t E E Wh Es w h1 h2 h4 h5 (by omega) hN
end Go.Proofs.Ytpgnebhlnkoajaa

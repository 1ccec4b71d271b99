/-
  Contract of does: each deed, in both stores. Conditions: those of each theorem.
-/
import Derived.Test.YtiiiiplfcaeegaaSBoth
import Derived.Deep.DeepCutAuto
import Derived.Deep.CutBlock
namespace Go.Proofs.Ytiiiiplfcaeegaa
open Go.ChangeShapes Go.WideShapes Go.ChangeAt Go.RowKit Go.Deep

theorem Frm.cell {S : Nat → Prop} {w w' : World} (h : Frm S w w') {b : Nat} (hlt : b < w.heap.size) (hn : ¬ S b) (o : Nat) : w'.cell? ⟨b, o, none⟩ = w.cell? ⟨b, o, none⟩ := by
  unfold World.cell?
  rw [h.block b hlt hn]

theorem own_ty {w : World} {sb : Nat} {ch rb : Nat → Option Nat} {g : Grid} {cnt : Int} (h : SIs w sb ch rb g cnt) {z : Nat} (hz : own sb ch rb z) : ∃ cs t, w.heap[z]? = some (.cells cs t (0, 0)) ∧ (t = 72 ∨ t = 78 ∨ t = 27) := by
  rcases hz with rfl | ⟨i, hi, hb⟩ | ⟨r, hr, hb⟩
  · obtain ⟨c, e, _⟩ := h.top
    exact ⟨c, _, e, .inl rfl⟩
  · obtain ⟨c, e, _⟩ := h.chk i hi z hb
    exact ⟨c, _, e, .inr (.inl rfl)⟩
  · obtain ⟨c, e, _⟩ := h.row r hr z hb
    exact ⟨c, _, e, .inr (.inr rfl)⟩
theorem not_own {w : World} {sb : Nat} {ch rb : Nat → Option Nat} {g : Grid} {cnt : Int} (h : SIs w sb ch rb g cnt) {z t : Nat} {cs : Array Value} (hz : w.heap[z]? = some (.cells cs t (0, 0))) (h1 : t ≠ 72) (h2 : t ≠ 78) (h3 : t ≠ 27) : ¬ own sb ch rb z := by
  intro ho
  obtain ⟨cs', t', e, ht⟩ := own_ty h ho
  rw [hz] at e
  injection e with e
  injection e with _ e
  subst e
  rcases ht with ht | ht | ht
  · exact h1 ht
  · exact h2 ht
  · exact h3 ht
theorem ty_ne {w : World} {a b t u : Nat} {cs ds : Array Value} (ha : w.heap[a]? = some (.cells cs t (0, 0))) (hb : w.heap[b]? = some (.cells ds u (0, 0))) (hne : t ≠ u) : a ≠ b := by
  rintro rfl
  rw [ha] at hb
  injection hb with e
  injection e with _ e
  exact hne e

section
variable {w w' : World} {bb sb yb lb lc : Nat} {Xs : List Addr} {ch rb : Nat → Option Nat} {cnt : Int} {L : List Itm} {A : Option Addr} {cap : Nat}
theorem BIs.nob (h : BIs w bb sb yb lb lc Xs ch rb cnt L A cap) : ¬ own sb ch rb bb := not_own h.sto h.top (by decide) (by decide) (by decide)
theorem BIs.noy (h : BIs w bb sb yb lb lc Xs ch rb cnt L A cap) : ¬ own sb ch rb yb := not_own h.sto h.ref.top (by decide) (by decide) (by decide)
theorem BIs.noL (h : BIs w bb sb yb lb lc Xs ch rb cnt L A cap) : ∀ z, (Value.slice A L.length cap).ownBlock = some z → ¬ own sb ch rb z := fun z hz => by
  obtain ⟨cur, e⟩ := h.ref.lst.type z hz
  exact not_own h.sto e (by decide) (by decide) (by decide)
theorem BIs.ltl (h : BIs w bb sb yb lb lc Xs ch rb cnt L A cap) : lb < w.heap.size := (h.lst.lt lb rfl).2
theorem BIs.nby (h : BIs w bb sb yb lb lc Xs ch rb cnt L A cap) : bb ≠ yb := ty_ne h.top h.ref.top (by decide)
theorem BIs.nly (h : BIs w bb sb yb lb lc Xs ch rb cnt L A cap) : lb ≠ yb := by
  obtain ⟨cur, e⟩ := h.lst.type lb rfl
  exact ty_ne e h.ref.top (by decide)
theorem YIs.frm {S : Nat → Prop} (h : YIs w yb L A cap) (hF : Frm S w w') (h1 : ¬ S yb) (h2 : ∀ z, (Value.slice A L.length cap).ownBlock = some z → ¬ S z) : YIs w' yb L A cap :=
  ⟨hF.blk h.top h1, h.lst.keep fun g hg => hF.block g (h.lst.lt g hg).2 (h2 g hg)⟩

/-- The store has turned; the document's has not yet. -/
theorem BIs.half (h : BIs w bb sb yb lb lc Xs ch rb cnt L A cap) {ch' rb' : Nat → Option Nat} (hF : Frm (own sb ch rb) w w') (hO : ∀ z, own sb ch' rb' z → own sb ch rb z ∨ w.heap.size ≤ z) :
    Blk w' bb 57 #[.pointer (some ⟨sb, 0, none⟩), .pointer (some ⟨yb, 0, none⟩), .slice (some ⟨lb, 0, none⟩) 8 lc] ∧ OL KP w' 0 (.slice (some ⟨lb, 0, none⟩) 8 lc) Xs ∧ YIs w' yb L A cap ∧ ¬ own sb ch' rb' lb ∧ ¬ own sb ch' rb' yb ∧ ¬ own sb ch' rb' bb := by
  refine ⟨hF.blk h.top h.nob, h.lst.keep fun g hg => ?_, h.ref.frm hF h.noy h.noL, fun hz => ?_, fun hz => ?_, fun hz => ?_⟩
  · cases hg
    exact hF.block lb h.ltl h.far
  · rcases hO _ hz with hz | hz
    · exact h.far hz
    · have := h.ltl; omega
  · rcases hO _ hz with hz | hz
    · exact h.noy hz
    · have := h.ref.top.lt; omega
  · rcases hO _ hz with hz | hz
    · exact h.nob hz
    · have := h.top.lt; omega

/-- Both have turned. -/
theorem BIs.both (h : BIs w bb sb yb lb lc Xs ch rb cnt L A cap) {ch' rb' : Nat → Option Nat} {cnt' : Int} {w1 w2 : World} {L' : List Itm} {A' : Option Addr} {cap' : Nat} (hF : Frm (own sb ch rb) w w1) (hO : ∀ z, own sb ch' rb' z → own sb ch rb z ∨ w.heap.size ≤ z)
    (hS : SIs w1 sb ch' rb' (gOf Xs L') cnt') (hY : YIs w2 yb L' A' cap') (hF2 : Frm (fun z => z = yb) w1 w2) (hsrt : Srt Xs.length L') :
    BIs w2 bb sb yb lb lc Xs ch' rb' cnt' L' A' cap' ∧ Frm (fun z => own sb ch rb z ∨ z = yb) w w2 := by
  obtain ⟨h1, h2, h3, h4, h5, h6⟩ := h.half hF hO
  have hS2 : SIs w2 sb ch' rb' (gOf Xs L') cnt' := hS.frm hF2 (fun z hz e => h5 (by rw [← e]; exact hz))
  refine ⟨⟨hF2.blk h1 h.nby, h2.keep fun g hg => ?_, h.len, hS2, hY, hsrt, h4, ?_⟩, ?_⟩
  · cases hg
    exact hF2.block lb (h2.lt lb rfl).2 h.nly
  · rw [← total_gOf Xs hsrt]
    exact total_le _
  · refine ⟨hF2.os.trans hF.os, hF2.tape.trans hF.tape, hF2.output.trans hF.output, Nat.le_trans hF.size hF2.size, fun k hk hn => ?_⟩
    exact (hF2.block k (Nat.lt_of_lt_of_le hk hF.size) (fun e => hn (.inr e))).trans (hF.block k hk (fun e => hn (.inl e)))

theorem sdrop_nil' (sb : Nat) (ch rb : Nat → Option Nat) (g : Grid) (cnt : Int) (r c : Int) (q d : Nat) (w : World) (h : SIs w sb ch rb g cnt) (hr : r = q + 1) (hc : c = d + 1) (hq : q < 4096) (hd : d < 256) (hg : g q d = none) :
    Calls Try.prog 20 #[.pointer (some ⟨sb, 0, none⟩), .agg #[.int .i64 r, .int .i64 c]] w fun e w' => e = .returned (.int .i64 0) ∧ Below w.heap.size w w' := by
  subst hr hc
  exact sdrop_nil sb ch rb g cnt q d w h hq hd hg
theorem sdrop_yes' (sb : Nat) (ch rb : Nat → Option Nat) (g : Grid) (cnt : Int) (r c : Int) (q d : Nat) (w : World) (h : SIs w sb ch rb g cnt) (hr : r = q + 1) (hc : c = d + 1) (hq : q < 4096) (hd : d < 256) (y : Addr) (hg : g q d = some y) :
    Calls Try.prog 20 #[.pointer (some ⟨sb, 0, none⟩), .agg #[.int .i64 r, .int .i64 c]] w fun e w' => e = .returned (.int .i64 0) ∧
      ∃ ch' rb', SIs w' sb ch' rb' (gset g q d none) (cnt - 1) ∧ Frm (own sb ch rb) w w' ∧ ∀ b, own sb ch' rb' b → own sb ch rb b := by
  subst hc
  obtain ⟨i, k, hk, rfl⟩ : ∃ i k, k < 16 ∧ q = i * 16 + k := ⟨q / 16, q % 16, by omega, by omega⟩
  have := sdrop_yes sb ch rb g cnt i k d w h (by omega) hk hd y hg
  rw [show (i : Int) * 16 + k + 1 = r by omega] at this
  exact this
theorem gset_none {g : Grid} {q d : Nat} (h : g q d = none) : gset g q d none = g := by
  funext a b
  unfold gset
  split
  · rename_i e
    rw [e.1, e.2, h]
  · rfl
theorem same_any' (h : BIs w bb sb yb lb lc Xs ch rb cnt L A cap) (q d : Nat) (r c : Int) (hr : r = q + 1) (hc : c = d + 1) :
    Calls Try.prog 28 #[.pointer (some ⟨bb, 0, none⟩), .pointer (gOf Xs L q d), .int .i64 (getL r c L)] w fun e w' => e = .returned (.bool true) ∧ w = w' := by
  subst hr hc
  exact same_any h q d
theorem same_none (bb : Nat) (w : World) :
    Calls Try.prog 28 #[.pointer (some ⟨bb, 0, none⟩), .pointer none, .int .i64 (-1)] w fun e w' => e = .returned (.bool true) ∧ w = w' := by
  go_enter Try.func28, Try.ntmps28
  go_wp2_with fail
  go_ret
  exact ⟨rfl, rfl⟩
theorem getL_off {n : Nat} {r c : Int} {L : List Itm} (h : Srt n L) (hm : mayB r c = false) : getL r c L = -1 := by
  unfold getL
  rw [List.find?_eq_none.2 (fun x hx hb => by
    have e := atI_iff.1 hb
    have := (h.ok x hx).1
    rw [e.1, e.2, hm] at this
    cases this)]

set_option maxHeartbeats 3200000 in
set_option maxRecDepth 100000 in
theorem does_any (h : BIs w bb sb yb lb lc Xs ch rb cnt L A cap) (kd cr cc t l b r wh : Int) (hk : -9223372036854775808 ≤ kd ∧ kd ≤ 9223372036854775807) (hwh : -9223372036854775808 ≤ wh ∧ wh ≤ 9223372036854775807)
    (bt : t ≤ 9223372036854775807) (bcr : cr ≤ 9223372036854775807) (bcc : -9223372036854775808 ≤ cc) :
    Calls Try.prog 18 #[.pointer (some ⟨bb, 0, none⟩), .agg #[.int .i64 kd, .int .i64 cr, .int .i64 cc, .int .i64 t, .int .i64 l, .int .i64 b, .int .i64 r, .int .i64 wh]] w fun e w' => e = .returned (.bool true) ∧
      ∃ ch' rb' cnt' L' A' cap', BIs w' bb sb yb lb lc Xs ch' rb' cnt' L' A' cap' ∧ Frm (fun z => own sb ch rb z ∨ z = yb) w w' ∧ ∀ z, own sb ch' rb' z → own sb ch rb z ∨ w.heap.size ≤ z := by
  have rd0 := h.top.rd
  have lt0 := h.top.lt
  have hg8 : (0 : Int) ≤ 8 := by omega
  go_enter Try.func18, Try.ntmps18
  go_wp2_with fail
  have k3 := Blk.new w rfl 60 #[.int .i64 kd, .int .i64 cr, .int .i64 cc, .int .i64 t, .int .i64 l, .int .i64 b, .int .i64 r, .int .i64 wh]
  have hB := h.alloc (.cells #[.int .i64 kd, .int .i64 cr, .int .i64 cc, .int .i64 t, .int .i64 l, .int .i64 b, .int .i64 r, .int .i64 wh] 60)
  have hw := bel_alloc (bel_refl w) (.cells #[.int .i64 kd, .int .i64 cr, .int .i64 cc, .int .i64 t, .int .i64 l, .int .i64 b, .int .i64 r, .int .i64 wh] 60)
  generalize w.alloc (.cells #[.int .i64 kd, .int .i64 cr, .int .i64 cc, .int .i64 t, .int .i64 l, .int .i64 b, .int .i64 r, .int .i64 wh] 60) = w1 at k3 hB hw ⊢
  have rd3 := k3.rd
  have lt3 := k3.lt
  have hne3 : ¬ bb = w.heap.size := by omega
  replace rd0 := hB.top.rd
  replace lt0 := hB.top.lt
  go_still_tail 7, (by kernel_rfl)
  go_wp2_with fail
  refine (pick_any wh 8 _ (by omega) (by omega) hwh).mono ?_
  rintro e w2 ⟨p, hp, rfl, rfl⟩
  go_wp2_with fail
  refine (pick_any kd 6 _ (by omega) (by omega) hk).mono ?_
  rintro e w3 ⟨k, hk6, rfl, rfl⟩
  replace k3 := k3.drew
  replace hB := hB.drew
  replace hw := bel_drew hw
  generalize w1.drew = w2 at k3 hB hw ⊢
  replace rd3 := k3.rd
  replace lt3 := k3.lt
  replace rd0 := hB.top.rd
  replace lt0 := hB.top.lt
  obtain ⟨x, hx, hcx⟩ := hB.at_ (p := p) (by omega)
  have HXX : Hid (Xs[p]? = some x) := hx
  have ltl := hB.ltl
  have hp8 : p < 8 := by omega
  clear hx h
  rcases (show k = 0 ∨ k = 1 ∨ k = 2 ∨ k = 3 ∨ k = 4 ∨ k = 5 by omega) with rfl | rfl | rfl | rfl | rfl | rfl
  · cases hm : mayB cr cc with
    | false =>
      go_wp2_with fail
      go_region_held3 (fun w' => w'.cell? ⟨bb, 0, none⟩ = some (.pointer (some ⟨sb, 0, none⟩)) ∧ w'.cell? ⟨bb, 1, none⟩ = some (.pointer (some ⟨yb, 0, none⟩)) ∧ w'.cell? ⟨bb, 2, none⟩ = some (.slice (some ⟨lb, 0, none⟩) 8 lc) ∧ w'.cell? ⟨w.heap.size, 1, none⟩ = some (.int .i64 cr) ∧ w'.cell? ⟨w.heap.size, 1 + 1, none⟩ = some (.int .i64 cc) ∧ w'.cell? ⟨lb, p, none⟩ = some (.pointer (some x))) (go_keep)
        (first | (go_at_call 9; refine (put_addr sb cr cc x _ hm).mono ?_; rintro e w3 ⟨rfl, hb3⟩; have q0hb3 := fun o => hb3.cell (p := ⟨bb, o, none⟩) (by show bb < w2.heap.size; omega); have q1hb3 := fun o => hb3.cell (p := ⟨w.heap.size, o, none⟩) (by show w.heap.size < w2.heap.size; omega); have q2hb3 := fun o => hb3.cell (p := ⟨lb, o, none⟩) (by show lb < w2.heap.size; omega); have zhb3 : w2.heap.size ≤ _ := hb3.size) | (go_at_call 26; refine (rput_no yb cr cc p _ hm).mono ?_; rintro e w4 ⟨rfl, hb4⟩; have q0hb4 := fun o => hb4.cell (p := ⟨bb, o, none⟩) (by show bb < w3.heap.size; omega); have q1hb4 := fun o => hb4.cell (p := ⟨w.heap.size, o, none⟩) (by show w.heap.size < w3.heap.size; omega); have q2hb4 := fun o => hb4.cell (p := ⟨lb, o, none⟩) (by show lb < w3.heap.size; omega); have zhb4 : w3.heap.size ≤ _ := hb4.size))
      go_wp2_with fail
      go_ret
      have hB4 := (Below.trans hb3 (hb4.mono hb3.size))
      exact ⟨rfl, ch, rb, cnt, L, A, cap, hB.drew.below hB4, (Frm.refl _ w).call (bel_call (bel_drew hw) hB4), fun _ hz => .inl hz⟩
    | true =>
      have hpc : pcode cr cc = 0 := by
        unfold pcode
        rw [if_pos hm]
      have hnb := hB.nob
      have hnd : ¬ own sb ch rb w.heap.size := not_own hB.sto k3 (by decide) (by decide) (by decide)
      have hfar := hB.far
      have hby := hB.nby
      have hly := hB.nly
      have hdy : w.heap.size ≠ yb := ty_ne k3 hB.ref.top (by decide)
      have hcap := hB.cap
      go_wp2_with fail
      go_region_held3 (fun w' => w'.cell? ⟨bb, 0, none⟩ = some (.pointer (some ⟨sb, 0, none⟩)) ∧ w'.cell? ⟨bb, 1, none⟩ = some (.pointer (some ⟨yb, 0, none⟩)) ∧ w'.cell? ⟨bb, 2, none⟩ = some (.slice (some ⟨lb, 0, none⟩) 8 lc) ∧ w'.cell? ⟨w.heap.size, 1, none⟩ = some (.int .i64 cr) ∧ w'.cell? ⟨w.heap.size, 1 + 1, none⟩ = some (.int .i64 cc) ∧ w'.cell? ⟨lb, p, none⟩ = some (.pointer (some x))) (go_keep)
        (first | (go_at_call 9; refine (put_any sb ch rb _ cnt cr cc x _ hB.sto.drew).mono ?_; rintro e w3 ⟨rfl, ch', rb', cnt', hS, hF, hO⟩; rw [hpc]; have q0hF := fun o => hF.cell (b := bb) (by show bb < w2.heap.size; omega) hnb o; have q1hF := fun o => hF.cell (b := w.heap.size) (by show w.heap.size < w2.heap.size; omega) hnd o; have q2hF := fun o => hF.cell (b := lb) (by show lb < w2.heap.size; omega) hfar o; have zhF : w2.heap.size ≤ _ := hF.size) | (go_at_call 26; refine (rput_yes yb L A cap cr cc p _ (hB.drew.half hF hO).2.2.1 (by omega) hm).mono ?_; rintro e w4 ⟨rfl, A', cap', hY', hF2⟩; have q0hF2 := fun o => hF2.cell (b := bb) (by show bb < w3.heap.size; omega) hby o; have q1hF2 := fun o => hF2.cell (b := w.heap.size) (by show w.heap.size < w3.heap.size; omega) hdy o; have q2hF2 := fun o => hF2.cell (b := lb) (by show lb < w3.heap.size; omega) hly o; have zhF2 : w3.heap.size ≤ _ := hF2.size))
      go_wp2_with fail
      go_ret
      have hG : putG (gOf Xs L) cr cc x = gOf Xs (insL ⟨cr, cc, p⟩ (wo cr cc L)) := by
        unfold putG
        rw [if_pos hm, gOf_ins Xs L cr cc p x hm (by rw [show ((p : Int)).toNat = p by omega]; exact HXX.out)]
      rw [hG] at hS
      obtain ⟨r1, r2⟩ := hB.drew.both hF hO hS hY' hF2 (hB.srt.ins cr cc p hm (by rw [hB.len]; omega))
      exact ⟨rfl, _, _, _, _, _, _, r1, (Frm.refl _ w).call (bel_drew hw) |>.then_ r2 (fun z hz _ => hz), fun z hz => (hO z hz).imp id (fun hz => Nat.le_trans hw.size hz)⟩
  · go_wp2_with fail
    go_still_tail 6, (by kernel_rfl)
    go_wp2_with fail
    refine (put_nil sb cr cc _).mono ?_
    rintro e w3 ⟨rfl, hb3⟩
    go_wp2_with fail
    go_ret
    exact ⟨rfl, ch, rb, cnt, L, A, cap, hB.drew.below hb3, (Frm.refl _ w).call (bel_call (bel_drew hw) hb3), fun _ hz => .inl hz⟩
  · cases hm : mayB cr cc with
    | false =>
      go_wp2_with fail
      go_region_held3 (fun w' => w'.cell? ⟨bb, 0, none⟩ = some (.pointer (some ⟨sb, 0, none⟩)) ∧ w'.cell? ⟨bb, 1, none⟩ = some (.pointer (some ⟨yb, 0, none⟩)) ∧ w'.cell? ⟨w.heap.size, 1, none⟩ = some (.int .i64 cr) ∧ w'.cell? ⟨w.heap.size, 1 + 1, none⟩ = some (.int .i64 cc)) (go_keep)
        (first | (go_at_call 20; refine (sdrop_no sb cr cc _ hm).mono ?_; rintro e w3 ⟨rfl, hb3⟩; have q0hb3 := fun o => hb3.cell (p := ⟨bb, o, none⟩) (by show bb < w2.heap.size; omega); have q1hb3 := fun o => hb3.cell (p := ⟨w.heap.size, o, none⟩) (by show w.heap.size < w2.heap.size; omega); have q2hb3 := fun o => hb3.cell (p := ⟨lb, o, none⟩) (by show lb < w2.heap.size; omega); have zhb3 : w2.heap.size ≤ _ := hb3.size) | (go_at_call 27; refine (rdrop_no yb cr cc _ hm).mono ?_; rintro e w4 ⟨rfl, hb4⟩; have q0hb4 := fun o => hb4.cell (p := ⟨bb, o, none⟩) (by show bb < w3.heap.size; omega); have q1hb4 := fun o => hb4.cell (p := ⟨w.heap.size, o, none⟩) (by show w.heap.size < w3.heap.size; omega); have q2hb4 := fun o => hb4.cell (p := ⟨lb, o, none⟩) (by show lb < w3.heap.size; omega); have zhb4 : w3.heap.size ≤ _ := hb4.size))
      go_wp2_with fail
      go_ret
      have hB4 := (Below.trans hb3 (hb4.mono hb3.size))
      exact ⟨rfl, ch, rb, cnt, L, A, cap, hB.drew.below hB4, (Frm.refl _ w).call (bel_call (bel_drew hw) hB4), fun _ hz => .inl hz⟩
    | true =>
      have hnb := hB.nob
      have hnd : ¬ own sb ch rb w.heap.size := not_own hB.sto k3 (by decide) (by decide) (by decide)
      have hfar := hB.far
      have hby := hB.nby
      have hly := hB.nly
      have hdy : w.heap.size ≠ yb := ty_ne k3 hB.ref.top (by decide)
      have hcap := hB.cap
      have hmb := mayB_true hm
      cases hg : gOf Xs L (cr - 1).toNat (cc - 1).toNat with
      | none =>
        go_wp2_with fail
        go_region_held3 (fun w' => w'.cell? ⟨bb, 0, none⟩ = some (.pointer (some ⟨sb, 0, none⟩)) ∧ w'.cell? ⟨bb, 1, none⟩ = some (.pointer (some ⟨yb, 0, none⟩)) ∧ w'.cell? ⟨w.heap.size, 1, none⟩ = some (.int .i64 cr) ∧ w'.cell? ⟨w.heap.size, 1 + 1, none⟩ = some (.int .i64 cc)) (go_keep)
          (first | (go_at_call 20; refine (sdrop_nil' sb ch rb _ cnt cr cc (cr - 1).toNat (cc - 1).toNat _ hB.sto.drew (by omega) (by omega) (by omega) (by omega) hg).mono ?_; rintro e w3 ⟨rfl, hb3⟩; have q0hb3 := fun o => hb3.cell (p := ⟨bb, o, none⟩) (by show bb < w2.heap.size; omega); have q1hb3 := fun o => hb3.cell (p := ⟨w.heap.size, o, none⟩) (by show w.heap.size < w2.heap.size; omega); have q2hb3 := fun o => hb3.cell (p := ⟨lb, o, none⟩) (by show lb < w2.heap.size; omega); have zhb3 : w2.heap.size ≤ _ := hb3.size) | (go_at_call 27; refine (rdrop_yes yb L A cap cr cc _ (hB.ref.drew'.below hb3) (by omega) hm).mono ?_; rintro e w4 ⟨rfl, A', cap', hY', hF2⟩; have q0hF2 := fun o => hF2.cell (b := bb) (by show bb < w3.heap.size; omega) hby o; have q1hF2 := fun o => hF2.cell (b := w.heap.size) (by show w.heap.size < w3.heap.size; omega) hdy o; have q2hF2 := fun o => hF2.cell (b := lb) (by show lb < w3.heap.size; omega) hly o; have zhF2 : w3.heap.size ≤ _ := hF2.size))
        go_wp2_with fail
        go_ret
        have hG : gOf Xs L = gOf Xs (wo cr cc L) := by
          rw [gOf_wo Xs L cr cc hm, gset_none hg]
        have hS := hB.sto.drew.below hb3
        rw [hG] at hS
        have hF : Frm (own sb ch rb) w2.drew w3 := (Frm.refl _ _).call hb3
        obtain ⟨r1, r2⟩ := hB.drew.both hF (fun _ hz => .inl hz) hS hY' hF2 (hB.srt.wo cr cc)
        exact ⟨rfl, _, _, _, _, _, _, r1, (Frm.refl _ w).call (bel_drew hw) |>.then_ r2 (fun z hz _ => hz), fun z hz => .inl hz⟩
      | some y =>
        go_wp2_with fail
        go_region_held3 (fun w' => w'.cell? ⟨bb, 0, none⟩ = some (.pointer (some ⟨sb, 0, none⟩)) ∧ w'.cell? ⟨bb, 1, none⟩ = some (.pointer (some ⟨yb, 0, none⟩)) ∧ w'.cell? ⟨w.heap.size, 1, none⟩ = some (.int .i64 cr) ∧ w'.cell? ⟨w.heap.size, 1 + 1, none⟩ = some (.int .i64 cc)) (go_keep)
          (first | (go_at_call 20; refine (sdrop_yes' sb ch rb _ cnt cr cc (cr - 1).toNat (cc - 1).toNat _ hB.sto.drew (by omega) (by omega) (by omega) (by omega) y hg).mono ?_; rintro e w3 ⟨rfl, ch', rb', hS, hF, hO⟩; have q0hF := fun o => hF.cell (b := bb) (by show bb < w2.heap.size; omega) hnb o; have q1hF := fun o => hF.cell (b := w.heap.size) (by show w.heap.size < w2.heap.size; omega) hnd o; have q2hF := fun o => hF.cell (b := lb) (by show lb < w2.heap.size; omega) hfar o; have zhF : w2.heap.size ≤ _ := hF.size) | (go_at_call 27; refine (rdrop_yes yb L A cap cr cc _ (hB.drew.half hF (fun z hz => .inl (hO z hz))).2.2.1 (by omega) hm).mono ?_; rintro e w4 ⟨rfl, A', cap', hY', hF2⟩; have q0hF2 := fun o => hF2.cell (b := bb) (by show bb < w3.heap.size; omega) hby o; have q1hF2 := fun o => hF2.cell (b := w.heap.size) (by show w.heap.size < w3.heap.size; omega) hdy o; have q2hF2 := fun o => hF2.cell (b := lb) (by show lb < w3.heap.size; omega) hly o; have zhF2 : w3.heap.size ≤ _ := hF2.size))
        go_wp2_with fail
        go_ret
        rw [← gOf_wo Xs L cr cc hm] at hS
        obtain ⟨r1, r2⟩ := hB.drew.both hF (fun z hz => .inl (hO z hz)) hS hY' hF2 (hB.srt.wo cr cc)
        exact ⟨rfl, _, _, _, _, _, _, r1, (Frm.refl _ w).call (bel_drew hw) |>.then_ r2 (fun z hz _ => hz), fun z hz => .inl (hO z hz)⟩
  · cases hm : mayB cr cc with
    | false =>
      have hgl := getL_off hB.srt hm
      go_wp2_with fail
      go_region_held3 (fun w' => w'.cell? ⟨bb, 0, none⟩ = some (.pointer (some ⟨sb, 0, none⟩)) ∧ w'.cell? ⟨bb, 1, none⟩ = some (.pointer (some ⟨yb, 0, none⟩)) ∧ w'.cell? ⟨w.heap.size, 1, none⟩ = some (.int .i64 cr) ∧ w'.cell? ⟨w.heap.size, 1 + 1, none⟩ = some (.int .i64 cc)) (go_keep)
        (first | (go_at_call 14; refine (sget_no cr cc _ hm).mono ?_; rintro e w3 ⟨rfl, hb3⟩; have q0hb3 := fun o => hb3.cell (p := ⟨bb, o, none⟩) (by show bb < w2.heap.size; omega); have q1hb3 := fun o => hb3.cell (p := ⟨w.heap.size, o, none⟩) (by show w.heap.size < w2.heap.size; omega); have q2hb3 := fun o => hb3.cell (p := ⟨lb, o, none⟩) (by show lb < w2.heap.size; omega); have zhb3 : w2.heap.size ≤ _ := hb3.size) | (go_at_call 29; refine (rget_any yb L A cap cr cc _ (hB.ref.drew'.below hb3)).mono ?_; rintro e w4 ⟨rfl, hb4⟩; rw [hgl]; have q0hb4 := fun o => hb4.cell (p := ⟨bb, o, none⟩) (by show bb < w3.heap.size; omega); have q1hb4 := fun o => hb4.cell (p := ⟨w.heap.size, o, none⟩) (by show w.heap.size < w3.heap.size; omega); have q2hb4 := fun o => hb4.cell (p := ⟨lb, o, none⟩) (by show lb < w3.heap.size; omega); have zhb4 : w3.heap.size ≤ _ := hb4.size) | (go_at_call 28; refine (same_none bb _).mono ?_; rintro e w5 ⟨rfl, rfl⟩))
      go_wp2_with fail
      go_ret
      have hB4 := (Below.trans hb3 (hb4.mono hb3.size))
      exact ⟨rfl, ch, rb, cnt, L, A, cap, hB.drew.below hB4, (Frm.refl _ w).call (bel_call (bel_drew hw) hB4), fun _ hz => .inl hz⟩
    | true =>
      have hmb := mayB_true hm
      go_wp2_with fail
      go_region_held3 (fun w' => w'.cell? ⟨bb, 0, none⟩ = some (.pointer (some ⟨sb, 0, none⟩)) ∧ w'.cell? ⟨bb, 1, none⟩ = some (.pointer (some ⟨yb, 0, none⟩)) ∧ w'.cell? ⟨w.heap.size, 1, none⟩ = some (.int .i64 cr) ∧ w'.cell? ⟨w.heap.size, 1 + 1, none⟩ = some (.int .i64 cc)) (go_keep)
        (first | (go_at_call 14; refine (sget_any cr cc (cr - 1).toNat (cc - 1).toNat _ hB.sto.drew (by omega) (by omega) (by omega) (by omega)).mono ?_; rintro e w3 ⟨rfl, hb3⟩; have q0hb3 := fun o => hb3.cell (p := ⟨bb, o, none⟩) (by show bb < w2.heap.size; omega); have q1hb3 := fun o => hb3.cell (p := ⟨w.heap.size, o, none⟩) (by show w.heap.size < w2.heap.size; omega); have q2hb3 := fun o => hb3.cell (p := ⟨lb, o, none⟩) (by show lb < w2.heap.size; omega); have zhb3 : w2.heap.size ≤ _ := hb3.size) | (go_at_call 29; refine (rget_any yb L A cap cr cc _ (hB.ref.drew'.below hb3)).mono ?_; rintro e w4 ⟨rfl, hb4⟩; have q0hb4 := fun o => hb4.cell (p := ⟨bb, o, none⟩) (by show bb < w3.heap.size; omega); have q1hb4 := fun o => hb4.cell (p := ⟨w.heap.size, o, none⟩) (by show w.heap.size < w3.heap.size; omega); have q2hb4 := fun o => hb4.cell (p := ⟨lb, o, none⟩) (by show lb < w3.heap.size; omega); have zhb4 : w3.heap.size ≤ _ := hb4.size) | (go_at_call 28; refine (same_any' ((hB.drew.below hb3).below hb4) _ _ cr cc (by omega) (by omega)).mono ?_; rintro e w5 ⟨rfl, rfl⟩))
      go_wp2_with fail
      go_ret
      have hB4 := (Below.trans hb3 (hb4.mono hb3.size))
      exact ⟨rfl, ch, rb, cnt, L, A, cap, hB.drew.below hB4, (Frm.refl _ w).call (bel_call (bel_drew hw) hB4), fun _ hz => .inl hz⟩
  · obtain ⟨wr, rfl⟩ : ∃ wr : World, wr = w2 := ⟨_, rfl⟩
    clear hcx rd0 rd3
    have hBw := hB
    have rd0 := hB.top.rd
    have rd3 := k3.rd
    go_upto_region 12 with fail
    go_cut [6, 7] (fun s6 s7 wx => ∃ (c6 : Nat) (res : Option (Nat × Nat)) (nr nc : Int) (nb : Bool), s6 = .pointer (some ⟨c6, 0, none⟩) ∧ s7 = .bool nb ∧ Hid (nextV res = .tuple #[.agg #[.int .i64 nr, .int .i64 nc], .bool nb]) ∧ Hid (IsNext (gOf Xs L) t l b r cr cc res) ∧
      Blk wx c6 41 #[.int .i64 nr, .int .i64 nc] ∧ Blk wx w.heap.size 60 #[.int .i64 kd, .int .i64 cr, .int .i64 cc, .int .i64 t, .int .i64 l, .int .i64 b, .int .i64 r, .int .i64 wh] ∧ w.heap.size < c6 ∧ bb < c6 ∧ BIs wx bb sb yb lb lc Xs ch rb cnt L A cap ∧ Below w.heap.size w wx)
    case first =>
      go_wp2_with fail
      go_region_held3 (fun w' => w'.cell? ⟨bb, 0, none⟩ = some (.pointer (some ⟨sb, 0, none⟩)) ∧ w'.cell? ⟨w.heap.size, 3, none⟩ = some (.int .i64 t) ∧ w'.cell? ⟨w.heap.size, 3 + 1, none⟩ = some (.int .i64 l) ∧ w'.cell? ⟨w.heap.size, 3 + 2, none⟩ = some (.int .i64 b) ∧ w'.cell? ⟨w.heap.size, 3 + 3, none⟩ = some (.int .i64 r) ∧ w'.cell? ⟨w.heap.size, 1, none⟩ = some (.int .i64 cr) ∧ w'.cell? ⟨w.heap.size, 1 + 1, none⟩ = some (.int .i64 cc)) (go_keep)
        (first | (go_at_call 12; refine (next_any sb ch rb _ cnt t l b r cr cc wr.drew (hB.sto.drew) bt (by omega) (by omega)).mono ?_; rintro e w3 ⟨res, hres, rfl, hb3⟩; obtain ⟨nr, nc, nb, hne⟩ := nextV_is res; rw [hne]; have HNE : Hid (nextV res = _) := hne; have HRES : Hid (IsNext _ _ _ _ _ _ _ res) := hres; clear hne hres; have hz3 : wr.heap.size ≤ w3.heap.size := Nat.le_trans (Nat.le_refl _) hb3.size; have n0 : ¬ bb = w3.heap.size := (by omega); have m0 : ¬ w3.heap.size = bb := (by omega); have v0 : ¬ bb = wr.heap.size := (by omega); have u0 : ¬ wr.heap.size = bb := (by omega); have q0 := fun o => hb3.cell (p := ⟨bb, o, none⟩) (by first | (show bb < wr.heap.size; omega) | (simp; omega)); have n1 : ¬ w.heap.size = w3.heap.size := (by omega); have m1 : ¬ w3.heap.size = w.heap.size := (by omega); have v1 : ¬ w.heap.size = wr.heap.size := (by omega); have u1 : ¬ wr.heap.size = w.heap.size := (by omega); have q1 := fun o => hb3.cell (p := ⟨w.heap.size, o, none⟩) (by first | (show w.heap.size < wr.heap.size; omega) | (simp; omega))) | (go_at_call 12; refine (next_any sb ch rb _ cnt t l b r cr cc (wr.alloc (.cells #[.int .i64 0, .int .i64 0] 41)).drew ((hB.sto.alloc _).drew) bt (by omega) (by omega)).mono ?_; rintro e w3 ⟨res, hres, rfl, hb3⟩; obtain ⟨nr, nc, nb, hne⟩ := nextV_is res; rw [hne]; have HNE : Hid (nextV res = _) := hne; have HRES : Hid (IsNext _ _ _ _ _ _ _ res) := hres; clear hne hres; have hz3 : wr.heap.size ≤ w3.heap.size := Nat.le_trans (by simp) hb3.size; have n0 : ¬ bb = w3.heap.size := (by omega); have m0 : ¬ w3.heap.size = bb := (by omega); have v0 : ¬ bb = wr.heap.size := (by omega); have u0 : ¬ wr.heap.size = bb := (by omega); have q0 := fun o => hb3.cell (p := ⟨bb, o, none⟩) (by first | (show bb < wr.heap.size; omega) | (simp; omega)); have n1 : ¬ w.heap.size = w3.heap.size := (by omega); have m1 : ¬ w3.heap.size = w.heap.size := (by omega); have v1 : ¬ w.heap.size = wr.heap.size := (by omega); have u1 : ¬ wr.heap.size = w.heap.size := (by omega); have q1 := fun o => hb3.cell (p := ⟨w.heap.size, o, none⟩) (by first | (show w.heap.size < wr.heap.size; omega) | (simp; omega)); have k6 := (Blk.new wr rfl 41 #[.int .i64 0, .int .i64 0]).drew.below hb3; have rd6 := k6.rd; have fz6 := k6.fz; have lt6 := k6.lt))
      all_goals
        go_wp2_with fail
        go_meet
        case rel =>
          first
            | exact ⟨w3.heap.size, res, nr, nc, nb, rfl, rfl, HNE, HRES, Blk.new w3 rfl _ _, (Blk.below k3.drew hb3).alloc _, by omega, by omega, (BIs.below hB.drew hb3).alloc _, bel_alloc (bel_call (bel_drew hw) hb3) _⟩
            | exact ⟨wr.heap.size, res, nr, nc, nb, rfl, rfl, HNE, HRES, (k6.put 0 (.int .i64 nr)).put 1 (.int .i64 nc), ((Blk.below (k3.alloc _).drew hb3).far (by omega) _).far (by omega) _, by omega, by omega, hB.below (bel_set (bel_set (bel_call (bel_drew (bel_alloc (bel_refl wr) _)) hb3) (Nat.le_refl _) _) (Nat.le_refl _) _), bel_set (bel_set (bel_call (bel_drew (bel_alloc hw _)) hb3) (by omega) _) (by omega) _⟩
    case rest =>
      obtain ⟨c6, res, nr, nc, nb, rfl, rfl, HNE, HRES, k6, k3', hc6, hc6b, hB', hw'⟩ := hcut
      clear hB hBw rd0 lt0 rd3 lt3 k3 hw
      obtain ⟨wr, rfl⟩ : ∃ wr : World, wr = wc := ⟨_, rfl⟩
      have k3 := k3'
      have hB := hB'
      have hw := hw'
      clear k3' hB' hw'
      have rd0 := hB.top.rd
      have lt0 := hB.top.lt
      have rd3 := k3.rd
      have lt3 := k3.lt
      have lt6 := k6.lt
      go_upto_region 13 with fail
      go_cut [8, 9] (fun s8 s9 wx => ∃ (c8 : Nat), s8 = .pointer (some ⟨c8, 0, none⟩) ∧ s9 = .bool nb ∧ Blk wx c8 41 #[.int .i64 nr, .int .i64 nc] ∧ Blk wx c6 41 #[.int .i64 nr, .int .i64 nc] ∧ BIs wx bb sb yb lb lc Xs ch rb cnt L A cap ∧ Below w.heap.size w wx)
      case first =>
        go_wp2_with fail
        go_region_held3 (fun w' => w'.cell? ⟨bb, 1, none⟩ = some (.pointer (some ⟨yb, 0, none⟩)) ∧ w'.cell? ⟨w.heap.size, 3, none⟩ = some (.int .i64 t) ∧ w'.cell? ⟨w.heap.size, 3 + 1, none⟩ = some (.int .i64 l) ∧ w'.cell? ⟨w.heap.size, 3 + 2, none⟩ = some (.int .i64 b) ∧ w'.cell? ⟨w.heap.size, 3 + 3, none⟩ = some (.int .i64 r) ∧ w'.cell? ⟨w.heap.size, 1, none⟩ = some (.int .i64 cr) ∧ w'.cell? ⟨w.heap.size, 1 + 1, none⟩ = some (.int .i64 cc)) (go_keep)
          (first | (go_at_call 30; refine (rnext_any yb L A cap t l b r cr cc wr.drew (hB.ref.drew')).mono ?_; rintro e w3 ⟨rfl, hb3⟩; rw [← next_same hB.srt HRES.out, HNE.out]; have hz3 : wr.heap.size ≤ w3.heap.size := Nat.le_trans (Nat.le_refl _) hb3.size; have n0 : ¬ bb = w3.heap.size := (by omega); have m0 : ¬ w3.heap.size = bb := (by omega); have v0 : ¬ bb = wr.heap.size := (by omega); have u0 : ¬ wr.heap.size = bb := (by omega); have q0 := fun o => hb3.cell (p := ⟨bb, o, none⟩) (by first | (show bb < wr.heap.size; omega) | (simp; omega)); have n1 : ¬ w.heap.size = w3.heap.size := (by omega); have m1 : ¬ w3.heap.size = w.heap.size := (by omega); have v1 : ¬ w.heap.size = wr.heap.size := (by omega); have u1 : ¬ wr.heap.size = w.heap.size := (by omega); have q1 := fun o => hb3.cell (p := ⟨w.heap.size, o, none⟩) (by first | (show w.heap.size < wr.heap.size; omega) | (simp; omega)); have n2 : ¬ c6 = w3.heap.size := (by omega); have m2 : ¬ w3.heap.size = c6 := (by omega); have v2 : ¬ c6 = wr.heap.size := (by omega); have u2 : ¬ wr.heap.size = c6 := (by omega); have q2 := fun o => hb3.cell (p := ⟨c6, o, none⟩) (by first | (show c6 < wr.heap.size; omega) | (simp; omega))) | (go_at_call 30; refine (rnext_any yb L A cap t l b r cr cc (wr.alloc (.cells #[.int .i64 0, .int .i64 0] 41)).drew ((hB.ref.alloc _).drew')).mono ?_; rintro e w3 ⟨rfl, hb3⟩; rw [← next_same hB.srt HRES.out, HNE.out]; have hz3 : wr.heap.size ≤ w3.heap.size := Nat.le_trans (by simp) hb3.size; have n0 : ¬ bb = w3.heap.size := (by omega); have m0 : ¬ w3.heap.size = bb := (by omega); have v0 : ¬ bb = wr.heap.size := (by omega); have u0 : ¬ wr.heap.size = bb := (by omega); have q0 := fun o => hb3.cell (p := ⟨bb, o, none⟩) (by first | (show bb < wr.heap.size; omega) | (simp; omega)); have n1 : ¬ w.heap.size = w3.heap.size := (by omega); have m1 : ¬ w3.heap.size = w.heap.size := (by omega); have v1 : ¬ w.heap.size = wr.heap.size := (by omega); have u1 : ¬ wr.heap.size = w.heap.size := (by omega); have q1 := fun o => hb3.cell (p := ⟨w.heap.size, o, none⟩) (by first | (show w.heap.size < wr.heap.size; omega) | (simp; omega)); have n2 : ¬ c6 = w3.heap.size := (by omega); have m2 : ¬ w3.heap.size = c6 := (by omega); have v2 : ¬ c6 = wr.heap.size := (by omega); have u2 : ¬ wr.heap.size = c6 := (by omega); have q2 := fun o => hb3.cell (p := ⟨c6, o, none⟩) (by first | (show c6 < wr.heap.size; omega) | (simp; omega)); have k8 := (Blk.new wr rfl 41 #[.int .i64 0, .int .i64 0]).drew.below hb3; have rd8 := k8.rd; have fz8 := k8.fz; have lt8 := k8.lt))
        all_goals
          go_wp2_with fail
          go_meet
          case rel =>
            first
              | exact ⟨w3.heap.size, rfl, rfl, Blk.new w3 rfl _ _, (Blk.below k6.drew hb3).alloc _, (BIs.below hB.drew hb3).alloc _, bel_alloc (bel_call (bel_drew hw) hb3) _⟩
              | exact ⟨wr.heap.size, rfl, rfl, (k8.put 0 (.int .i64 nr)).put 1 (.int .i64 nc), ((Blk.below (k6.alloc _).drew hb3).far (by omega) _).far (by omega) _, hB.below (bel_set (bel_set (bel_call (bel_drew (bel_alloc (bel_refl wr) _)) hb3) (Nat.le_refl _) _) (Nat.le_refl _) _), bel_set (bel_set (bel_call (bel_drew (bel_alloc hw _)) hb3) (by omega) _) (by omega) _⟩
      case rest =>
        obtain ⟨c8, rfl, rfl, k8, k6', hB', hw'⟩ := hcut
        clear hB rd0 lt0 rd3 lt3 lt6 k3 k6 hw
        have rd6 := k6'.rd
        have rd8 := k8.rd
        have lt6 := k6'.lt
        have lt8 := k8.lt
        go_wp2_with fail
        go_ret
        exact ⟨rfl, ch, rb, cnt, L, A, cap, hB', (Frm.refl _ w).call hw', fun _ hz => .inl hz⟩
  · go_wp2_with fail
    refine (walks_any hB t l b r bt).mono ?_
    rintro e w3 ⟨rfl, hb3⟩
    go_wp2_with fail
    go_ret
    exact ⟨rfl, ch, rb, cnt, L, A, cap, hB.below hb3, (Frm.refl _ w).call (bel_call hw hb3), fun _ hz => .inl hz⟩
end
end Go.Proofs.Ytiiiiplfcaeegaa

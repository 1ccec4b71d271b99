/-
  The walk of oriellaw15.StoreApart: it returns true. Conditions: the deeds lie as said.
-/
import Derived.Test.YtiiiiplfcaeegaaSPlays
import Derived.Deep.RegionWith
namespace Go.Proofs.Ytiiiiplfcaeegaa
open Go.ChangeShapes Go.WideShapes Go.ChangeAt Go.RowKit Go.Deep

/-- What lies apart from what turns stays. -/
theorem BIs.apart {w w' : World} {bb sb yb lb lc : Nat} {Xs : List Addr} {ch rb : Nat → Option Nat} {cnt : Int} {L : List Itm} {A : Option Addr} {cap : Nat} (h : BIs w bb sb yb lb lc Xs ch rb cnt L A cap) {S : Nat → Prop} (hF : Frm S w w')
    (h1 : ∀ z, own sb ch rb z ∨ z = yb → ¬ S z) (h2 : ¬ S bb) (h3 : ¬ S lb) (h4 : ∀ z, (Value.slice A L.length cap).ownBlock = some z → ¬ S z) : BIs w' bb sb yb lb lc Xs ch rb cnt L A cap :=
  ⟨hF.blk h.top h2, h.lst.keep fun g hg => by cases hg; exact hF.block lb h.ltl h3, h.len, h.sto.frm hF (fun b hb => h1 b (.inl hb)), h.ref.frm hF (h1 yb (.inr rfl)) h4, h.srt, h.far, h.cap⟩

/-- Pair2 of them: one turns, the other stays. -/
theorem two_stay {w w' : World} {ba sa ya la ca : Nat} {Xa : List Addr} {cha rba : Nat → Option Nat} {na : Int} {La : List Itm} {Aa : Option Addr} {pa : Nat} {bb sb yb lb lc : Nat} {Xs : List Addr} {ch rb : Nat → Option Nat} {cnt : Int} {L : List Itm} {A : Option Addr} {cap : Nat}
    (ha : BIs w ba sa ya la ca Xa cha rba na La Aa pa) (hb : BIs w bb sb yb lb lc Xs ch rb cnt L A cap) (hF : Frm (fun z => own sa cha rba z ∨ z = ya) w w') (hd : ∀ z, own sa cha rba z → ¬ own sb ch rb z) (hl : ¬ own sa cha rba lb) (hy : yb ≠ ya) :
    BIs w' bb sb yb lb lc Xs ch rb cnt L A cap := by
  refine hb.apart hF ?_ ?_ ?_ ?_
  · rintro z (hz | rfl) (hz' | hz')
    · exact hd z hz' hz
    · exact not_own hb.sto (hz' ▸ ha.ref.top) (by decide) (by decide) (by decide) hz
    · exact not_own ha.sto hb.ref.top (by decide) (by decide) (by decide) hz'
    · exact hy hz'
  · rintro (hz | hz)
    · exact not_own ha.sto hb.top (by decide) (by decide) (by decide) hz
    · exact ty_ne hb.top ha.ref.top (by decide) hz
  · rintro (hz | hz)
    · exact hl hz
    · obtain ⟨cur, e⟩ := hb.lst.type lb rfl
      exact ty_ne e ha.ref.top (by decide) hz
  · intro z hz
    obtain ⟨cur, e⟩ := hb.ref.lst.type z hz
    rintro (hz' | hz')
    · exact not_own ha.sto e (by decide) (by decide) (by decide) hz'
    · exact ty_ne e ha.ref.top (by decide) hz'

/-- What two of them know of one another. -/
structure Pair2 (B : Nat) (sa ya la : Nat) (cha rba : Nat → Option Nat) (sb yb lb : Nat) (ch rb : Nat → Option Nat) : Prop where
  oa : OwnB B sa ya cha rba
  ob : OwnB B sb yb ch rb
  dis : ∀ z, own sa cha rba z → ¬ own sb ch rb z
  la : ¬ own sb ch rb la
  lb : ¬ own sa cha rba lb
theorem Pair2.left {w : World} {B sa ya la : Nat} {cha rba : Nat → Option Nat} {sb yb lb : Nat} {ch rb : Nat → Option Nat} (h : Pair2 B sa ya la cha rba sb yb lb ch rb) {cha' rba' : Nat → Option Nat} {g : Grid} {cnt : Int} (hs : SIs w sb ch rb g cnt) (hlb : lb < w.heap.size) (hB : B ≤ w.heap.size)
    (hO : ∀ z, own sa cha' rba' z → own sa cha rba z ∨ w.heap.size ≤ z) : Pair2 B sa ya la cha' rba' sb yb lb ch rb :=
  ⟨h.oa.next hB hO, h.ob, fun z hz hz' => (hO z hz).elim (fun h1 => h.dis z h1 hz') (fun h1 => by have := hs.own_lt hz'; omega), h.la, fun hz => (hO _ hz).elim h.lb (fun h1 => by omega)⟩
theorem Pair2.turn {B sa ya la : Nat} {cha rba : Nat → Option Nat} {sb yb lb : Nat} {ch rb : Nat → Option Nat} (h : Pair2 B sa ya la cha rba sb yb lb ch rb) : Pair2 B sb yb lb ch rb sa ya la cha rba :=
  ⟨h.ob, h.oa, fun z hz hz' => h.dis z hz' hz, h.lb, h.la⟩

set_option maxHeartbeats 6400000 in
set_option maxRecDepth 100000 in
theorem sapart_walk (A0 : Option Addr) (len0 cap0 : Nat) (A1 : Option Addr) (len1 cap1 : Nat) (w : World) (hC0 : DeedsAt w A0 len0) (hlen0 : len0 ≤ 9223372036854775807) (hC1 : DeedsAt w A1 len1) (hlen1 : len1 ≤ 9223372036854775807) :
    Calls Try.prog 7 #[.slice A0 len0 cap0, .slice A1 len1 cap1] w fun e w' => e = .returned (.bool true) ∧ Below w.heap.size w w' := by
  go_enter Try.func7, Try.ntmps7
  go_wp2_with fail
  refine (begin_any _).mono ?_
  rintro e w1 ⟨ba, sa, ya, la, ca, Xa, rfl, hA, ⟨hsa, hya, hba, hla⟩, hb1⟩
  have hw := hb1
  have hO := OwnB.start hsa hya
  clear hb1
  go_wp2_with fail
  refine (begin_any _).mono ?_
  rintro e w2 ⟨bb, sb, yb, lb, lc, Xs, rfl, hB, ⟨hsb, hyb, hbb, hlb⟩, hb1⟩
  have hsz := hw.size
  have hT : Pair2 w.heap.size sa ya la (fun _ => none) (fun _ => none) sb yb lb (fun _ => none) (fun _ => none) := by
    have t1 := hA.sto.top.lt
    have t2 := hA.ltl
    refine ⟨hO, OwnB.start (by omega) (by omega), fun z hz hz' => ?_, fun hz => ?_, fun hz => ?_⟩
    · have e1 := own_none hz
      have e2 := own_none hz'
      omega
    · have e1 := own_none hz
      omega
    · have e1 := own_none hz
      omega
  have hyy : yb ≠ ya := by have := hA.ref.top.lt; omega
  have hyy' : ya ≠ yb := by have := hA.ref.top.lt; omega
  replace hA := hA.below hb1
  replace hw := bel_call hw hb1
  clear hb1 hO hsa hya hba hla hsb hyb hbb hlb hsz
  have rda := hA.top.rd
  have lta := hA.top.lt
  have rdb := hB.top.rd
  have ltb := hB.top.lt
  go_wp2_with fail
  clear rda lta rdb ltb
  go_loopw [7] (fun s7 wr => ∃ (k : Nat) (cha rba : Nat → Option Nat) (na : Int) (La : List Itm) (Aa : Option Addr) (pa : Nat) (ch rb : Nat → Option Nat) (cnt : Int) (L : List Itm) (A' : Option Addr) (cap' : Nat), (k ≤ len0 ∨ k ≤ len1) ∧ s7 = .int .i64 k ∧
      BIs wr ba sa ya la ca Xa cha rba na La Aa pa ∧ BIs wr bb sb yb lb lc Xs ch rb cnt L A' cap' ∧ Pair2 w.heap.size sa ya la cha rba sb yb lb ch rb ∧ Below w.heap.size w wr)
    (fun s7 _ => len0 + len1 - (intOf s7).toNat)
  case atStart => exact ⟨0, _, _, _, _, _, _, _, _, _, _, _, _, by omega, rfl, hA, hB, hT, hw⟩
  case round =>
    obtain ⟨k, cha, rba, na, La, Aa, pa, ch, rb, cnt, L, A', cap', hk, rfl, hA, hB, hT, hW⟩ := hrel
    by_cases hk0 : k < len0
    · have hkb : k ≤ 9223372036854775806 := by omega
      obtain ⟨b1, o1, d0, d1, d2, d3, d4, d5, d6, d7, hA1, hb1, ⟨c0, c1, c2, c3, c4, c5, c6, c7⟩, r0, r1, r2, r3, r7⟩ := hC0 k hk0
      subst hA1
      replace c0 := (hW.cell hb1).trans c0
      replace c1 := (hW.cell hb1).trans c1
      replace c2 := (hW.cell hb1).trans c2
      replace c3 := (hW.cell hb1).trans c3
      replace c4 := (hW.cell hb1).trans c4
      replace c5 := (hW.cell hb1).trans c5
      replace c6 := (hW.cell hb1).trans c6
      replace c7 := (hW.cell hb1).trans c7
      go_wp2_with fail
      refine (does_any hA d0 d1 d2 d3 d4 d5 d6 d7 r0 r7 r3.2 r1.2 r2.1).mono ?_
      rintro e w3 ⟨rfl, cha', rba', na', La', Aa', pa', hA', hF, hO'⟩
      have hT' := hT.left hB.sto hB.ltl hW.size hO'
      replace hB := two_stay hA hB hF hT.dis hT.lb hyy
      replace hW := hF.bel hW (fun z hz => hT.oa z hz)
      clear c0 c1 c2 c3 c4 c5 c6 c7 hF hO' hA hT
      have hA := hA'
      have hT := hT'
      clear hA' hT'
      by_cases hk1 : k < len1
      · obtain ⟨b5, o5, d0, d1, d2, d3, d4, d5, d6, d7, hA5, hb5, ⟨c0, c1, c2, c3, c4, c5, c6, c7⟩, r0, r1, r2, r3, r7⟩ := hC1 k hk1
        subst hA5
        replace c0 := (hW.cell hb5).trans c0
        replace c1 := (hW.cell hb5).trans c1
        replace c2 := (hW.cell hb5).trans c2
        replace c3 := (hW.cell hb5).trans c3
        replace c4 := (hW.cell hb5).trans c4
        replace c5 := (hW.cell hb5).trans c5
        replace c6 := (hW.cell hb5).trans c6
        replace c7 := (hW.cell hb5).trans c7
        go_wp2_with fail
        refine (does_any hB d0 d1 d2 d3 d4 d5 d6 d7 r0 r7 r3.2 r1.2 r2.1).mono ?_
        rintro e w4 ⟨rfl, ch', rb', cnt', L', A2, cap2, hB', hF, hO'⟩
        have hT' := (hT.turn.left hA.sto hA.ltl hW.size hO').turn
        replace hA := two_stay hB hA hF hT.turn.dis hT.turn.lb hyy'
        replace hW := hF.bel hW (fun z hz => hT.ob z hz)
        clear c0 c1 c2 c3 c4 c5 c6 c7 hF hO' hB hT
        have hB := hB'
        have hT := hT'
        clear hB' hT'
        go_wp2_with fail
        go_roundw
        case rel => exact ⟨k + 1, _, _, _, _, _, _, _, _, _, _, _, _, by omega, by go_num, hA, hB, hT, hW⟩
        case measure => simp [intOf]; omega
      · go_wp2_with fail
        go_roundw
        case rel => exact ⟨k + 1, _, _, _, _, _, _, _, _, _, _, _, _, by omega, by go_num, hA, hB, hT, hW⟩
        case measure => simp [intOf]; omega
    · by_cases hk1 : k < len1
      · have hkb : k ≤ 9223372036854775806 := by omega
        obtain ⟨b5, o5, d0, d1, d2, d3, d4, d5, d6, d7, hA5, hb5, ⟨c0, c1, c2, c3, c4, c5, c6, c7⟩, r0, r1, r2, r3, r7⟩ := hC1 k hk1
        subst hA5
        replace c0 := (hW.cell hb5).trans c0
        replace c1 := (hW.cell hb5).trans c1
        replace c2 := (hW.cell hb5).trans c2
        replace c3 := (hW.cell hb5).trans c3
        replace c4 := (hW.cell hb5).trans c4
        replace c5 := (hW.cell hb5).trans c5
        replace c6 := (hW.cell hb5).trans c6
        replace c7 := (hW.cell hb5).trans c7
        go_wp2_with fail
        refine (does_any hB d0 d1 d2 d3 d4 d5 d6 d7 r0 r7 r3.2 r1.2 r2.1).mono ?_
        rintro e w4 ⟨rfl, ch', rb', cnt', L', A2, cap2, hB', hF, hO'⟩
        have hT' := (hT.turn.left hA.sto hA.ltl hW.size hO').turn
        replace hA := two_stay hB hA hF hT.turn.dis hT.turn.lb hyy'
        replace hW := hF.bel hW (fun z hz => hT.ob z hz)
        clear c0 c1 c2 c3 c4 c5 c6 c7 hF hO' hB hT
        have hB := hB'
        have hT := hT'
        clear hB' hT'
        go_wp2_with fail
        go_roundw
        case rel => exact ⟨k + 1, _, _, _, _, _, _, _, _, _, _, _, _, by omega, by go_num, hA, hB, hT, hW⟩
        case measure => simp [intOf]; omega
      · obtain rfl := hA.cnt_is
        obtain rfl := hB.cnt_is
        have rda := hA.top.gr
        have rdb := hB.top.gr
        have rya := hA.ref.top.gr
        have ryb := hB.ref.top.gr
        have cpa := hA.cap
        have cpb := hB.cap
        go_wp2_with fail
        refine wp_region_quiet_below (by kernel_rfl) (by kernel_rfl) ?_
        repeat (any_goals (first | go_big_quiet_step ((first | (go_at_call_of 16 (Value.pointer (some ⟨sa, 0, none⟩)); exact regrown_eq (scount_any _ (hA.sto.below (below_regrown _ _ _)))) | (go_at_call 16; exact regrown_eq (scount_any _ (hB.sto.below (below_regrown _ _ _)))) | (go_at_call 15; exact Calls.regrown_of (lives_any _)))) | fail))
        refine wpQuiet_nil ?_
        intro _ hw'
        obtain ⟨⟨dq, oq⟩, hw''⟩ := hw'
        subst hw''
        go_wp2_with fail
        go_ret
        exact ⟨rfl, hW.trans (by have := below_regrown wr dq oq; exact ⟨this.os, this.tape, this.output, this.size, fun q hq => this.block q (Nat.lt_of_lt_of_le hq hW.size)⟩)⟩
end Go.Proofs.Ytiiiiplfcaeegaa

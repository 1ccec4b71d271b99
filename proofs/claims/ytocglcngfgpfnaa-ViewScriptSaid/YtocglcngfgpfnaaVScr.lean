/-
  The walk of oriellaw22.ViewScript: it returns true, whatever the script and the bound. Conditions: the script's cells as said.
-/
import Derived.Test.YtocglcngfgpfnaaVPure
import Derived.Test.YtocglcngfgpfnaaHandles
namespace Go.Proofs.Ytocglcngfgpfnaa
attribute [local go_sem] Cls
open Go.ChangeShapes Go.WideShapes Go.ChangeAt Go.RowKit Go.Deep

/-- Both, in memory of their own. -/
structure Bth (B : Nat) (w : World) (vb yb : Nat) (most cnt : Int) (s : Nat → Vw) (L : List One) (A : Option Addr) (cap : Nat) : Prop where
  v : VIs w vb most cnt s
  i : SInv most cnt s
  r : RIs w yb B most L A cap
  k : LK most s cnt L
  bv : B ≤ vb
  br : B ≤ yb
section
variable {B : Nat} {w w' : World} {vb yb : Nat} {most cnt : Int} {s : Nat → Vw} {L : List One} {A : Option Addr} {cap : Nat}
theorem Bth.below (h : Bth B w vb yb most cnt s L A cap) (hb : Below w.heap.size w w') : Bth B w' vb yb most cnt s L A cap :=
  { h with v := row_below h.v hb, r := h.r.below hb }
theorem Bth.ne (h : Bth B w vb yb most cnt s L A cap) : vb ≠ yb := by
  obtain ⟨c, e, _⟩ := h.v
  exact ty_ne e h.r.top (by decide)
theorem Bth.nog (h : Bth B w vb yb most cnt s L A cap) : ∀ g, (Value.slice A L.length cap).ownBlock = some g → vb ≠ g := fun g hg => by
  obtain ⟨c, e, _⟩ := h.v
  obtain ⟨cur, e2⟩ := h.r.lst.type g hg
  exact ty_ne e e2 (by decide)
theorem Bth.lenb (h : Bth B w vb yb most cnt s L A cap) : L.length ≤ 16 := by
  have := h.i.bound
  have := h.k.num
  omega
/-- The program's has turned. -/
theorem Bth.left (h : Bth B w vb yb most cnt s L A cap) (hg : w.grownBy w' (some vb)) : RIs w' yb B most L A cap :=
  ⟨h.r.top.grown hg h.ne.symm, h.r.lst.grown hg (fun g hg' e => h.nog g hg' (by injection e))⟩
theorem rrect_all (h : Bth B w vb yb most cnt s L A cap) (hh : Int) :
    Calls Try.prog 19 #[.pointer (some ⟨yb, 0, none⟩), .int .i64 hh] w fun e w' =>
      e = .returned (.tuple #[.agg #[.int .i64 (rectv most s hh).r, .int .i64 (rectv most s hh).c, .int .i64 (rectv most s hh).m, .int .i64 (rectv most s hh).n], .int .i64 (gcode most s hh)]) ∧ Below w.heap.size w w' := by
  unfold rectv gcode
  cases ho : isOpen most s hh with
  | false => exact rrect_no hh w h.r (h.k.no_ ho)
  | true =>
    obtain ⟨i, x, hx, he, hno⟩ := h.k.yes_ ho
    have hr := isOpen_range ho
    have hg := h.i.good hh.toNat (by rw [show ((hh.toNat : Nat) : Int) = hh by omega]; exact ho)
    have hxa := (h.k.all x (List.mem_of_getElem? hx)).2
    rw [he] at hxa
    rw [hxa] at hg ⊢
    have hb := mayB_true hg.1
    exact rrect_yes hh i w h.r hx he hno (by simpa using ⟨hb.1, hb.2.1⟩) (by simpa using hb.2.2) (by simpa using ⟨hg.2.1, hg.2.2.2.1⟩) (by simpa using ⟨hg.2.2.1, hg.2.2.2.2⟩)
end

/-! Each deed, whatever comes. -/
def mcode (most : Int) (s : Nat → Vw) (hd r c : Int) : Int := if mayB r c = true then (if isOpen most s hd = true then 0 else 4) else 3
def msOf (most : Int) (s : Nat → Vw) (hd r c : Int) : Nat → Vw := if mayB r c = true ∧ isOpen most s hd = true then upd s hd.toNat { s hd.toNat with r := r, c := c } else s
def ccode (most : Int) (s : Nat → Vw) (hd : Int) : Int := if isOpen most s hd = true then 0 else 4
def csOf (most : Int) (s : Nat → Vw) (hd : Int) : Nat → Vw := if isOpen most s hd = true then upd s hd.toNat ⟨0, 0, 0, 0⟩ else s
def ccOf (most cnt : Int) (s : Nat → Vw) (hd : Int) : Int := if isOpen most s hd = true then cnt - 1 else cnt

section
variable {B : Nat} {w w' : World} {vb yb : Nat} {most cnt : Int} {s : Nat → Vw} {L : List One} {A : Option Addr} {cap : Nat}
theorem vmove_all (hd r c : Int) (hR : VIs w vb most cnt s) (hI : SInv most cnt s) :
    Calls Try.prog 13 #[.pointer (some ⟨vb, 0, none⟩), .int .i64 hd, .agg #[.int .i64 r, .int .i64 c]] w fun e w' => e = .returned (.int .i64 (mcode most s hd r c)) ∧ VIs w' vb most cnt (msOf most s hd r c) ∧ SInv most cnt (msOf most s hd r c) ∧ w.grownBy w' (some vb) := by
  unfold mcode msOf
  cases hm : mayB r c with
  | false =>
    refine (move_addr vb hd r c w hm).mono ?_
    rintro e w' ⟨rfl, hb⟩
    exact ⟨rfl, by simpa using row_below hR hb, by simpa using hI, grown_of_below hb _⟩
  | true =>
    cases ho : isOpen most s hd with
    | false =>
      refine (move_no vb most cnt s hd r c w hR hI.hm.2 hm ho).mono ?_
      rintro e w' ⟨rfl, hb⟩
      exact ⟨rfl, by simpa using row_below hR hb, by simpa using hI, grown_of_below hb _⟩
    | true =>
      refine (move_yes vb most cnt s hd r c w hR hI.hm.2 hm ho).mono ?_
      rintro e w' ⟨rfl, h1, h2⟩
      exact ⟨rfl, by simpa using h1, by simpa using hI.moved hm ho, h2⟩
theorem rmove_all (hd r c : Int) (h : RIs w yb B most L A cap) (hk : LK most s cnt L) :
    Calls Try.prog 16 #[.pointer (some ⟨yb, 0, none⟩), .int .i64 hd, .agg #[.int .i64 r, .int .i64 c]] w fun e w' => e = .returned (.int .i64 (mcode most s hd r c)) ∧
      ∃ L', RIs w' yb B most L' A cap ∧ LK most (msOf most s hd r c) cnt L' ∧ Frm (fun z => A = some ⟨z, 0, none⟩) w w' := by
  unfold mcode msOf
  cases hm : mayB r c with
  | false =>
    refine (rmove_addr yb hd r c w hm).mono ?_
    rintro e w' ⟨rfl, hb⟩
    exact ⟨rfl, L, h.below hb, by simpa using hk, Frm.of_below hb⟩
  | true =>
    cases ho : isOpen most s hd with
    | false =>
      refine (rmove_no hd r c w h hm (hk.no_ ho)).mono ?_
      rintro e w' ⟨rfl, hb⟩
      exact ⟨rfl, L, h.below hb, by simpa using hk, Frm.of_below hb⟩
    | true =>
      obtain ⟨i, x, hx, he, hno⟩ := hk.yes_ ho
      obtain ⟨g, hA, _⟩ := h.at_ hx
      refine (rmove_yes hd r c i w h hm hx he hno).mono ?_
      rintro e w' ⟨rfl, h1, h2⟩
      subst he
      exact ⟨rfl, _, h1, by simpa using hk.moved hx r c, (Frm.refl _ w).grown (h2 g hA) (fun z hz => by injection hz with hz; subst hz; exact .inl hA)⟩
theorem vclose_all (hd : Int) (hR : VIs w vb most cnt s) (hI : SInv most cnt s) :
    Calls Try.prog 17 #[.pointer (some ⟨vb, 0, none⟩), .int .i64 hd] w fun e w' => e = .returned (.int .i64 (ccode most s hd)) ∧ VIs w' vb most (ccOf most cnt s hd) (csOf most s hd) ∧ SInv most (ccOf most cnt s hd) (csOf most s hd) ∧ w.grownBy w' (some vb) := by
  unfold ccode csOf ccOf
  have hb := hI.bound
  cases ho : isOpen most s hd with
  | false =>
    refine (close_no vb most cnt s hd w hR hI.hm.2 ho).mono ?_
    rintro e w' ⟨rfl, rfl⟩
    exact ⟨rfl, by simpa using hR, by simpa using hI, grown_refl _ _⟩
  | true =>
    refine (close_yes vb most cnt s hd w hR hI.hm.2 ⟨hb.1, hb.2.2⟩ ho).mono ?_
    rintro e w' ⟨rfl, h1, h2⟩
    exact ⟨rfl, by simpa using h1, by simpa using hI.closed ho, h2⟩
theorem rclose_all (hd : Int) (h : RIs w yb B most L A cap) (hk : LK most s cnt L) (hL : L.length ≤ 16) (hBw : B ≤ w.heap.size) :
    Calls Try.prog 18 #[.pointer (some ⟨yb, 0, none⟩), .int .i64 hd] w fun e w' => e = .returned (.int .i64 (ccode most s hd)) ∧
      (∃ L' A' cap', RIs w' yb B most L' A' cap' ∧ LK most (csOf most s hd) (ccOf most cnt s hd) L') ∧ w.grownBy w' (some yb) := by
  unfold ccode csOf ccOf
  cases ho : isOpen most s hd with
  | false =>
    refine (rclose_no hd w h (hk.no_ ho)).mono ?_
    rintro e w' ⟨rfl, rfl⟩
    exact ⟨rfl, ⟨L, A, cap, h, by simpa using hk⟩, grown_refl _ _⟩
  | true =>
    obtain ⟨i, x, hx, he, hno⟩ := hk.yes_ ho
    refine (rclose_yes hd i w h hL hBw hx he hno).mono ?_
    rintro e w' ⟨rfl, ⟨A', cap', h1⟩, h2⟩
    subst he
    exact ⟨rfl, ⟨_, A', cap', h1, by simpa using hk.closed hx⟩, h2⟩
end

set_option maxHeartbeats 6400000 in
set_option maxRecDepth 100000 in
theorem script_walk (A : Option Addr) (len cap : Nat) (ops : Nat → OpV) (most : Int) (w : World) (hS : ScriptAt w A len ops) (hlen : len ≤ 9223372036854775807) (hm : 1 ≤ most ∧ most ≤ 16) :
    Calls Try.prog 4 #[.slice A len cap, .int .i64 most] w fun e w' => e = .returned (.bool true) ∧ Below w.heap.size w w' := by
  go_enter Try.func4, Try.ntmps4
  go_wp2_with fail
  refine (new_ex most _ hm.1 hm.2).mono ?_
  rintro e w1 ⟨vb, hvb, rfl, hV, hb1⟩
  have hw := hb1
  clear hb1
  go_wp2_with fail
  refine (rnew_yes w.heap.size most _ hm.1 hm.2).mono ?_
  rintro e w2 ⟨yb, hyb, rfl, hY, hb1⟩
  have hB : Bth w.heap.size w2 vb yb most 0 F0 [] none 0 := ⟨row_below hV hb1, SInv.new most hm, hY, LK.new most, hvb, Nat.le_trans hw.size hyb⟩
  replace hw := bel_call hw hb1
  clear hb1 hV hY
  go_wp2_with fail
  refine (known_any _).mono ?_
  rintro e w3 ⟨rfl, hb1⟩
  replace hB := hB.below hb1
  replace hw := bel_call hw hb1
  clear hb1
  go_wp2_with fail
  go_loopg [9] len (fun g s9 wr => ∃ (k : Nat) (cnt : Int) (s : Nat → Vw) (L : List One) (A' : Option Addr) (cap' : Nat), k ≤ len ∧ g = len - k ∧ s9 = .int .i64 k ∧ Bth w.heap.size wr vb yb most cnt s L A' cap' ∧ Below w.heap.size w wr)
  case atStart => exact ⟨0, 0, F0, [], none, 0, Nat.zero_le _, rfl, rfl, hB, hw⟩
  case round =>
    obtain ⟨k, cnt, s, L, A', cap', hk, rfl, rfl, hB, hW⟩ := hrel
    clear hw
    by_cases hkl : k < len
    · obtain ⟨b, off, hA, hb, e0, e1, e2, e3, e4, e5⟩ := hS k hkl
      subst hA
      obtain ⟨kd, hd, ar, ac, br, bc, hop⟩ : ∃ kd hd ar ac br bc, ops k = ⟨kd, hd, ar, ac, br, bc⟩ := ⟨_, _, _, _, _, _, rfl⟩
      rw [hop] at e0 e1 e2 e3 e4 e5
      clear hop
      dsimp only at e0 e1 e2 e3 e4 e5
      have q0 := (hW.cell hb).trans e0
      have q1 := (hW.cell hb).trans e1
      have q2 := (hW.cell hb).trans e2
      have q3 := (hW.cell hb).trans e3
      have q4 := (hW.cell hb).trans e4
      have q5 := (hW.cell hb).trans e5
      go_upto_block 2 with fail
      go_cut [11] (fun s11 wx => ∃ (cnt2 : Int) (s2 : Nat → Vw) (L2 : List One) (A2 : Option Addr) (cap2 : Nat), s11 = .bool true ∧ Bth w.heap.size wx vb yb most cnt2 s2 L2 A2 cap2 ∧ Below w.heap.size w wx)
      case first =>
        have hvlt := hB.v.lt
        have hylt := hB.r.top.lt
        have hglt : ∀ g, A' = some ⟨g, 0, none⟩ → g < wr.heap.size ∧ vb ≠ g := fun g hg => by
          subst hg
          exact ⟨(hB.r.lst.lt g rfl).2, hB.nog g rfl⟩
        have hB1 := hB.below (bel_alloc (bel_refl wr) (.cells #[.int .i64 kd, .int .i64 hd, .int .i64 ar, .int .i64 ac, .int .i64 br, .int .i64 bc] 45))
        have hW1 := bel_alloc hW (.cells #[.int .i64 kd, .int .i64 hd, .int .i64 ar, .int .i64 ac, .int .i64 br, .int .i64 bc] 45)
        have k10 := Blk.new wr rfl 45 #[.int .i64 kd, .int .i64 hd, .int .i64 ar, .int .i64 ac, .int .i64 br, .int .i64 bc]
        have hBw : w.heap.size ≤ wr.heap.size := hW.size
        have hyv := hB.ne
        clear q0 q1 q2 q3 q4 q5 hB hW
        by_cases h0 : kd = 0
        · subst h0
          by_cases hmm : mayB ar ac = false ∨ mayB br bc = false
          · go_wp2_with fail
            refine (vopen_addr _ _ _ _ _ _ hmm).mono ?_
            rintro e w5 ⟨rfl, hb5⟩
            have hB5 := hB1.below hb5
            have k5 := k10.below hb5
            have rd5 := k5.rd
            have hW5 := bel_call hW1 hb5
            go_wp2_with fail
            refine (ropen_addr _ _ _ _ _ _ hmm).mono ?_
            rintro e w6 ⟨rfl, hb6⟩
            have hB6 := hB5.below hb6
            have hW6 := bel_call hW5 hb6
            clear hmm
            go_wp2_with fail
            go_meet
            case rel => exact ⟨cnt, s, L, A', cap', rfl, hB6, hW6⟩
          · have hm1 : mayB ar ac = true := by
              cases h : mayB ar ac
              · exact absurd (.inl h) hmm
              · rfl
            have hm2 : mayB br bc = true := by
              cases h : mayB br bc
              · exact absurd (.inr h) hmm
              · rfl
            clear hmm
            have hbd := hB1.i.bound
            have hnum := hB1.k.num
            rcases first_free most s (by omega) with ⟨n, hn, hno, hlow⟩ | hall
            · have HNO := Lib.hid hno
              have HLOW := Lib.hid hlow
              have HM1 := Lib.hid hm1
              have HM2 := Lib.hid hm2
              have hfree : (L.length : Int) < most := by
                have h1 := hB1.i.opened hm1 hm2 n hn hno
                have := h1.bound
                omega
              clear hno hlow hm1 hm2
              go_wp2_with fail
              refine (vopen_yes vb most cnt s ar ac br bc _ hB1.v hm.2 ⟨hbd.1, hbd.2.2⟩ HM1.out HM2.out n hn HNO.out HLOW.out).mono ?_
              rintro e w5 ⟨rfl, hV5, hg5⟩
              have hI5 := hB1.i.opened HM1.out HM2.out n hn HNO.out
              have hR5 := hB1.left hg5
              have hW5 := bel_grown hW1 hg5 (fun z hz => by injection hz with hz; subst hz; exact hB1.bv)
              have k5 := k10.grown hg5 (by omega)
              have rd5 := k5.rd
              go_wp2_with fail
              refine (ropen_yes ar ac br bc _ hR5 (Nat.le_trans hBw (Nat.le_trans (by simp) hg5.size)) hm.2 hfree HM1.out HM2.out n hn (fun j hj => hB1.k.cov _ (HLOW.out j hj)) (hB1.k.no_ HNO.out)).mono ?_
              rintro e w6 ⟨rfl, A6, cap6, hR6, hF6⟩
              have b1 := mayB_true HM1.out
              have b2 := mayB_true HM2.out
              have hK6 := hB1.k.opened n hn HNO.out (r := min ar br) (c := min ac bc) (m := max ar br - min ar br + 1) (k := max ac bc - min ac bc + 1) (by omega)
              have hV6 := hF6.row hV5 (fun h => h.elim (fun h => hyv h) (fun h => (hglt _ h).2 rfl))
              have hW6 := hF6.bel hW5 (fun z hz => hz.elim (fun h => by subst h; exact hB1.br) (fun h => hB1.r.far _ h))
              clear hfree hbd hnum b1 b2
              go_wp2_with fail
              go_meet
              case rel => exact ⟨_, _, _, A6, cap6, rfl, ⟨hV6, hI5, hR6, hK6, hB1.bv, hB1.br⟩, hW6⟩
            · have HALL := Lib.hid hall
              have hfull : most ≤ (L.length : Int) := by
                have h1 := ocount_full most s hall (by omega) 18 (by omega)
                have h2 := hB1.i.hc
                omega
              clear hall
              go_wp2_with fail
              refine (vopen_full vb most cnt s ar ac br bc _ hB1.v hm.2 hm1 hm2 HALL.out (by omega)).mono ?_
              rintro e w5 ⟨rfl, hb5⟩
              have hB5 := hB1.below hb5
              have k5 := k10.below hb5
              have rd5 := k5.rd
              have hW5 := bel_call hW1 hb5
              go_wp2_with fail
              refine (ropen_full ar ac br bc _ hB5.r hfull hm1 hm2).mono ?_
              rintro e w6 ⟨rfl, hb6⟩
              have hB6 := hB5.below hb6
              have hW6 := bel_call hW5 hb6
              clear hfull hbd hnum
              go_wp2_with fail
              go_meet
              case rel => exact ⟨cnt, s, L, A', cap', rfl, hB6, hW6⟩
        · by_cases h1 : kd = 1
          · subst h1
            clear h0
            obtain ⟨S, hSS⟩ : ∃ S : World → Prop, S = fun w' => Blk w' wr.heap.size 45 #[.int .i64 1, .int .i64 hd, .int .i64 ar, .int .i64 ac, .int .i64 br, .int .i64 bc] := ⟨_, rfl⟩
            have s10 := fun x => (held_of hSS x).rd
            have HSS := Lib.hid hSS
            clear hSS
            have hBd := hB1.below (bel_drew (bel_refl _))
            have hWd := bel_drew hW1
            go_wp2_with fail
            have hS0 := held_in HSS.out k10.drew
            haveI : Nonempty (Held S) := ⟨⟨_, hS0⟩⟩
            refine wp_region_plan (S := S) 14 [(0, true), (1, true), (2, true), (3, true), (4, true), (6, true), (7, true), (8, true), (9, true), (10, true), (5, false), (11, false), (12, true), (13, true)] [] (by kernel_rfl) (by kernel_rfl) hS0 ?_
            repeat (refine plan_q (by rfl) (by rfl) (fun K hK => ?_); go_simp; refine hK _ ?_; clear hK K)
            refine plan_a (by rfl) (by rfl) (fun K hK => ?_)
            go_simp
            refine (vmove_all hd ar ac hBd.v hBd.i).mono ?_
            rintro e w5 ⟨rfl, hV5, hI5, hg5⟩
            have hR5 := hBd.left hg5
            have hW5 := bel_grown hWd hg5 (fun z hz => by injection hz with hz; subst hz; exact hB1.bv)
            have k5 := k10.drew.grown hg5 (by omega)
            refine hK _ _ (held_in HSS.out k5) ?_
            clear hK K
            refine plan_a (by rfl) (by rfl) (fun K hK => ?_)
            go_simp
            refine (rmove_all hd ar ac hR5 hBd.k).mono ?_
            rintro e w6 ⟨rfl, L6, hR6, hK6, hF6⟩
            refine hK _ _ (held_in HSS.out (hF6.blk k5 (fun h => by have := (hglt _ h).1; omega))) ?_
            have hV6 := hF6.row hV5 (fun h => (hglt _ h).2 rfl)
            have hW6 := hF6.bel hW5 (fun z hz => hB1.r.far _ hz)
            clear hK K
            repeat (refine plan_q (by rfl) (by rfl) (fun K hK => ?_); go_simp; refine hK _ ?_; clear hK K)
            refine plan_nil ?_
            go_wp2_with fail
            go_meet
            case rel => exact ⟨cnt, _, L6, A', cap', rfl, ⟨hV6, hI5, hR6, hK6, hB1.bv, hB1.br⟩, hW6⟩
          · by_cases h2 : kd = 2
            · subst h2
              clear h0 h1
              obtain ⟨S, hSS⟩ : ∃ S : World → Prop, S = fun w' => Blk w' wr.heap.size 45 #[.int .i64 2, .int .i64 hd, .int .i64 ar, .int .i64 ac, .int .i64 br, .int .i64 bc] := ⟨_, rfl⟩
              have s10 := fun x => (held_of hSS x).rd
              have HSS := Lib.hid hSS
              clear hSS
              have hBd := hB1.below (bel_drew (bel_refl _))
              have hWd := bel_drew hW1
              go_wp2_with fail
              have hS0 := held_in HSS.out k10.drew
              haveI : Nonempty (Held S) := ⟨⟨_, hS0⟩⟩
              refine wp_region_plan (S := S) 10 [(0, true), (1, true), (2, true), (4, true), (5, true), (6, true), (3, false), (7, false), (8, true), (9, true)] [] (by kernel_rfl) (by kernel_rfl) hS0 ?_
              repeat (refine plan_q (by rfl) (by rfl) (fun K hK => ?_); go_simp; refine hK _ ?_; clear hK K)
              refine plan_a (by rfl) (by rfl) (fun K hK => ?_)
              go_simp
              refine (vclose_all hd hBd.v hBd.i).mono ?_
              rintro e w5 ⟨rfl, hV5, hI5, hg5⟩
              have hR5 := hBd.left hg5
              have hW5 := bel_grown hWd hg5 (fun z hz => by injection hz with hz; subst hz; exact hB1.bv)
              have k5 := k10.drew.grown hg5 (by omega)
              refine hK _ _ (held_in HSS.out k5) ?_
              clear hK K
              refine plan_a (by rfl) (by rfl) (fun K hK => ?_)
              go_simp
              refine (rclose_all hd hR5 hBd.k hBd.lenb (Nat.le_trans hBw (Nat.le_trans (by simp) hg5.size))).mono ?_
              rintro e w6 ⟨rfl, ⟨L6, A6, cap6, hR6, hK6⟩, hg6⟩
              refine hK _ _ (held_in HSS.out (k5.grown hg6 (by omega))) ?_
              have hV6 := row_grown hV5 hg6 hyv
              have hW6 := bel_grown hW5 hg6 (fun z hz => by injection hz with hz; subst hz; exact hB1.br)
              clear hK K
              repeat (refine plan_q (by rfl) (by rfl) (fun K hK => ?_); go_simp; refine hK _ ?_; clear hK K)
              refine plan_nil ?_
              go_wp2_with fail
              go_meet
              case rel => exact ⟨_, _, L6, A6, cap6, rfl, ⟨hV6, hI5, hR6, hK6, hB1.bv, hB1.br⟩, hW6⟩
            · by_cases h3 : kd = 3
              · subst h3
                clear h0 h1 h2
                go_wp2_with fail
                refine (rect_any vb most cnt s hd _ hB1.v hB1.i).mono ?_
                rintro e w5 ⟨rfl, hb5⟩
                have hB5 := hB1.below hb5
                have k5 := k10.below hb5
                have hW5 := bel_call hW1 hb5
                obtain ⟨ra, rb, rc, rd, hrv⟩ : ∃ ra rb rc rd, rectv most s hd = ⟨ra, rb, rc, rd⟩ := ⟨_, _, _, _, rfl⟩
                obtain ⟨gc, hgc⟩ : ∃ gc, gcode most s hd = gc := ⟨_, rfl⟩
                have HRV := Lib.hid hrv
                have HGC := Lib.hid hgc
                rw [hrv, hgc]
                clear hrv hgc
                dsimp only
                have k5a := k5.alloc (.cells #[.int .i64 ra, .int .i64 rb, .int .i64 rc, .int .i64 rd] 34)
                have k16 := Blk.new w5 rfl 34 #[.int .i64 ra, .int .i64 rb, .int .i64 rc, .int .i64 rd]
                have hB5a := hB5.below (bel_alloc (bel_refl w5) (.cells #[.int .i64 ra, .int .i64 rb, .int .i64 rc, .int .i64 rd] 34))
                have hW5a := bel_alloc hW5 (.cells #[.int .i64 ra, .int .i64 rb, .int .i64 rc, .int .i64 rd] 34)
                have rd5 := k5.rd
                have lt5 := k5.lt
                go_wp2_with fail
                refine (rrect_all hB5a hd).mono ?_
                rintro e w6 ⟨rfl, hb6⟩
                rw [HRV.out, HGC.out]
                dsimp only
                have hB6 := hB5a.below hb6
                have k16b := k16.below hb6
                have rd16 := k16b.rd
                have lt16 := k16b.lt
                have hW6 := bel_call hW5a hb6
                have hB6a := hB6.below (bel_alloc (bel_refl w6) (.cells #[.int .i64 ra, .int .i64 rb, .int .i64 rc, .int .i64 rd] 34))
                have hW6a := bel_alloc hW6 (.cells #[.int .i64 ra, .int .i64 rb, .int .i64 rc, .int .i64 rd] 34)
                go_wp2_with fail
                go_meet
                case rel => exact ⟨cnt, s, L, A', cap', rfl, hB6a, hW6a⟩
              · have h0' : (kd == 0) = false := by simpa using h0
                have h1' : (kd == 1) = false := by simpa using h1
                have h2' : (kd == 2) = false := by simpa using h2
                have h3' : (kd == 3) = false := by simpa using h3
                clear h0 h1 h2 h3
                go_wp2_with fail
                go_meet
                case rel => exact ⟨cnt, s, L, A', cap', rfl, hB1, hW1⟩
      case rest =>
        obtain ⟨cnt2, s2, L2, A2, cap2, rfl, hB2, hW2⟩ := hcut
        clear hB hW q0 q1 q2 q3 q4 q5
        have hnum := hB2.k.num
        obtain rfl := hnum
        have hlb := hB2.lenb
        go_wp2_with fail
        refine (count_any vb most L2.length s2 _ hB2.v).mono ?_
        rintro e w7 ⟨rfl, rfl⟩
        go_wp2_with fail
        refine (rcount_any _ hB2.r).mono ?_
        rintro e w8 ⟨rfl, rfl⟩
        go_wp2_with fail
        go_loopw [20] (fun s20 wx => ∃ j : Nat, j ≤ 18 ∧ s20 = .int .i64 j ∧ Bth w.heap.size wx vb yb most L2.length s2 L2 A2 cap2 ∧ Below w.heap.size w wx) (fun s20 _ => 18 - (intOf s20).toNat)
        case atStart => exact ⟨0, by omega, rfl, hB2, hW2⟩
        case round =>
          obtain ⟨j, hj, rfl, hB3, hW3⟩ := hrel
          clear hB2 hW2
          by_cases hj18 : j < 18
          · go_wp2_with fail
            refine (rect_any vb most _ s2 j _ hB3.v hB3.i).mono ?_
            rintro e w5 ⟨rfl, hb5⟩
            have hB5 := hB3.below hb5
            have hW5 := bel_call hW3 hb5
            obtain ⟨ra, rb, rc, rd, hrv⟩ : ∃ ra rb rc rd, rectv most s2 j = ⟨ra, rb, rc, rd⟩ := ⟨_, _, _, _, rfl⟩
            obtain ⟨gc, hgc⟩ : ∃ gc, gcode most s2 j = gc := ⟨_, rfl⟩
            have HRV := Lib.hid hrv
            have HGC := Lib.hid hgc
            rw [hrv, hgc]
            clear hrv hgc
            dsimp only
            have k16 := Blk.new w5 rfl 34 #[.int .i64 ra, .int .i64 rb, .int .i64 rc, .int .i64 rd]
            have hB5a := hB5.below (bel_alloc (bel_refl w5) (.cells #[.int .i64 ra, .int .i64 rb, .int .i64 rc, .int .i64 rd] 34))
            have hW5a := bel_alloc hW5 (.cells #[.int .i64 ra, .int .i64 rb, .int .i64 rc, .int .i64 rd] 34)
            go_wp2_with fail
            refine (rrect_all hB5a j).mono ?_
            rintro e w6 ⟨rfl, hb6⟩
            rw [HRV.out, HGC.out]
            dsimp only
            have hB6 := hB5a.below hb6
            have k16b := k16.below hb6
            have rd16 := k16b.rd
            have lt16 := k16b.lt
            have hW6 := bel_call hW5a hb6
            have hB6a := hB6.below (bel_alloc (bel_refl w6) (.cells #[.int .i64 ra, .int .i64 rb, .int .i64 rc, .int .i64 rd] 34))
            have hW6a := bel_alloc hW6 (.cells #[.int .i64 ra, .int .i64 rb, .int .i64 rc, .int .i64 rd] 34)
            go_wp2_with fail
            go_roundw
            case rel => exact ⟨j + 1, by omega, by go_num, hB6a, hW6a⟩
            case measure => simp [intOf]; omega
          · go_wp2_with fail
            go_roundg (len - (k + 1))
            case measure => omega
            case rel => exact ⟨k + 1, _, s2, L2, A2, cap2, by omega, rfl, by go_num, hB3, hW3⟩
    · go_wp2_with fail
      go_ret
      exact ⟨rfl, hW⟩

set_option maxRecDepth 100000 in
theorem script_bad (A : Option Addr) (len cap : Nat) (most : Int) (w : World) (hm : most < 1 ∨ 16 < most) :
    Calls Try.prog 4 #[.slice A len cap, .int .i64 most] w fun e w' => e = .returned (.bool true) ∧ Below w.heap.size w w' := by
  have HM := Lib.hid hm
  clear hm
  go_enter Try.func4, Try.ntmps4
  go_wp2_with fail
  refine (new_no most _ HM.out).mono ?_
  rintro e w1 ⟨rfl, rfl⟩
  go_wp2_with fail
  refine (rnew_no most _ HM.out).mono ?_
  rintro e w2 ⟨rfl, rfl⟩
  go_wp2_with fail
  refine (known_any _).mono ?_
  rintro e w3 ⟨rfl, hb1⟩
  go_wp2_with fail
  go_ret
  exact ⟨rfl, hb1⟩
end Go.Proofs.Ytocglcngfgpfnaa

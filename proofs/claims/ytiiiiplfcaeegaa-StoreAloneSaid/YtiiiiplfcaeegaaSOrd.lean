/-
  The walk of oriellaw15.StoreOrder: it returns true, whatever the cells and the rectangle. Conditions: the cells lie as said; the rectangle's numbers are 64-bit integers.
-/
import Derived.Test.YtiiiiplfcaeegaaSto5
namespace Go.Proofs.Ytiiiiplfcaeegaa
open Go.ChangeShapes Go.WideShapes Go.ChangeAt Go.RowKit Go.Deep

/-- A list of cells lies so in memory. -/
def CellsAt (w : World) (A : Option Addr) (len : Nat) (cr cc : Nat → Int) : Prop :=
  ∀ k, k < len → ∃ b off, A = some ⟨b, off, none⟩ ∧ b < w.heap.size ∧ w.cell? ⟨b, off + k * 2, none⟩ = some (.int .i64 (cr k)) ∧ w.cell? ⟨b, off + k * 2 + 1, none⟩ = some (.int .i64 (cc k))

/-- The contents behind k puts. -/
def putsG (x : Addr) (cr cc : Nat → Int) : Nat → Grid
  | 0 => fun _ _ => none
  | k + 1 => putG (putsG x cr cc k) (cr k) (cc k) x

open Classical in
theorem putsG_at (x : Addr) (cr cc : Nat → Int) (q d : Nat) : ∀ k, putsG x cr cc k q d = if ∃ j, j < k ∧ mayB (cr j) (cc j) = true ∧ cr j = (q : Int) + 1 ∧ cc j = (d : Int) + 1 then some x else none
  | 0 => by
    rw [if_neg (by rintro ⟨j, hj, _⟩; omega)]
    rfl
  | k + 1 => by
    have ih := putsG_at x cr cc q d k
    show putG (putsG x cr cc k) (cr k) (cc k) x q d = _
    unfold putG
    by_cases hm : mayB (cr k) (cc k) = true
    · rw [if_pos hm]
      have b1 := mayB_true hm
      by_cases e : q = (cr k - 1).toNat ∧ d = (cc k - 1).toNat
      · obtain ⟨e1, e2⟩ := e
        rw [e1, e2, gset_same, if_pos ⟨k, by omega, hm, by omega, by omega⟩]
      · rw [gset_ne _ _ _ _ e, ih]
        by_cases h : ∃ j, j < k ∧ mayB (cr j) (cc j) = true ∧ cr j = (q : Int) + 1 ∧ cc j = (d : Int) + 1
        · obtain ⟨j, hj, hh⟩ := h
          rw [if_pos ⟨j, hj, hh⟩, if_pos ⟨j, by omega, hh⟩]
        · rw [if_neg h, if_neg]
          rintro ⟨j, hj, hh⟩
          by_cases ej : j = k
          · subst ej
            exact e ⟨by omega, by omega⟩
          · exact h ⟨j, by omega, hh⟩
    · rw [if_neg hm, ih]
      by_cases h : ∃ j, j < k ∧ mayB (cr j) (cc j) = true ∧ cr j = (q : Int) + 1 ∧ cc j = (d : Int) + 1
      · obtain ⟨j, hj, hh⟩ := h
        rw [if_pos ⟨j, hj, hh⟩, if_pos ⟨j, by omega, hh⟩]
      · rw [if_neg h, if_neg]
        rintro ⟨j, hj, hh⟩
        by_cases ej : j = k
        · subst ej
          exact hm hh.1
        · exact h ⟨j, by omega, hh⟩

/-- The order of the puts is not seen. -/
theorem putsG_turned (x : Addr) (cr cc : Nat → Int) (n : Nat) : putsG x (fun j => cr (n - 1 - j)) (fun j => cc (n - 1 - j)) n = putsG x cr cc n := by
  funext q d
  rw [putsG_at, putsG_at]
  by_cases h : ∃ j, j < n ∧ mayB (cr j) (cc j) = true ∧ cr j = (q : Int) + 1 ∧ cc j = (d : Int) + 1
  · obtain ⟨j, hj, hh⟩ := h
    have h2 : ∃ i, i < n ∧ mayB (cr (n - 1 - i)) (cc (n - 1 - i)) = true ∧ cr (n - 1 - i) = (q : Int) + 1 ∧ cc (n - 1 - i) = (d : Int) + 1 := ⟨n - 1 - j, by omega, by rw [show n - 1 - (n - 1 - j) = j by omega]; exact hh⟩
    rw [if_pos h2, if_pos ⟨j, hj, hh⟩]
  · rw [if_neg h, if_neg]
    rintro ⟨j, hj, hh⟩
    exact h ⟨n - 1 - j, by omega, hh⟩

/-- Two stores that know nothing of one another. -/
structure Two (B : Nat) (w : World) (sa sb : Nat) (chA rbA chB rbB : Nat → Option Nat) (gA gB : Grid) (cA cB : Int) : Prop where
  a : SIs w sa chA rbA gA cA
  b : SIs w sb chB rbB gB cB
  apart : ∀ z, own sa chA rbA z → ¬ own sb chB rbB z
  oa : ∀ z, own sa chA rbA z → B ≤ z
  ob : ∀ z, own sb chB rbB z → B ≤ z

section
variable {B : Nat} {w w' : World} {sa sb : Nat} {chA rbA chB rbB : Nat → Option Nat} {gA gB : Grid} {cA cB : Int}
theorem Two.below (h : Two B w sa sb chA rbA chB rbB gA gB cA cB) (hb : Below w.heap.size w w') : Two B w' sa sb chA rbA chB rbB gA gB cA cB :=
  { h with a := h.a.below hb, b := h.b.below hb }
theorem Two.alloc (h : Two B w sa sb chA rbA chB rbB gA gB cA cB) (o : Obj) : Two B (w.alloc o) sa sb chA rbA chB rbB gA gB cA cB := h.below (bel_alloc (bel_refl w) o)
theorem Two.far (h : Two B w sa sb chA rbA chB rbB gA gB cA cB) {b : Nat} (hb : ∀ z, own sa chA rbA z ∨ own sb chB rbB z → z < b) (o : Nat) (v : Value) : Two B (w.setCell ⟨b, o, none⟩ v) sa sb chA rbA chB rbB gA gB cA cB :=
  { h with
    a := h.a.keep fun z hz => Below.heap_setCell w ⟨b, o, none⟩ v z (by have := hb z (.inl hz); show z ≠ b; omega)
    b := h.b.keep fun z hz => Below.heap_setCell w ⟨b, o, none⟩ v z (by have := hb z (.inr hz); show z ≠ b; omega) }
theorem Two.setA {ch rb : Nat → Option Nat} {g : Grid} {c : Int} (h : Two B w sa sb chA rbA chB rbB gA gB cA cB) (hB : B ≤ w.heap.size) (hS : SIs w' sa ch rb g c) (hF : Frm (own sa chA rbA) w w')
    (hO : ∀ b, own sa ch rb b → own sa chA rbA b ∨ w.heap.size ≤ b) : Two B w' sa sb ch rb chB rbB g gB c cB := by
  refine ⟨hS, h.b.frm hF (fun z hz hz' => h.apart z hz' hz), fun z hz hz' => ?_, fun z hz => ?_, h.ob⟩
  · rcases hO z hz with h1 | h1
    · exact h.apart z h1 hz'
    · have := h.b.own_lt hz'; omega
  · rcases hO z hz with h1 | h1
    · exact h.oa z h1
    · omega
theorem Two.setB {ch rb : Nat → Option Nat} {g : Grid} {c : Int} (h : Two B w sa sb chA rbA chB rbB gA gB cA cB) (hB : B ≤ w.heap.size) (hS : SIs w' sb ch rb g c) (hF : Frm (own sb chB rbB) w w')
    (hO : ∀ b, own sb ch rb b → own sb chB rbB b ∨ w.heap.size ≤ b) : Two B w' sa sb chA rbA ch rb gA g cA c := by
  refine ⟨h.a.frm hF (fun z hz hz' => h.apart z hz hz'), hS, fun z hz hz' => ?_, h.oa, fun z hz => ?_⟩
  · rcases hO z hz' with h1 | h1
    · exact h.apart z hz h1
    · have := h.a.own_lt hz; omega
  · rcases hO z hz with h1 | h1
    · exact h.ob z h1
    · omega
end

/-- Where a walk stands: at the beginning, or at a cell. -/
def PosIs (p : Nat) (ax ay : Int) : Prop := (p = 0 ∧ ax = 0 ∧ ay = 0) ∨ ∃ q d : Nat, q < 4096 ∧ d < 256 ∧ ax = (q : Int) + 1 ∧ ay = (d : Int) + 1 ∧ p = q * 256 + d + 1
theorem PosIs.bd {p : Nat} {ax ay : Int} (h : PosIs p ax ay) : 0 ≤ ax ∧ ax ≤ 4096 ∧ 0 ≤ ay ∧ ay ≤ 256 ∧ p ≤ 1048576 := by
  rcases h with ⟨h1, h2, h3⟩ | ⟨q, d, h1, h2, h3, h4, h5⟩ <;> omega
theorem PosIs.next {p : Nat} {ax ay t l b r : Int} {g : Grid} {q d : Nat} (h : PosIs p ax ay) (hh : hit g t l b r ax ay q d) : PosIs (q * 256 + d + 1) ((q : Int) + 1) ((d : Int) + 1) ∧ p < q * 256 + d + 1 := by
  have h1 := hh.1
  have h2 := hh.2.1
  have h3 := hh.2.2.2.2
  refine ⟨.inr ⟨q, d, h1, h2, rfl, rfl, rfl⟩, ?_⟩
  rcases h with ⟨e1, e2, e3⟩ | ⟨q', d', e1, e2, e3, e4, e5⟩
  · omega
  · rcases h3 with h3 | ⟨h3, h4⟩ <;> omega

theorem eql_int_self (n : Int) : (n == n) = true := by simp

set_option maxHeartbeats 3200000 in
set_option maxRecDepth 100000 in
theorem order_walk (A : Option Addr) (len cap : Nat) (cr cc : Nat → Int) (t l b r : Int) (w : World) (hC : CellsAt w A len cr cc) (hlen : len ≤ 9223372036854775807) (bt : t ≤ 9223372036854775807) :
    Calls Try.prog 4 #[.slice A len cap, .agg #[.int .i64 t, .int .i64 l, .int .i64 b, .int .i64 r]] w fun e w' => e = .returned (.bool true) ∧ Below w.heap.size w w' := by
  go_enter Try.func4, Try.ntmps4
  go_wp2_with fail
  refine (snew_any _).mono ?_
  rintro e w1 ⟨sa, hsa, rfl, hA, hb1⟩
  simp only [World.size_alloc] at hsa
  have k3 := (Blk.new w rfl _ _).below hb1
  have hw := bel_call (bel_alloc (bel_refl w) _) hb1
  clear hb1
  go_wp2_with fail
  refine (snew_any _).mono ?_
  rintro e w2 ⟨sb, hsb, rfl, hB, hb2⟩
  have hlta := hA.top.lt
  have hT : Two (w.heap.size + 1) w2 sa sb (fun _ => none) (fun _ => none) (fun _ => none) (fun _ => none) (fun _ _ => none) (fun _ _ => none) 0 0 := by
    refine ⟨hA.below hb2, hB, ?_, ?_, ?_⟩
    · rintro z (rfl | ⟨_, _, h⟩ | ⟨_, _, h⟩) (h' | ⟨_, _, h'⟩ | ⟨_, _, h'⟩)
      · omega
      · cases h'
      · cases h'
      · cases h
      · cases h
      · cases h
      · cases h
      · cases h
      · cases h
    · rintro z (rfl | ⟨_, _, h⟩ | ⟨_, _, h⟩)
      · exact hsa
      · cases h
      · cases h
    · rintro z (rfl | ⟨_, _, h⟩ | ⟨_, _, h⟩)
      · omega
      · cases h
      · cases h
  replace k3 := k3.below hb2
  replace hw := bel_call hw hb2
  clear hb2
  replace rd3 := k3.rd
  replace lt3 := k3.lt
  clear hA hB
  go_wp2_with fail
  have hT2 := hT.alloc (.cells #[.string ⟨#[120]⟩, .int .i64 0, .int .i64 0, .string ⟨#[]⟩, .bool false, .int .i64 0, .bool false, .slice none 0 0, .slice none 0 0] 37)
  have hTw := bel_alloc hw (.cells #[.string ⟨#[120]⟩, .int .i64 0, .int .i64 0, .string ⟨#[]⟩, .bool false, .int .i64 0, .bool false, .slice none 0 0, .slice none 0 0] 37)
  have k3' := k3.alloc (.cells #[.string ⟨#[120]⟩, .int .i64 0, .int .i64 0, .string ⟨#[]⟩, .bool false, .int .i64 0, .bool false, .slice none 0 0, .slice none 0 0] 37)
  clear hT hw k3
  go_loopw [8] (fun s8 wr => ∃ (k : Nat) (chA rbA chB rbB : Nat → Option Nat) (cA cB : Int), k ≤ len ∧ s8 = .int .i64 k ∧
      Two (w.heap.size + 1) wr sa sb chA rbA chB rbB (putsG ⟨w2.heap.size, 0, none⟩ cr cc k) (putsG ⟨w2.heap.size, 0, none⟩ (fun j => cr (len - 1 - j)) (fun j => cc (len - 1 - j)) k) cA cB ∧
      Blk wr w.heap.size 24 #[.int .i64 t, .int .i64 l, .int .i64 b, .int .i64 r] ∧ Below w.heap.size w wr)
    (fun s8 _ => len - (intOf s8).toNat)
  case atStart => exact ⟨0, _, _, _, _, _, _, Nat.zero_le _, rfl, hT2, k3', hTw⟩
  case round =>
    obtain ⟨k, chA, rbA, chB, rbB, cA, cB, hk, rfl, hT, k3, hW⟩ := hrel
    clear hT2 k3' hTw
    have hsz := k3.lt
    by_cases hkl : k < len
    · obtain ⟨b1, o1, hA1, hb1, e0, e1⟩ := hC k hkl
      obtain ⟨b2, o2, hA2, hb2, f0, f1⟩ := hC (len - 1 - k) (by omega)
      subst hA1
      cases hA2
      have e0' := (hW.cell hb1).trans e0
      have e1' := (hW.cell hb1).trans e1
      clear e0 e1
      go_wp2_with fail
      refine (put_any sa chA rbA _ cA (cr k) (cc k) ⟨w2.heap.size, 0, none⟩ _ hT.a).mono ?_
      rintro e w3 ⟨rfl, chA', rbA', cA', hS, hF, hO⟩
      replace hW := hF.bel hW (fun z hz => by have := hT.oa z hz; omega)
      replace k3 := hF.blk k3 (fun hz => by have := hT.oa _ hz; omega)
      replace hT := hT.setA (by omega) hS hF hO
      clear hS hF hO e0' e1'
      have hsz := k3.lt
      have f0' := (hW.cell hb1).trans f0
      have f1' := (hW.cell hb1).trans f1
      clear f0 f1
      go_wp2_with fail
      refine (put_any sb chB rbB _ cB (cr (len - 1 - k)) (cc (len - 1 - k)) ⟨w2.heap.size, 0, none⟩ _ hT.b).mono ?_
      rintro e w4 ⟨rfl, chB', rbB', cB', hS, hF, hO⟩
      replace hW := hF.bel hW (fun z hz => by have := hT.ob z hz; omega)
      replace k3 := hF.blk k3 (fun hz => by have := hT.ob _ hz; omega)
      replace hT := hT.setB (by omega) hS hF hO
      clear hS hF hO f0' f1'
      go_wp2_with fail
      go_roundw
      case rel => exact ⟨k + 1, _, _, _, _, _, _, by omega, by go_num, hT, k3, hW⟩
      case measure => simp [intOf]; omega
    · obtain rfl : k = len := by omega
      clear hk hkl
      rw [putsG_turned] at hT
      generalize putsG ⟨w2.heap.size, 0, none⟩ cr cc k = G at hT
      obtain rfl : cA = cB := hT.a.num.trans hT.b.num.symm
      go_wp2_with fail
      have hT3 := hT.alloc (.cells #[.int .i64 0, .int .i64 0] 41)
      have k9 := Blk.new wr rfl 41 #[.int .i64 0, .int .i64 0]
      have k3' := k3.alloc (.cells #[.int .i64 0, .int .i64 0] 41)
      have hW' := bel_alloc hW (.cells #[.int .i64 0, .int .i64 0] 41)
      have HO : Hid (∀ z, own sa chA rbA z ∨ own sb chB rbB z → z < wr.heap.size) := fun z hz => by
        rcases hz with hz | hz
        · exact hT.a.own_lt hz
        · exact hT.b.own_lt hz
      clear hT k3 hW
      go_loopg [] 1048577 (fun g wx => ∃ (p : Nat) (ax ay : Int), p ≤ 1048576 ∧ g = 1048577 - p ∧ PosIs p ax ay ∧ Two (w.heap.size + 1) wx sa sb chA rbA chB rbB G G cA cA ∧
        Blk wx wr.heap.size 41 #[.int .i64 ax, .int .i64 ay] ∧ Blk wx w.heap.size 24 #[.int .i64 t, .int .i64 l, .int .i64 b, .int .i64 r] ∧ Below w.heap.size w wx)
      case atStart => exact ⟨0, 0, 0, by omega, rfl, .inl ⟨rfl, rfl, rfl⟩, hT3, k9, k3', hW'⟩
      case round =>
        obtain ⟨p, ax, ay, hp, rfl, hP, hT, k9, k3, hW⟩ := hrel
        clear hT3 k3' hW'
        obtain ⟨wo, rfl⟩ : ∃ wo : World, wo = wr := ⟨_, rfl⟩
        have rd9 := k9.rd
        have lt9 := k9.lt
        have fz9 := k9.fz
        replace rd3 := k3.rd
        replace lt3 := k3.lt
        have hbd := hP.bd
        go_wp2_with fail
        refine (next_any sa chA rbA G cA t l b r ax ay _ hT.a bt (by omega) (by omega)).mono ?_
        rintro e w3 ⟨res, hres, rfl, hb3⟩
        have HP : Hid (PosIs p ax ay) := hP
        have HRES : Hid (IsNext G t l b r ax ay res) := hres
        clear hP hres
        replace hT := hT.below hb3
        replace k3 := k3.below hb3
        replace k9 := k9.below hb3
        replace hW := bel_call hW hb3
        clear hb3
        replace rd3 := k3.rd
        replace lt3 := k3.lt
        replace rd9 := k9.rd
        replace lt9 := k9.lt
        replace fz9 := k9.fz
        cases res with
        | none =>
          unfold nextV
          go_wp2_with fail
          have k10 := Blk.new w3 rfl 41 #[.int .i64 0, .int .i64 0]
          refine (next_any sb chB rbB G cA t l b r ax ay _ (hT.alloc _).b bt (by omega) (by omega)).mono ?_
          rintro e w4 ⟨res, hres, rfl, hb3⟩
          obtain rfl := hres.uniq HRES.out
          clear hres
          replace hT := (hT.alloc _).below hb3
          replace k10 := k10.below hb3
          have rd10 := k10.rd
          have lt10 := k10.lt
          replace k3 := (k3.alloc _).below hb3
          replace k9 := (k9.alloc _).below hb3
          replace hW := bel_call (bel_alloc hW _) hb3
          clear hb3
          replace rd3 := k3.rd
          replace lt3 := k3.lt
          replace rd9 := k9.rd
          replace lt9 := k9.lt
          replace fz9 := k9.fz
          unfold nextV
          go_wp2_with fail
          refine (scount_any _ (hT.alloc _).a).mono ?_
          rintro e w5 ⟨rfl, rfl⟩
          go_wp2_with fail
          refine (scount_any _ (hT.alloc _).b).mono ?_
          rintro e w6 ⟨rfl, rfl⟩
          have hcc : (cA == cA) = true := by simp
          go_wp2_with fail
          refine (lives_any _).mono ?_
          rintro e w7 ⟨rfl, hb7⟩
          have hW7 := bel_call (bel_alloc hW _) hb7
          go_wp2_with fail
          go_ret
          exact ⟨rfl, hW7⟩
        | some x =>
          obtain ⟨q, d⟩ := x
          have hhit := HRES.out.1
          have hq : q < 4096 := hhit.1
          have hd : d < 256 := hhit.2.1
          obtain ⟨hP2, hlt2⟩ := HP.out.next hhit
          have HP2 : Hid (PosIs (q * 256 + d + 1) ((q : Int) + 1) ((d : Int) + 1)) := hP2
          have hbef : befB ax ay ((q : Int) + 1) ((d : Int) + 1) = true := by
            have := hhit.2.2.2.2
            simp [befB]
            omega
          clear hhit hP2
          unfold nextV
          go_wp2_with fail
          have k10 := Blk.new w3 rfl 41 #[.int .i64 ((q : Int) + 1), .int .i64 ((d : Int) + 1)]
          refine (next_any sb chB rbB G cA t l b r ax ay _ (hT.alloc _).b bt (by omega) (by omega)).mono ?_
          rintro e w4 ⟨res, hres, rfl, hb3⟩
          obtain rfl := hres.uniq HRES.out
          clear hres
          replace hT := (hT.alloc _).below hb3
          replace k10 := k10.below hb3
          have rd10 := k10.rd
          have lt10 := k10.lt
          replace k3 := (k3.alloc _).below hb3
          replace k9 := (k9.alloc _).below hb3
          replace hW := bel_call (bel_alloc hW _) hb3
          clear hb3
          replace rd3 := k3.rd
          replace lt3 := k3.lt
          replace rd9 := k9.rd
          replace lt9 := k9.lt
          replace fz9 := k9.fz
          unfold nextV
          go_wp2_with fail
          refine (rbefore_any ax ay _ _ _).mono ?_
          rintro e w5 ⟨rfl, hb3⟩
          rw [hbef]
          replace hT := (hT.alloc _).below hb3
          replace k3 := (k3.alloc _).below hb3
          replace k9 := (k9.alloc _).below hb3
          replace k10 := (k10.alloc _).below hb3
          replace hW := bel_call (bel_alloc hW _) hb3
          clear hb3
          replace rd3 := k3.rd
          replace lt3 := k3.lt
          replace rd9 := k9.rd
          replace lt9 := k9.lt
          replace fz9 := k9.fz
          replace rd10 := k10.rd
          replace lt10 := k10.lt
          go_wp2_with fail
          go_roundg (1048577 - (q * 256 + d + 1))
          case measure => omega
          case rel =>
            refine ⟨q * 256 + d + 1, _, _, by omega, rfl, HP2.out, ((hT.far HO.out _ _).far HO.out _ _), ?_, ?_, ?_⟩
            · have := (k9.put 0 (.int .i64 ((q : Int) + 1))).put 1 (.int .i64 ((d : Int) + 1))
              exact this
            · exact (k3.far (by omega) _).far (by omega) _
            · exact bel_set (bel_set hW (by omega) _) (by omega) _
end Go.Proofs.Ytiiiiplfcaeegaa

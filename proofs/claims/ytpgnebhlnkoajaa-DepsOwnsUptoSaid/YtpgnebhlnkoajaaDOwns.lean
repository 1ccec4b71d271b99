/-
  Deps: the walk of DepsOwns. Conditions: the deeds lie as said; they hold no more than the bound.
-/
import Derived.Test.YtpgnebhlnkoajaaDTot
import Derived.Test.YtpgnebhlnkoajaaDBack
import Derived.Test.YtpgnebhlnkoajaaRS
namespace Go.Proofs.Ytpgnebhlnkoajaa
open Go.ChangeShapes Go.WideShapes Go.ChangeAt Go.RowKit Go.Deep
attribute [local go_sem] Cls

theorem drs_len1 (row col : Int) : ∀ (L : List Ed) (out : List Cl), (L.foldl (fun o e => ovS row col o (toP e)) out).length ≤ out.length + L.length
  | [], out => by simp
  | p :: L, out => by
    have h := drs_len1 row col L (ovS row col out (toP p))
    have h2 : (ovS row col out (toP p)).length ≤ out.length + 1 := by
      unfold ovS
      split
      · simp
      · omega
    rw [List.foldl_cons, List.length_cons]
    omega
/-- A list's room: none, or a block of its own, from B on, that has it. -/
def Room (w : World) (t : TypeId) (n B : Nat) (A : Option Addr) (c : Nat) : Prop := c = 0 ∨ ∃ (g : Nat) (cur : Array Value), A = some ⟨g, 0, none⟩ ∧ B ≤ g ∧ Blk w g t cur ∧ c * n ≤ cur.size
section
variable {w w' : World} {t : TypeId} {n B c : Nat} {A : Option Addr}
theorem Room.of_ow {α : Type} {K : Knd α} {L : List α} (h : OW K w B (.slice A L.length c) L) : Room w K.t K.size B A c := by
  obtain ⟨A', c', hv, _, _, _, h⟩ := h.see
  injection hv with e1 _ e3
  subst e1 e3
  rcases h with ⟨_, _, h⟩ | ⟨g, cur, h1, h2, h3, h4⟩
  · exact .inl h
  · exact .inr ⟨g, cur, h1, h2, h3, h4⟩
theorem Room.below (h : Room w t n B A c) (hb : Below w.heap.size w w') : Room w' t n B A c := h.imp id fun ⟨g, cur, h1, h2, h3, h4⟩ => ⟨g, cur, h1, h2, h3.below hb, h4⟩
theorem Room.low {B' : Nat} (h : Room w t n B A c) (hB : B' ≤ B) : Room w t n B' A c := h.imp id fun ⟨g, cur, h1, h2, h3, h4⟩ => ⟨g, cur, h1, Nat.le_trans hB h2, h3, h4⟩
theorem Room.set (h : Room w t n B A c) (g o : Nat) (u : Value) : Room (w.setCell ⟨g, o, none⟩ u) t n B A c := h.imp id fun ⟨g', cur, h1, h2, h3, h4⟩ => by
  by_cases e : g' = g
  · subst e
    exact ⟨g', _, h1, h2, h3.put o u, by simpa using h4⟩
  · exact ⟨g', cur, h1, h2, h3.far e u, h4⟩
end
theorem run_cut {w0 : World} {t : TypeId} {m B c : Nat} {A : Option Addr} (hR : Room w0 t m B A c) {T t' : TypeId} (hT : Try.prog.underlying T = some (.slice t')) {i : TypeInfo} (hi : Try.prog.info? t' = some i) (n : Nat) (w : World) : (Instr.slice T (.slice A n c) none (some (.int .i64 (c : Int))) none).run Try.prog w = .ok (.slice A c c) w := by
  have h0 : (0 : Int) ≤ (c : Int) := by omega
  have hA : (if c = 0 then A else A.map (·.add (0 * Try.prog.cellsOf t'))) = A := by
    rcases hR with h | ⟨g, cur, h, _⟩
    · rw [if_pos h]
    · rw [h]; split <;> simp [Addr.add]
  simp [Instr.slice, Instr.sliceBounds, Instr.sliceBound, asIntOf, run_underlying hT, run_sizeOf w hi, h0, go_sem]
  try simpa using hA
theorem stores_7 (w : World) (g o : Nat) (v0 v1 v2 v3 v4 v5 v6 : Value) : (((((((w.setCell ⟨g, o, none⟩ v0).setCell ⟨g, o + 1, none⟩ v1).setCell ⟨g, o + 2, none⟩ v2).setCell ⟨g, o + 3, none⟩ v3).setCell ⟨g, o + 4, none⟩ v4).setCell ⟨g, o + 5, none⟩ v5).setCell ⟨g, o + 6, none⟩ v6) = stores w g o 0 [v0, v1, v2, v3, v4, v5, v6] := rfl
theorem stores_2 (w : World) (g o : Nat) (v0 v1 : Value) : ((w.setCell ⟨g, o, none⟩ v0).setCell ⟨g, o + 1, none⟩ v1) = stores w g o 0 [v0, v1] := rfl
theorem Room.stores {w : World} {t : TypeId} {n B c g o : Nat} {A : Option Addr} : ∀ (us : List Value) (k : Nat) (w : World), Room w t n B A c → Room (stores w g o k us) t n B A c
  | [], _, _, h => h
  | u :: us, k, _, h => Room.stores (w := w) us (k + 1) _ (h.set g (o + k) u)
/-- The lists' rooms, and what stands below. -/
def Spo (W w' : World) (B : Nat) (Ax : Option Addr) (cx : Nat) (Ay : Option Addr) (cy : Nat) (Az : Option Addr) (cz : Nat) : Prop :=
  Room w' KD.t 7 B Ax cx ∧ Room w' KD.t 7 B Ay cy ∧ Room w' KC.t 2 B Az cz ∧ Below W.heap.size W w' ∧ W.heap.size ≤ B
theorem Spo.stores {W w' : World} {B : Nat} {Ax Ay Az : Option Addr} {cx cy cz : Nat} (h : Spo W w' B Ax cx Ay cy Az cz) {g : Nat} (hg : B ≤ g) (o : Nat) (us : List Value) : Spo W (stores w' g o 0 us) B Ax cx Ay cy Az cz :=
  ⟨Room.stores (w := w') us 0 _ h.1, Room.stores (w := w') us 0 _ h.2.1, Room.stores (w := w') us 0 _ h.2.2.1, bel_stores (Nat.le_trans h.2.2.2.2 hg) us 0 _ h.2.2.2.1, h.2.2.2.2⟩
theorem room_open {w : World} {t : TypeId} {n B c i : Nat} {A : Option Addr} (h : Room w t n B A c) (hi : i < c) : ∃ g, A = some ⟨g, 0, none⟩ ∧ B ≤ g ∧ g < w.heap.size ∧ (∀ k, w.frozen? ⟨g, k, none⟩ = false) ∧ ∀ j, j < n → ∃ u, w.cell? ⟨g, i * n + j, none⟩ = some u := by
  rcases h with h | ⟨g, cur, h1, h2, h3, h4⟩
  · omega
  · refine ⟨g, h1, h2, h3.lt, h3.fz, fun j hj => ⟨_, (h3.rd _).trans (Array.getElem?_eq_getElem ?_)⟩⟩
    have := Nat.mul_le_mul_right n (show i + 1 ≤ c from hi)
    rw [Nat.add_mul] at this
    omega
set_option maxHeartbeats 6400000 in
set_option maxRecDepth 100000 in
theorem depsOwns_walk (A : Option Addr) (cap : Nat) (D : List DdV) (row col : Int) (w : World) (hS : DeedsAt w A D) (hrc : rngC ⟨row, col⟩) (htot : tot D ≤ 1048576) :
    Calls Try.prog 7 #[.slice A D.length cap, .agg #[.int .i64 row, .int .i64 col]] w fun e w' => e = .returned (.bool true) ∧ Below w.heap.size w w' := by
  have hDl := tot_len D
  have HRC := Lib.hid hrc
  clear hrc
  go_enter Try.func7, Try.ntmps7
  go_wp2_with fail
  have hc0 := Blk.new w rfl 33 #[.int .i64 row, .int .i64 col]
  have hW0 := bel_alloc (bel_refl w) (.cells #[.int .i64 row, .int .i64 col] 33)
  refine (ds_new _).mono ?_
  rintro e w1 ⟨db, O0, rfl, hP0, hO0, hb1⟩
  replace hc0 := (hc0.below hb1).alloc (.cells #[.slice none 0 0] 29)
  replace hW0 := bel_alloc (bel_call hW0 hb1) (.cells #[.slice none 0 0] 29)
  have hPa := hP0.below (bel_alloc (bel_refl w1) (.cells #[.slice none 0 0] 29))
  have hRa := rs_new (w := w1)
  have hX0 : ∀ z, O0 z → ¬ z = w1.heap.size := fun z hz e => by have := hP0.lt z hz; omega
  have hy1 : ∀ z, z = w1.heap.size → w.heap.size < z := fun z e => by rw [e]; have := hb1.size; simp at this; omega
  have hO0' : ∀ z, O0 z → w.heap.size < z := fun z hz => by have := hO0 z hz; simp at this; omega
  go_wp2_with fail
  generalize hwz : w1.alloc (.cells #[.slice none 0 0] 29) = w2 at hW0 hPa hRa hc0 ⊢
  generalize w1.heap.size = yb at hRa hX0 hy1 ⊢
  clear hwz hP0 hb1 hO0
  go_loopw [7] (fun s7 wr => ∃ (k : Nat) (O Oy : Nat → Prop) (Es : List Ed), k ≤ D.length ∧ s7 = .int .i64 k ∧ DS wr db (2 * tot (D.take k)) O Es ∧ RS wr yb Oy Es ∧ (∀ z, O z → ¬ Oy z) ∧ (∀ z, O z → w.heap.size < z) ∧ (∀ z, Oy z → w.heap.size < z) ∧ Blk wr w.heap.size 33 #[.int .i64 row, .int .i64 col] ∧ Below w.heap.size w wr) (fun s7 _ => D.length - (intOf s7).toNat)
  case atStart => exact ⟨0, O0, _, [], Nat.zero_le _, rfl, hPa, hRa, hX0, hO0', hy1, hc0, hW0⟩
  case round =>
    obtain ⟨k, O, Oy, Ls, hk, rfl, hP, hR, hX, hO, hOy, hc, hW⟩ := hrel
    clear hPa hRa hO0' hW0 hX0 hy1 hc0
    by_cases hkl : k < D.length
    · obtain ⟨d, hd⟩ : ∃ d, D[k]? = some d := ⟨_, List.getElem?_eq_getElem hkl⟩
      obtain ⟨b1, o1, hA1, hb1, ⟨c0, c1, c2⟩, hLi, _⟩ := hS k d hd
      subst hA1
      have HC0 := Lib.hid c0
      have HC1 := Lib.hid c1
      have HC2 := Lib.hid c2
      replace c0 := (hW.cell hb1).trans c0
      replace c1 := (hW.cell hb1).trans c1
      replace c2 := (hW.cell hb1).trans c2
      have htk := tot_take hd
      have htl := tot_le D (k + 1)
      have hPl := hP.len
      have HSRT := Lib.hid hP.srt
      have i0 : (0 : Int) ≤ (k : Int) := by omega
      have i1 : (k : Int) < (D.length : Int) := by omega
      clear hd
      go_wp2_with fail
      go_still_tail 11, (by kernel_rfl)
      go_wp2_with fail
      refine (ds_set db _ O Ls d.row d.col d.L d.A d.cap _ (hP.below (bel_drew (bel_refl wr))) (hLi.below (bel_drew hW)) (fun x hx b off hb hz => by
        have h1 := lies_lt hLi hx hb
        have h2 := hO b hz
        omega) (by omega)).mono ?_
      rintro e w4 ⟨O4, rfl, hP4, hF4, hO4⟩
      have hR3 := hR.below (bel_drew (bel_refl wr))
      have hR4 := hR3.frm hF4 (fun z hz ho => hX z ho hz)
      have hc4 := hF4.blk hc.drew (fun h => by have := hO _ h; omega)
      have hW4 := hF4.bel (bel_drew hW) (fun z hz => Nat.le_of_lt (hO z hz))
      have hX4 : ∀ z, O4 z → ¬ Oy z := fun z hz hy => (hO4 z hz).elim (fun h => hX z h hy) (fun h => by have := hR3.lt z hy; omega)
      have hO4' : ∀ z, O4 z → w.heap.size < z := fun z hz => (hO4 z hz).elim (hO z) (fun h => Nat.lt_of_lt_of_le hc.lt h)
      replace c0 := (hW4.cell hb1).trans HC0.out
      replace c1 := (hW4.cell hb1).trans HC1.out
      replace c2 := (hW4.cell hb1).trans HC2.out
      clear hO4 hX hO hF4 hP hR hR3 hc hW
      go_wp2_with fail
      go_still_tail 11, (by kernel_rfl)
      go_wp2_with fail
      refine (rs_set yb Oy Ls d.row d.col d.L d.A d.cap _ (hR4.below (bel_drew (bel_refl w4))) HSRT.out (hLi.below (bel_drew hW4)) (by omega)).mono ?_
      rintro e w5 ⟨Oy5, rfl, hR5, hF5, hOy5⟩
      have hP5 := (hP4.below (bel_drew (bel_refl w4))).frm hF5 (fun z hz ho => hX4 z hz ho)
      have hc5 := hF5.blk hc4.drew (fun h => by have := hOy _ h; omega)
      have hW5 := hF5.bel (bel_drew hW4) (fun z hz => Nat.le_of_lt (hOy z hz))
      have hX5 : ∀ z, O4 z → ¬ Oy5 z := fun z hz hy => (hOy5 z hy).elim (fun h => hX4 z hz h) (fun h => by have h1 := hP4.lt z hz; have h2 : w4.heap.size ≤ z := h; omega)
      have hOy5' : ∀ z, Oy5 z → w.heap.size < z := fun z hz => (hOy5 z hz).elim (hOy z) (fun h => Nat.lt_of_lt_of_le hc4.lt h)
      have hP6 := hP5.mono (N' := 2 * tot (D.take (k + 1))) (by omega)
      clear hP5 hP4 htk htl
      go_wp2_with fail
      go_roundw
      case rel => exact ⟨k + 1, O4, Oy5, _, by omega, by go_num, hP6, hR5, hX5, hO4', hOy5', hc5, hW5⟩
      case measure => simp [intOf]; omega
    obtain rfl : k = D.length := by omega
    have i1 : ¬ ((D.length : Int) < (D.length : Int)) := by omega
    rw [List.take_length] at hP
    have hPl := hP.len
    have hP1 := hP
    have hR1 := hR
    have hc1 := hc
    have hW1 := hW
    clear hP hR hc hW hX hO hOy hS
    go_wp2_with fail
    go_loopw [8] (fun s8 wr => ∃ n : Nat, n ≤ 2 ∧ s8 = .int .i64 n ∧ DS wr db (2 * tot D) O Ls ∧ RS wr yb Oy Ls ∧ Blk wr w.heap.size 33 #[.int .i64 row, .int .i64 col] ∧ Below w.heap.size w wr) (fun s8 _ => 2 - (intOf s8).toNat)
    case atStart => exact ⟨0, by omega, rfl, hP1, hR1, hc1, hW1⟩
    case round =>
      obtain ⟨n, hn, rfl, hP, hR, hc, hW⟩ := hrel
      rename World => W0
      clear hP1 hR1 hc1 hW1
      by_cases hn2 : n < 2
      · have n1 : (n : Int) < 2 := by omega
        have hB0 := bel_refl W0
        go_wp2_with fail
        refine (ds_edges db _ O Ls _ hP (by omega)).mono ?_
        rintro e w2 ⟨v1, rfl, hL1, hb2⟩
        obtain ⟨Ax, cx, rfl, hle1, hcx, hLx, hxx⟩ := hL1.see
        have hRx := (Room.of_ow hL1).low (Nat.le_refl _)
        have hB2 := bel_call hB0 hb2
        clear hxx hL1 hB0
        go_wp2_with fail
        refine (ds_back db _ O Ls _ (hP.below hB2) (by omega)).mono ?_
        rintro e w3 ⟨v2, rfl, hL2, hb3⟩
        obtain ⟨Ay, cy, rfl, hle2, hcy, hLy, hxx⟩ := hL2.see
        have hRy := (Room.of_ow hL2).low hB2.size
        have hB3 := bel_call hB2 hb3
        replace hRx := hRx.below hb3
        replace hLx := hLx.below hb3
        have hcb := hc.below hB3
        have rdc := hcb.rd
        have ltc := hcb.lt
        clear hxx hL2 hb2
        go_wp2_with fail
        refine (ds_direct db _ O Ls row col _ (hP.below hB3) HRC.out (by omega)).mono ?_
        rintro e w4 ⟨v3, rfl, hL3, hb4⟩
        obtain ⟨Az, cz, rfl, hle3, hcz, hLz, hxx⟩ := hL3.see
        have hRz := (Room.of_ow hL3).low hB3.size
        have hB4 := bel_call hB3 hb4
        replace hRx := hRx.below hb4
        replace hLx := hLx.below hb4
        replace hRy := hRy.below hb4
        replace hLy := hLy.below hb4
        clear hxx hL3 hb3 rdc ltc hcb
        obtain ⟨A9, cap9, hy9, hl9⟩ := (hR.below hB4).list
        have rdy := hy9.rd
        have lty := hy9.lt
        go_wp2_with fail
        refine (dedges_same Ls Ax A9 cx cap9 _ hLx hl9 (by omega)).mono ?_
        rintro e w5 ⟨rfl, hb5⟩
        clear rdy lty
        have hB5 := bel_call hB4 hb5
        replace hy9 := hy9.below hb5
        replace hl9 := hl9.below hb5
        have rdy := hy9.rd
        have lty := hy9.lt
        go_wp2_with fail
        refine (dedges_same Ls Ay A9 cy cap9 _ (hLy.below hb5) hl9 (by omega)).mono ?_
        rintro e w6 ⟨rfl, hb6⟩
        clear rdy lty
        have hB6 := bel_call hB5 hb6
        have hcb := hc.below hB6
        have rdc := hcb.rd
        have ltc := hcb.lt
        go_wp2_with fail
        refine (rs_direct yb Oy Ls row col _ (hR.below hB6) (by omega)).mono ?_
        rintro e w7 ⟨v7, rfl, hL7, hb7⟩
        obtain ⟨A7, c7, rfl, hx1, hx2, hL7, hxx⟩ := hL7.see
        clear hx1 hx2 hxx
        have hB7 := bel_call hB6 hb7
        replace hLz := ((hLz.below hb5).below hb6).below hb7
        clear rdc ltc hcb
        go_wp2_with fail
        refine (dcells_any (drs row col Ls) Az A7 cz c7 _ hLz hL7 (by have := drs_len1 row col Ls []; unfold drs; simp at this; omega)).mono ?_
        rintro e w8 ⟨rfl, hb8⟩
        have hB8 := bel_call hB7 hb8
        have hSp : Spo W0 w8 W0.heap.size Ax cx Ay cy Az cz := ⟨(((hRx.below hb5).below hb6).below hb7).below hb8, (((hRy.below hb5).below hb6).below hb7).below hb8, (((hRz.below hb5).below hb6).below hb7).below hb8, hB8, Nat.le_refl _⟩
        obtain ⟨ie, hie, _⟩ := info_parts info_kd
        obtain ⟨ic, hic, _⟩ := info_parts info_kc
        have cutx := run_cut hSp.1 Try.underlying27 hie Ls.length
        have cuty := run_cut hSp.2.1 Try.underlying27 hie Ls.length
        have cutz := run_cut hSp.2.2.1 Try.underlying23 hic (drs row col Ls).length
        have hcx' : (cx : Int) ≤ 9223372036854775807 := by unfold maxLen at hcx; omega
        have hcy' : (cy : Int) ≤ 9223372036854775807 := by unfold maxLen at hcy; omega
        have hcz' : (cz : Int) ≤ 9223372036854775807 := by unfold maxLen at hcz; omega
        clear hRx hRy hRz hLx hLy hLz hL7 hb4 hb5 hb6 hb7 hb8 hB2 hB3 hB4 hB5 hB6 hB7 hB8 hy9 hl9 hle1 hle2 hle3 hcx hcy hcz
        go_wp2_with fail
        clear cutx cuty cutz hie hic
        go_loopw [15] (fun s wq => ∃ i : Nat, i ≤ cx ∧ s = .int .i64 i ∧ Spo W0 wq W0.heap.size Ax cx Ay cy Az cz) (fun s _ => cx - (intOf s).toNat)
        case atStart => exact ⟨0, Nat.zero_le _, rfl, hSp⟩
        case round =>
          have hSp0 := hSp
          clear hSp
          obtain ⟨i, hi, rfl, hSp⟩ := hrel
          clear hSp0
          by_cases hil : i < cx
          · obtain ⟨g, rfl, hgB, ltg, fzg, hz⟩ := room_open hSp.1 hil
            obtain ⟨u0, z0⟩ := hz 0 (by omega)
            obtain ⟨u1, z1⟩ := hz 1 (by omega)
            obtain ⟨u2, z2⟩ := hz 2 (by omega)
            obtain ⟨u3, z3⟩ := hz 3 (by omega)
            obtain ⟨u4, z4⟩ := hz 4 (by omega)
            obtain ⟨u5, z5⟩ := hz 5 (by omega)
            obtain ⟨u6, z6⟩ := hz 6 (by omega)
            clear hz
            replace z0 : wr.cell? ⟨g, i * 7, none⟩ = some u0 := z0
            replace z1 : wr.cell? ⟨g, i * 7 + 1, none⟩ = some u1 := z1
            replace z2 : wr.cell? ⟨g, i * 7 + 2, none⟩ = some u2 := z2
            replace z3 : wr.cell? ⟨g, i * 7 + 3, none⟩ = some u3 := z3
            replace z4 : wr.cell? ⟨g, i * 7 + 4, none⟩ = some u4 := z4
            replace z5 : wr.cell? ⟨g, i * 7 + 5, none⟩ = some u5 := z5
            replace z6 : wr.cell? ⟨g, i * 7 + 6, none⟩ = some u6 := z6
            have i0 : (0 : Int) ≤ (i : Int) := by omega
            have i1 : (i : Int) < (cx : Int) := by omega
            have hSt := hSp.stores hgB (i * 7) [.int .i64 5, .int .i64 5, .bool false, .int .i64 0, .int .i64 0, .int .i64 0, .int .i64 0]
            rw [← stores_7] at hSt
            have HST := Lib.hid hSt
            clear hSt
            go_wp2_with fail
            go_roundw
            case rel => exact ⟨i + 1, by omega, by go_num, HST.out⟩
            case measure => simp [intOf]; omega
          obtain rfl : cx = i := by omega
          have i1 : ¬ ((cx : Int) < (cx : Int)) := by omega
          go_wp2_with fail
          go_loopw [16] (fun s wq => ∃ i : Nat, i ≤ cy ∧ s = .int .i64 i ∧ Spo W0 wq W0.heap.size Ax cx Ay cy Az cz) (fun s _ => cy - (intOf s).toNat)
          case atStart => exact ⟨0, Nat.zero_le _, rfl, hSp⟩
          case round =>
            have hSp0 := hSp
            clear hSp
            obtain ⟨i, hi, rfl, hSp⟩ := hrel
            clear hSp0
            by_cases hil : i < cy
            · obtain ⟨g, rfl, hgB, ltg, fzg, hz⟩ := room_open hSp.2.1 hil
              obtain ⟨u0, z0⟩ := hz 0 (by omega)
              obtain ⟨u1, z1⟩ := hz 1 (by omega)
              obtain ⟨u2, z2⟩ := hz 2 (by omega)
              obtain ⟨u3, z3⟩ := hz 3 (by omega)
              obtain ⟨u4, z4⟩ := hz 4 (by omega)
              obtain ⟨u5, z5⟩ := hz 5 (by omega)
              obtain ⟨u6, z6⟩ := hz 6 (by omega)
              clear hz
              replace z0 : wr.cell? ⟨g, i * 7, none⟩ = some u0 := z0
              replace z1 : wr.cell? ⟨g, i * 7 + 1, none⟩ = some u1 := z1
              replace z2 : wr.cell? ⟨g, i * 7 + 2, none⟩ = some u2 := z2
              replace z3 : wr.cell? ⟨g, i * 7 + 3, none⟩ = some u3 := z3
              replace z4 : wr.cell? ⟨g, i * 7 + 4, none⟩ = some u4 := z4
              replace z5 : wr.cell? ⟨g, i * 7 + 5, none⟩ = some u5 := z5
              replace z6 : wr.cell? ⟨g, i * 7 + 6, none⟩ = some u6 := z6
              have i0 : (0 : Int) ≤ (i : Int) := by omega
              have i1 : (i : Int) < (cy : Int) := by omega
              have hSt := hSp.stores hgB (i * 7) [.int .i64 6, .int .i64 6, .bool false, .int .i64 0, .int .i64 0, .int .i64 0, .int .i64 0]
              rw [← stores_7] at hSt
              have HST := Lib.hid hSt
              clear hSt
              go_wp2_with fail
              go_roundw
              case rel => exact ⟨i + 1, by omega, by go_num, HST.out⟩
              case measure => simp [intOf]; omega
            obtain rfl : cy = i := by omega
            have i1 : ¬ ((cy : Int) < (cy : Int)) := by omega
            go_wp2_with fail
            go_loopw [17] (fun s wq => ∃ i : Nat, i ≤ cz ∧ s = .int .i64 i ∧ Spo W0 wq W0.heap.size Ax cx Ay cy Az cz) (fun s _ => cz - (intOf s).toNat)
            case atStart => exact ⟨0, Nat.zero_le _, rfl, hSp⟩
            case round =>
              have hSp0 := hSp
              clear hSp
              obtain ⟨i, hi, rfl, hSp⟩ := hrel
              clear hSp0
              by_cases hil : i < cz
              · obtain ⟨g, rfl, hgB, ltg, fzg, hz⟩ := room_open hSp.2.2.1 hil
                obtain ⟨u0, z0⟩ := hz 0 (by omega)
                obtain ⟨u1, z1⟩ := hz 1 (by omega)
                clear hz
                replace z0 : wr.cell? ⟨g, i * 2, none⟩ = some u0 := z0
                replace z1 : wr.cell? ⟨g, i * 2 + 1, none⟩ = some u1 := z1
                have i0 : (0 : Int) ≤ (i : Int) := by omega
                have i1 : (i : Int) < (cz : Int) := by omega
                have hSt := hSp.stores hgB (i * 2) [.int .i64 7, .int .i64 7]
                rw [← stores_2] at hSt
                have HST := Lib.hid hSt
                clear hSt
                go_wp2_with fail
                go_roundw
                case rel => exact ⟨i + 1, by omega, by go_num, HST.out⟩
                case measure => simp [intOf]; omega
              obtain rfl : cz = i := by omega
              have i1 : ¬ ((cz : Int) < (cz : Int)) := by omega
              go_wp2_with fail
              go_roundw
              case rel => exact ⟨n + 1, by omega, by go_num, hP.below hSp.2.2.2.1, hR.below hSp.2.2.2.1, hc.below hSp.2.2.2.1, bel_call hW hSp.2.2.2.1⟩
              case measure => simp [intOf]; omega
      · obtain rfl : n = 2 := by omega
        go_wp2_with fail
        refine (dlives_any _).mono ?_
        rintro e w9 ⟨rfl, hb9⟩
        have hW9 := bel_call hW hb9
        clear hb9
        go_wp2_with fail
        go_ret
        exact ⟨rfl, hW9⟩
end Go.Proofs.Ytpgnebhlnkoajaa

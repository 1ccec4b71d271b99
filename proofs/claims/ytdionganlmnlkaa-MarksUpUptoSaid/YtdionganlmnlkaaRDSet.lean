/-
  The document's deps: contract of Set. Conditions: those of each theorem.
-/
import Derived.Test.YtdionganlmnlkaaRDNum
import Derived.Test.YtdionganlmnlkaaGp
namespace Go.Proofs.Ytdionganlmnlkaa
open Go.ChangeShapes Go.WideShapes Go.ChangeAt Go.RowKit Go.Deep
attribute [local go_sem] Cls

/-- What the document holds: block yb, the list of L, its cells from B on. -/
structure RD (w : World) (yb B : Nat) (L : List Ed) (A : Option Addr) (cap : Nat) : Prop where
  top : Blk w yb 49 #[.slice A L.length cap]
  lst : OL KD w B (.slice A L.length cap) L
section
variable {w w' : World} {yb B : Nat} {L : List Ed} {A : Option Addr} {cap : Nat}
theorem RD.kept {row : Option Nat} (h : RD w yb B L A cap) (hg : w.grownBy w' row) (h1 : some yb ≠ row) (h2 : ∀ g, Value.ownBlock (.slice A L.length cap) = some g → row ≠ some g) : RD w' yb B L A cap := ⟨h.top.grownX hg h1, h.lst.grown hg h2⟩
theorem RD.below (h : RD w yb B L A cap) (hb : Below w.heap.size w w') : RD w' yb B L A cap := h.kept (row := none) (grown_of_below hb none) (by simp) (by simp)
theorem rd_see (h : OL KD w B (.slice A L.length cap) L) : L.length ≤ cap ∧ Lies KD w A L ∧ (A = none ∨ ∃ g, A = some ⟨g, 0, none⟩ ∧ B ≤ g ∧ g < w.heap.size) := by
  obtain ⟨A', cap', hv, h1, _, h2, h3⟩ := h.see
  injection hv with hv1 _ hv3
  rw [hv1, hv3]
  exact ⟨h1, h2, h3⟩
end
theorem bnd_56 {a b c k : Nat} (h1 : a ≤ k) (h2 : k < b) (h3 : (b + c + 1) * 56 ≤ 140737488355328) : (a + 1) * 56 ≤ 140737488355328 := Nat.le_trans (Nat.mul_le_mul_right 56 (by omega)) h3
theorem bnd_max {a b c k : Nat} (h1 : a ≤ k) (h2 : k < b) (h3 : (b + c + 1) * 56 ≤ 140737488355328) : a + 1 ≤ maxLen := by unfold maxLen; omega
theorem bnd_b {a b : Nat} (h : a ≤ b) (hb : b * 56 ≤ 140737488355328) : a * KD.bytes ≤ 140737488355328 := Nat.le_trans (Nat.mul_le_mul_right 56 h) hb
theorem bnd_m {a b : Nat} (h : a ≤ b) (hb : b * 56 ≤ 140737488355328) : a ≤ maxLen := by unfold maxLen; omega
theorem len_insE (p : Ed) (L : List Ed) : (insE p L).length = L.length + 1 := by
  have := cbE_le p L
  unfold insE
  simp
  omega
theorem ins_ol {p : Ed} {L : List Ed} {k : Nat} {w : World} {B B' : Nat} {v : Value} (hk : cbE p L = k) (h : OL KD w B' v (L.take k ++ [p] ++ L.drop k)) (hB : B ≤ B') : OL KD w B v (insE p L) := by
  unfold insE
  rw [hk]
  exact h.low hB
/-- What the document's Set answers. -/
def RSetIs (w : World) (yb B : Nat) (Es : List Ed) (A : Option Addr) (c : Cl) (L : List Rf) (e : Ending) (w' : World) : Prop :=
  e = .returned (.int .i64 (setE c L)) ∧ (∃ A' cap, RD w' yb B (setD c L Es) A' cap ∧ (A' = A ∨ ∀ g off, A' = some ⟨g, off, none⟩ → w.heap.size ≤ g)) ∧ w.grownBy w' (some yb)
theorem rset_no {w w' : World} {yb B : Nat} {Es : List Ed} {A : Option Addr} {cap : Nat} {c : Cl} {L : List Rf} {z : Int} (h : RD w yb B Es A cap) (hb : Below w.heap.size w w') (hz : setE c L = z) (hn : z ≠ 0) : RSetIs w yb B Es A c L (.returned (.int .i64 z)) w' := by
  refine ⟨by rw [hz], ⟨A, cap, ?_, .inl rfl⟩, grown_of_below hb _⟩
  rw [setD_no (by rw [hz]; exact hn)]
  exact h.below hb
theorem rset_yes {w w9 : World} {yb B B' : Nat} {Es G : List Ed} {A : Option Addr} {cap : Nat} {c : Cl} {L : List Rf} {v : Value} (h : RD w yb B Es A cap) (hBB : B ≤ B') (hBw : w.heap.size ≤ B') (hb : Below w.heap.size w w9) (hO : OL KD w9 B' v G) (hG : G = setD c L Es) (hz : setE c L = 0) : RSetIs w yb B Es A c L (.returned (.int .i64 0)) (w9.setCell ⟨yb, 0, none⟩ v) := by
  have hyb := h.top.lt
  subst hG
  obtain ⟨A9, c9, rfl, _, _, _, hA9⟩ := hO.see
  refine ⟨by rw [hz], ⟨A9, c9, ⟨?_, ?_⟩, .inr (fun g off e => ?_)⟩, grown_set (grown_of_below hb _) (.inl rfl) _⟩
  · exact (h.top.below hb).put 0 _
  · exact (hO.low hBB).set (fun z hz e => by have := (hO.lt z hz).1; (try dsimp only at e); omega) 0 _
  · rcases hA9 with h9 | ⟨g9, h9, h9', _⟩
    · rw [h9] at e; cases e
    · rw [h9] at e
      injection e with e
      injection e with e _ _
      omega
set_option maxHeartbeats 12800000 in
set_option maxRecDepth 100000 in
theorem rset_any (yb B : Nat) (Es : List Ed) (A : Option Addr) (cap : Nat) (row col : Int) (L2 : List Rf) (A2 : Option Addr) (cap2 : Nat) (w : World) (h : RD w yb B Es A cap) (hs : SrtE Es) (hBw : B ≤ w.heap.size) (hA2 : Lies KF w A2 L2) (hl : (Es.length + L2.length + 1) * 56 ≤ 140737488355328) :
    Calls Try.prog 27 #[.pointer (some ⟨yb, 0, none⟩), .agg #[.int .i64 row, .int .i64 col], .slice A2 L2.length cap2] w (RSetIs w yb B Es A ⟨row, col⟩ L2) := by
  have hyb := h.top.lt
  go_enter Try.func27, Try.ntmps27
  go_wp2_with fail
  have kc := Blk.new w rfl 32 #[.int .i64 row, .int .i64 col]
  have hW := bel_alloc (bel_refl w) (.cells #[.int .i64 row, .int .i64 col] 32)
  refine (rmay_any row col _).mono ?_
  rintro e w1 ⟨rfl, hb1⟩
  replace kc := kc.below hb1
  replace hW := bel_call hW hb1
  clear hb1
  cases hm : mayB row col with
  | false =>
    have hfin := rset_no h hW (setE_addr (c := ⟨row, col⟩) (L := L2) hm) (by decide)
    go_wp2_with fail
    go_ret
    exact hfin
  | true =>
  have HMY : Hid (mayB (⟨row, col⟩ : Cl).row (⟨row, col⟩ : Cl).col = true) := Lib.hid hm
  clear hm
  go_wp2_with fail
  go_loopw [8] (fun s8 wr => ∃ k : Nat, k ≤ L2.length ∧ s8 = .int .i64 k ∧ Hid (∀ x, x ∈ L2.take k → okR x = true) ∧ Blk wr w.heap.size 32 #[.int .i64 row, .int .i64 col] ∧ Below w.heap.size w wr) (fun s8 _ => L2.length - (intOf s8).toNat)
  case atStart => exact ⟨0, Nat.zero_le _, rfl, Lib.hid (fun x hx => by simp at hx), kc, hW⟩
  case round =>
    have kc0 := kc
    have hW0 := hW
    clear kc hW
    obtain ⟨k, hk, rfl, HOK, kc, hW⟩ := hrel
    clear kc0 hW0
    by_cases hkl : k < L2.length
    · obtain ⟨x, hx⟩ : ∃ x, L2[k]? = some x := ⟨_, List.getElem?_eq_getElem hkl⟩
      obtain ⟨g0, o0, hAe, hg0, c0, c1, c2, c3, c4⟩ := ref_at (hA2.below hW) hx
      subst hAe
      have HX := Lib.hid hx
      have i0 : (0 : Int) ≤ (k : Int) := by omega
      have i1 : (k : Int) < (L2.length : Int) := by omega
      clear hx
      go_wp2_with fail
      refine (rdmay_any x.m x.t x.l x.b x.r _).mono ?_
      rintro e w4 ⟨rfl, hb4⟩
      have hW4 := bel_call hW hb4
      have kc4 := kc.below hb4
      clear hb4 c0 c1 c2 c3 c4
      cases hxo : okR ⟨x.m, x.t, x.l, x.b, x.r⟩ with
      | false =>
        have hbad : L2.all okR = false := by
          rw [List.all_eq_false]
          exact ⟨x, List.mem_of_getElem? HX.out, by rw [show x = ⟨x.m, x.t, x.l, x.b, x.r⟩ from rfl, hxo]; simp⟩
        have hfin := rset_no h hW4 (setE_bad (c := ⟨row, col⟩) HMY.out hbad) (by decide)
        go_wp2_with fail
        go_ret
        exact hfin
      | true =>
        have HOK2 : Hid (∀ y, y ∈ L2.take (k + 1) → okR y = true) := Lib.hid (fun y hy => by
          rw [List.take_add_one, HX.out, List.mem_append] at hy
          rcases hy with h1 | h1
          · exact HOK.out y h1
          · have h2 : y = x := by simpa using h1
            rw [h2]; exact hxo)
        go_wp2_with fail
        go_roundw
        case rel => exact ⟨k + 1, by omega, by go_num, HOK2, kc4, hW4⟩
        case measure => simp [intOf]; omega
    obtain rfl : k = L2.length := by omega
    have HALL : Hid (∀ x, x ∈ L2 → okR x = true) := Lib.hid (by have := HOK.out; rwa [List.take_length] at this)
    have HE : Hid (setE ⟨row, col⟩ L2 = 0) := Lib.hid (setE_ok HMY.out (List.all_eq_true.2 HALL.out))
    obtain ⟨hcap0, hLe0, hAe0⟩ := rd_see h.lst
    have hj0 : Below w.heap.size w wr := hW
    have hj1 : Blk wr w.heap.size 32 #[.int .i64 row, .int .i64 col] := kc
    have hj2 : w.heap.size + 1 ≤ wr.heap.size := kc.lt
    clear HOK HALL HMY kc hW
    go_wp2_with fail
    go_loopw [10, 11] (fun s10 s11 wr => ∃ (k : Nat) (G : List Ed), k ≤ Es.length ∧ s11 = .int .i64 k ∧ OL KD wr (w.heap.size + 1) s10 G ∧ Hid (G = (Es.take k).filter fun e => decide (eCl e ≠ ⟨row, col⟩)) ∧ G.length ≤ k ∧ Blk wr w.heap.size 32 #[.int .i64 row, .int .i64 col] ∧ Below w.heap.size w wr) (fun _ s11 _ => (Es.length - (intOf s11).toNat : Nat))
    case atStart => exact ⟨0, [], Nat.zero_le _, rfl, OL.nil _ _, Lib.hid rfl, Nat.le_refl _, hj1, hj0⟩
    case round =>
      obtain ⟨k, G, hk, rfl, hO, HG, hGl, kc, hW⟩ := hrel
      clear hj0 hj1 hj2
      have htop := h.top.below hW
      by_cases hkl : k < Es.length
      · obtain ⟨x, hx⟩ : ∃ x, Es[k]? = some x := ⟨_, List.getElem?_eq_getElem hkl⟩
        obtain ⟨g, off, hAe, hg, c0, c1, c2, c3, c4, c5, c6⟩ := ed_at (hLe0.below hW) hx
        subst hAe
        obtain ⟨q, hq⟩ : ∃ q, q = !decide ((⟨x.row, x.col⟩ : Cl) = ⟨row, col⟩) := ⟨_, rfl⟩
        have hne := fun W => neq_cell W x.row x.col row col
        rw [← hq] at hne
        have hst : (Es.take (k + 1)).filter (fun e => decide (eCl e ≠ ⟨row, col⟩)) = if q = true then G ++ [x] else G := by
          rw [List.take_add_one, hx, List.filter_append, ← HG.out, hq]
          by_cases hc : (⟨x.row, x.col⟩ : Cl) = ⟨row, col⟩
          · rw [decide_eq_true hc]
            have : eCl x = ⟨row, col⟩ := hc
            simp [this]
          · rw [decide_eq_false hc]
            have : eCl x ≠ ⟨row, col⟩ := hc
            simp [this]
        have HST := Lib.hid hst
        clear hst hq hx
        have i0 : (0 : Int) ≤ (k : Int) := by omega
        have i1 : (k : Int) < (Es.length : Int) := by omega
        have d0 := fun d os => cell_regrown c0 d os
        have d1 := fun d os => cell_regrown c1 d os
        have d2 := fun d os => cell_regrown c2 d os
        have d3 := fun d os => cell_regrown c3 d os
        have d4 := fun d os => cell_regrown c4 d os
        have d5 := fun d os => cell_regrown c5 d os
        have d6 := fun d os => cell_regrown c6 d os
        have gc := kc.gr
        have gt := htop.gr
        have rdt := htop.rd
        have ltt := htop.lt
        go_wp2_with fail
        refine wp_region_quiet_below (by kernel_rfl) (by kernel_rfl) ?_
        repeat (any_goals (first | go_big_quiet_step ((fail)) | fail))
        refine wpQuiet_nil ?_
        intro w5 hw'
        have hb5 := class_below hw'
        clear hw'
        have hO5 := hO.below hb5
        have kc5 := kc.below hb5
        have hW5 := bel_call hW hb5
        replace c0 := (hb5.cell hg).trans c0
        replace c1 := (hb5.cell hg).trans c1
        replace c2 := (hb5.cell hg).trans c2
        replace c3 := (hb5.cell hg).trans c3
        replace c4 := (hb5.cell hg).trans c4
        replace c5 := (hb5.cell hg).trans c5
        replace c6 := (hb5.cell hg).trans c6
        have htop5 := htop.below hb5
        have rdt5 := htop5.rd
        have ltt5 := htop5.lt
        clear hb5 d0 d1 d2 d3 d4 d5 d6 gc gt hne rdt ltt
        cases q with
        | false =>
          go_wp2_with fail
          go_roundw
          case rel => exact ⟨k + 1, G, by omega, by go_num, hO5, Lib.hid (by rw [HST.out]; rfl), by omega, kc5, hW5⟩
          case measure => simp [intOf]; omega
        | true =>
          have hO6 := hO5.alloc (.cells #[.int .i64 x.row, .int .i64 x.col, .bool x.m, .int .i64 x.t, .int .i64 x.l, .int .i64 x.b, .int .i64 x.r] 55)
          have kc6 := kc5.alloc (.cells #[.int .i64 x.row, .int .i64 x.col, .bool x.m, .int .i64 x.t, .int .i64 x.l, .int .i64 x.b, .int .i64 x.r] 55)
          have hW6 := bel_alloc hW5 (.cells #[.int .i64 x.row, .int .i64 x.col, .bool x.m, .int .i64 x.t, .int .i64 x.l, .int .i64 x.b, .int .i64 x.r] 55)
          have hlies : Lies KD (w5.alloc (.cells #[.int .i64 x.row, .int .i64 x.col, .bool x.m, .int .i64 x.t, .int .i64 x.l, .int .i64 x.b, .int .i64 x.r] 55)) (some ⟨w5.heap.size, 0, none⟩) [x] := Lies.blk (Blk.new w5 rfl 55 #[.int .i64 x.row, .int .i64 x.col, .bool x.m, .int .i64 x.t, .int .i64 x.l, .int .i64 x.b, .int .i64 x.r]) rfl
          have hb1' : G.length + [x].length ≤ maxLen := bnd_max hGl hkl hl
          have hb2' : (G.length + [x].length) * KD.bytes ≤ 140737488355328 := bnd_56 hGl hkl hl
          have hb3' : w.heap.size + 1 ≤ (w5.alloc (.cells #[.int .i64 x.row, .int .i64 x.col, .bool x.m, .int .i64 x.t, .int .i64 x.l, .int .i64 x.b, .int .i64 x.r] 55)).heap.size := kc6.lt
          go_wp2_with (at_builtin; (refine wp_ol_append info_kd rfl Try.underlying47 rfl _ _ rfl rfl hO6 (M := [x]) (c := 1) rfl rfl hlies hb1' hb2' hb3' ?_); intro v7 w7 hO7 hg7)
          have hW7 := bel_grown hW6 hg7 (fun z hz => by have := (hO6.lt z hz).1; omega)
          have kc7 := kc6.grownX hg7 (fun e => by have := (hO6.lt _ e.symm).1; omega)
          go_roundw
          case rel => exact ⟨k + 1, G ++ [x], by omega, by go_num, hO7, Lib.hid (by rw [HST.out]; rfl), by simp; omega, kc7, hW7⟩
          case measure => simp [intOf]; omega
      obtain rfl : k = Es.length := by omega
      rw [List.take_length] at HG
      have i1 : ¬ ((Es.length : Int) < (Es.length : Int)) := by omega
      have rdt := htop.rd
      have ltt := htop.lt
      have HF0 : Hid (SrtE G) := Lib.hid (by rw [HG.out]; exact srt_filter hs _)
      have hj0 := hW
      have hj1 := kc
      have hjO := hO
      clear kc hW hO
      go_wp2_with fail
      clear rdt ltt htop
      go_loopw [10, 12] (fun s10 s12 wr => ∃ (i : Nat) (G' : List Ed), i ≤ L2.length ∧ s12 = .int .i64 i ∧ OL KD wr (w.heap.size + 1) s10 G' ∧ Hid (G' = ((L2.take i).map (mkE ⟨row, col⟩)).foldl addE G) ∧ Hid (SrtE G') ∧ G'.length ≤ Es.length + i ∧ Blk wr w.heap.size 32 #[.int .i64 row, .int .i64 col] ∧ Below w.heap.size w wr) (fun _ s12 _ => (L2.length - (intOf s12).toNat : Nat))
      case atStart => exact ⟨0, G, Nat.zero_le _, rfl, hjO, Lib.hid rfl, HF0, by omega, hj1, hj0⟩
      case round =>
        obtain ⟨i, G', hi, rfl, hO, HG', HSG, hGl', kc, hW⟩ := hrel
        clear hj0 hj1 hjO
        by_cases hil : i < L2.length
        · obtain ⟨y, hy⟩ : ∃ y, L2[i]? = some y := ⟨_, List.getElem?_eq_getElem hil⟩
          have hstp : ((L2.take (i + 1)).map (mkE ⟨row, col⟩)).foldl addE G = addE G' (⟨row, col, y.m, y.t, y.l, y.b, y.r⟩ : Ed) := by
            rw [List.take_add_one, hy, List.map_append, List.foldl_append, ← HG'.out]
            rfl
          have HADD := Lib.hid hstp
          obtain ⟨gy, oy, hAe, hgy, y0, y1, y2, y3, y4⟩ := ref_at (hA2.below hW) hy
          subst hAe
          clear hstp hy HG HG' HF0 hGl
          generalize hGG : G' = G1 at HSG HADD hGl' hO
          clear hGG
          clear G'
          have i0 : (0 : Int) ≤ (i : Int) := by omega
          have i1 : (i : Int) < (L2.length : Int) := by omega
          go_wp2_with fail
          obtain ⟨S, hSS⟩ : ∃ S : World → Prop, S = fun w' => Blk w' w.heap.size 32 #[.int .i64 row, .int .i64 col] ∧ w'.cell? ⟨gy, oy + i * 5, none⟩ = some (.bool y.m) ∧ w'.cell? ⟨gy, oy + i * 5 + 1, none⟩ = some (.int .i64 y.t) ∧ w'.cell? ⟨gy, oy + i * 5 + 2, none⟩ = some (.int .i64 y.l) ∧ w'.cell? ⟨gy, oy + i * 5 + 3, none⟩ = some (.int .i64 y.b) ∧ w'.cell? ⟨gy, oy + i * 5 + 4, none⟩ = some (.int .i64 y.r) := ⟨_, rfl⟩
          have q0 := fun x => ((held_of hSS x).1).rd
          have p0 := fun x => ((held_of hSS x).1).lt
          have q1 := fun x => (held_of hSS x).2.1
          have q2 := fun x => (held_of hSS x).2.2.1
          have q3 := fun x => (held_of hSS x).2.2.2.1
          have q4 := fun x => (held_of hSS x).2.2.2.2.1
          have q5 := fun x => (held_of hSS x).2.2.2.2.2
          have HSS := Lib.hid hSS
          have hS0 : S wr.drew := held_in HSS.out ⟨kc.drew, y0, y1, y2, y3, y4⟩
          haveI : Nonempty (Held S) := ⟨⟨_, hS0⟩⟩
          clear hSS
          refine wp_region_tree (S := S) 8 (.q 0 <| .q 1 <| .q 2 <| .q 3 <| .q 4 <| .q 5 <| .a 6 <| .a 7 <| .done) [] (by kernel_rfl) (by kernel_rfl) hS0 ?_
          repeat (refine tree_q (by rfl) (by rfl) (fun K hK => ?_); go_simp; refine hK _ ?_; clear hK K)
          refine tree_a (by rfl) (by rfl) (fun K hK => ?_)
          go_simp
          refine hK _ _ (held_in HSS.out ⟨kc.drew.alloc _, ((bel_alloc (bel_drew (bel_refl wr)) _).cell hgy).trans y0, ((bel_alloc (bel_drew (bel_refl wr)) _).cell hgy).trans y1, ((bel_alloc (bel_drew (bel_refl wr)) _).cell hgy).trans y2, ((bel_alloc (bel_drew (bel_refl wr)) _).cell hgy).trans y3, ((bel_alloc (bel_drew (bel_refl wr)) _).cell hgy).trans y4⟩) ?_
          clear hK K
          have kz := Blk.new wr.drew rfl 55 #[.int .i64 0, .int .i64 0, .bool false, .int .i64 0, .int .i64 0, .int .i64 0, .int .i64 0]
          have hz := bel_alloc (bel_drew (bel_refl wr)) (.cells #[.int .i64 0, .int .i64 0, .bool false, .int .i64 0, .int .i64 0, .int .i64 0, .int .i64 0] 55)
          have rdz := kz.rd
          have ltz := kz.lt
          have fzz := kz.fz
          refine tree_a (by rfl) (by rfl) (fun K hK => ?_)
          go_simp
          refine hK _ _ (held_in HSS.out ⟨(kc.alloc _).drew, ((bel_alloc (bel_refl wr) _).cell hgy).trans y0, ((bel_alloc (bel_refl wr) _).cell hgy).trans y1, ((bel_alloc (bel_refl wr) _).cell hgy).trans y2, ((bel_alloc (bel_refl wr) _).cell hgy).trans y3, ((bel_alloc (bel_refl wr) _).cell hgy).trans y4⟩) ?_
          clear hK K
          refine tree_nil ?_
          clear kz hz rdz ltz fzz q0 p0 q1 q2 q3 q4 q5 hS0 HSS y0 y1 y2 y3 y4
          have k7' := (Blk.new wr rfl 55 #[.int .i64 row, .int .i64 col, .bool y.m, .int .i64 y.t, .int .i64 y.l, .int .i64 y.b, .int .i64 y.r]).drew
          have hW' := bel_drew (bel_alloc (bel_refl wr) (.cells #[.int .i64 row, .int .i64 col, .bool y.m, .int .i64 y.t, .int .i64 y.l, .int .i64 y.b, .int .i64 y.r] 55))
          have hWsz : w.heap.size + 1 ≤ wr.heap.size := kc.lt
          have hM : (G1.length + 1) * 56 ≤ 140737488355328 := Nat.le_trans (Nat.mul_le_mul_right 56 (by omega)) hl
          have kc0 := kc
          have hWo := hW
          obtain ⟨A1, cap1, rfl, hcap, hcm1, hLi0, hA0⟩ := hO.see
          have hOO := hO
          clear kc hW hO hcm1
          generalize (wr.alloc (.cells #[.int .i64 row, .int .i64 col, .bool y.m, .int .i64 y.t, .int .i64 y.l, .int .i64 y.b, .int .i64 y.r] 55)).drew = w3 at k7' hW' ⊢
          generalize hw0 : wr = w0 at k7' hW' hWsz kc0 hWo hLi0 hA0 hOO
          clear hw0
          go_wp2_with fail
          go_loopw [14] (fun s14 wr => ∃ k : Nat, k ≤ G1.length ∧ s14 = .int .i64 k ∧ Hid (cbE (⟨row, col, y.m, y.t, y.l, y.b, y.r⟩ : Ed) G1 = k + cbE (⟨row, col, y.m, y.t, y.l, y.b, y.r⟩ : Ed) (G1.drop k)) ∧ Blk wr w0.heap.size 55 #[.int .i64 row, .int .i64 col, .bool y.m, .int .i64 y.t, .int .i64 y.l, .int .i64 y.b, .int .i64 y.r] ∧ Below w0.heap.size w0 wr) (fun s14 _ => G1.length - (intOf s14).toNat)
          case atStart => exact ⟨0, Nat.zero_le _, rfl, (show cbE (⟨row, col, y.m, y.t, y.l, y.b, y.r⟩ : Ed) G1 = 0 + cbE (⟨row, col, y.m, y.t, y.l, y.b, y.r⟩ : Ed) (G1.drop 0) by rw [List.drop_zero]; omega), k7', hW'⟩
          case round =>
            obtain ⟨k, hk, rfl, HCB, k7, hWr⟩ := hrel
            clear k7' hW'
            have g7 := k7.gr
            have hLi := hLi0.below hWr
            by_cases hkl : k < G1.length
            · obtain ⟨x, hx⟩ : ∃ x, G1[k]? = some x := ⟨_, List.getElem?_eq_getElem hkl⟩
              obtain ⟨g, off, hAe, hg, c0, c1, c2, c3, c4, c5, c6⟩ := ed_at hLi hx
              subst hAe
              have d0 := fun d os => cell_regrown c0 d os
              have d1 := fun d os => cell_regrown c1 d os
              have d2 := fun d os => cell_regrown c2 d os
              have d3 := fun d os => cell_regrown c3 d os
              have d4 := fun d os => cell_regrown c4 d os
              have d5 := fun d os => cell_regrown c5 d os
              have d6 := fun d os => cell_regrown c6 d os
              have hcd := cbE_drop (⟨row, col, y.m, y.t, y.l, y.b, y.r⟩ : Ed) hx
              have ha := fun W => rahead_any x.row x.col x.t x.l x.b x.r x.m row col y.t y.l y.b y.r y.m W
              obtain ⟨c, hc⟩ : ∃ c, c = decide (ltE x (⟨row, col, y.m, y.t, y.l, y.b, y.r⟩ : Ed)) := ⟨_, rfl⟩
              have hc2 : decide (ltE ⟨x.row, x.col, x.m, x.t, x.l, x.b, x.r⟩ (⟨row, col, y.m, y.t, y.l, y.b, y.r⟩ : Ed)) = c := hc.symm
              rw [hc2] at ha
              have HA := Lib.hid ha
              have HC := Lib.hid hc
              have HCD := Lib.hid hcd
              have HX := Lib.hid hx
              have i0 : (0 : Int) ≤ (k : Int) := by omega
              have i1 : (k : Int) < (G1.length : Int) := by omega
              clear ha hc hc2 hcd hx c0 c1 c2 c3 c4 c5 c6
              go_wp2_with fail
              refine wp_region_quiet_below (by kernel_rfl) (by kernel_rfl) ?_
              repeat (any_goals (first | go_big_quiet_step ((first | (go_at_call 43; exact Calls.regrown_of (HA.out _)))) | fail))
              refine wpQuiet_nil ?_
              intro w5 hw'
              have hb5 := class_below hw'
              clear hw'
              have hW5 := bel_call hWr hb5
              have k75 := k7.below hb5
              cases c with
              | true =>
                have hNEXT : cbE (⟨row, col, y.m, y.t, y.l, y.b, y.r⟩ : Ed) G1 = (k + 1) + cbE (⟨row, col, y.m, y.t, y.l, y.b, y.r⟩ : Ed) (G1.drop (k + 1)) := by
                  rw [HCB.out, HCD.out, if_pos (of_decide_eq_true HC.out.symm)]
                  omega
                have HNEXT := Lib.hid hNEXT
                clear hNEXT
                go_wp2_with fail
                go_roundw
                case rel => exact ⟨k + 1, by omega, by go_num, HNEXT, k75, hW5⟩
                case measure => simp [intOf]; omega
              | false =>
                have hce : cbE (⟨row, col, y.m, y.t, y.l, y.b, y.r⟩ : Ed) G1 = k := by
                  rw [HCB.out, HCD.out, if_neg (of_decide_eq_false HC.out.symm)]
                  rfl
                have HCE := Lib.hid hce
                have hmem : (⟨row, col, y.m, y.t, y.l, y.b, y.r⟩ : Ed) ∈ G1 ↔ x = (⟨row, col, y.m, y.t, y.l, y.b, y.r⟩ : Ed) := by
                  rw [meme_at HSG.out, hce, HX.out, Option.some.injEq]
                have HMEM := Lib.hid hmem
                clear hce hmem
                have heq := fun W => eql_ed W x.row x.col x.t x.l x.b x.r row col y.t y.l y.b y.r x.m y.m
                obtain ⟨q, hq⟩ : ∃ q, q = decide (x = (⟨row, col, y.m, y.t, y.l, y.b, y.r⟩ : Ed)) := ⟨_, rfl⟩
                have hq2 : decide ((⟨x.row, x.col, x.m, x.t, x.l, x.b, x.r⟩ : Ed) = (⟨row, col, y.m, y.t, y.l, y.b, y.r⟩ : Ed)) = q := hq.symm
                rw [hq2] at heq
                have HQ := Lib.hid hq
                clear hq hq2 d0 d1 d2 d3 d4 d5 d6 g7
                obtain ⟨g', off', hAe, hg', c0, c1, c2, c3, c4, c5, c6⟩ := ed_at (hLi.below hb5) HX.out
                injection hAe with hAe
                injection hAe with hAe1 hAe2 _
                subst hAe1 hAe2
                have d0 := fun d os => cell_regrown c0 d os
                have d1 := fun d os => cell_regrown c1 d os
                have d2 := fun d os => cell_regrown c2 d os
                have d3 := fun d os => cell_regrown c3 d os
                have d4 := fun d os => cell_regrown c4 d os
                have d5 := fun d os => cell_regrown c5 d os
                have d6 := fun d os => cell_regrown c6 d os
                have g7 := k75.gr
                clear c0 c1 c2 c3 c4 c5 c6
                clear hb5
                go_wp2_with fail
                refine wp_region_quiet_below (by kernel_rfl) (by kernel_rfl) ?_
                repeat (any_goals (first | go_big_quiet_step ((fail)) | fail))
                refine wpQuiet_nil ?_
                intro w6 hw'
                have hb6 := class_below hw'
                clear hw'
                have hWW := bel_call hW5 hb6
                have hq7 := k75.below hb6
                have hrq7 := hq7.rd
                have hW0 := hWo
                clear hb6 d0 d1 d2 d3 d4 d5 d6 g7 heq
                cases q with
                | true =>
                  have hin : (⟨row, col, y.m, y.t, y.l, y.b, y.r⟩ : Ed) ∈ G1 := HMEM.out.2 (of_decide_eq_true HQ.out.symm)
                  go_wp2_with fail
                  go_roundw
                  case rel => exact ⟨i + 1, G1, by omega, by go_num, hOO.below hWW, Lib.hid (by rw [HADD.out, addE, if_pos hin]), HSG, by omega, kc0.below hWW, bel_call hWo hWW⟩
                  case measure => simp [intOf]; omega
                | false =>
                  have HNIN : Hid ((⟨row, col, y.m, y.t, y.l, y.b, y.r⟩ : Ed) ∉ G1) := (show (⟨row, col, y.m, y.t, y.l, y.b, y.r⟩ : Ed) ∉ G1 from fun hm => of_decide_eq_false HQ.out.symm (HMEM.out.1 hm))
                  have HLT : Hid ((G1.take k).length = k) := (show (G1.take k).length = k from by simp; omega)
                  have HLD : Hid ((G1.drop k).length = G1.length - k) := (show (G1.drop k).length = G1.length - k from by simp)
                  rcases hA0 with hA0 | ⟨ga, hA0, hga1, hga2⟩
                  · cases hA0
                  injection hA0 with he
                  injection he with he1 he2 _
                  subst he1 he2
                  by_cases hcm : cap1 = k
                  · have hcmT : (cap1 = k) = True := eq_true hcm
                    have hcmT' : (k = cap1) = True := eq_true hcm.symm
                    have hXc : Lies KD w0 (some ⟨g, 0, none⟩) (G1.drop k) := by
                      have hX := hLi0.cut (a := k) hcap
                      rw [if_pos hcm] at hX
                      exact hX
                    clear hcm
                    have hX0 : Lies KD w0 (some ⟨g, 0, none⟩) (G1.drop k) := hXc
                    go_wp2_with (first
                      | (at_builtin; (refine wp_ol_append info_kd rfl Try.underlying47 rfl (.tmp 100) (.tmp 103) rfl rfl (OL.nil _ w0.heap.size) (M := G1.take k) rfl HLT.out ((hLi0.below hWW).take k) (bnd_m (by show 0 + k ≤ _; omega) hM) (bnd_b (by show 0 + k ≤ _; omega) hM) hWW.size ?_); intro v7 w7 hO7 hg7; have hB7 := bel_grown hWW hg7 (fun z hz => by cases hz); have hk7 := hq7.grownX hg7 (by intro e; cases e); have hrd7 := hk7.rd; have hlt7 := hk7.lt; rw [List.nil_append] at hO7)
                      | (at_builtin; (refine wp_ol_append info_kd rfl Try.underlying47 rfl (.tmp 105) (.tmp 107) rfl rfl (OL.alloc hO7 (.cells #[.int .i64 row, .int .i64 col, .bool y.m, .int .i64 y.t, .int .i64 y.l, .int .i64 y.b, .int .i64 y.r] 55)) (M := [(⟨row, col, y.m, y.t, y.l, y.b, y.r⟩ : Ed)]) (c := 1) rfl rfl (Lies.blk (Blk.new w7 rfl 55 #[.int .i64 row, .int .i64 col, .bool y.m, .int .i64 y.t, .int .i64 y.l, .int .i64 y.b, .int .i64 y.r]) rfl) (bnd_m (by rw [HLT.out]; show k + 1 ≤ _; omega) hM) (bnd_b (by rw [HLT.out]; show k + 1 ≤ _; omega) hM) (size1 hB7.size _) ?_); intro v8 w8 hO8 hg8; have hB8 := bel_grown (bel_alloc hB7 (.cells #[.int .i64 row, .int .i64 col, .bool y.m, .int .i64 y.t, .int .i64 y.l, .int .i64 y.b, .int .i64 y.r] 55)) hg8 (fun z hz => (hO7.lt z hz).1))
                      | (at_builtin; (refine wp_ol_append info_kd rfl Try.underlying47 rfl (.tmp 109) (.tmp 112) rfl rfl hO8 (M := G1.drop k) rfl HLD.out (hX0.below hB8) (bnd_m (by rw [List.length_append, HLT.out]; show k + 1 + (G1.length - k) ≤ _; omega) hM) (bnd_b (by rw [List.length_append, HLT.out]; show k + 1 + (G1.length - k) ≤ _; omega) hM) hB8.size ?_); intro v9 w9 hO9 hg9; have hB9 := bel_grown hB8 hg9 (fun z hz => (hO8.lt z hz).1)))
                    go_roundw
                    case rel => exact ⟨i + 1, insE (⟨row, col, y.m, y.t, y.l, y.b, y.r⟩ : Ed) G1, by omega, by go_num, ins_ol HCE.out hO9 hWsz, Lib.hid (by rw [HADD.out, addE, if_neg HNIN.out]), Lib.hid (srt_insE HSG.out HNIN.out), (by have := len_insE (⟨row, col, y.m, y.t, y.l, y.b, y.r⟩ : Ed) G1; omega), kc0.below hB9, bel_call hW0 hB9⟩
                    case measure => simp [intOf]; omega

                  · have hXc : Lies KD w0 (some ⟨g, k * 7, none⟩) (G1.drop k) := by
                      have hX := hLi0.cut (a := k) hcap
                      rw [if_neg hcm] at hX
                      exact hX
                    have hX0 : Lies KD w0 (some ⟨g, k * 7, none⟩) (G1.drop k) := hXc
                    go_wp2_with (first
                      | (at_builtin; (refine wp_ol_append info_kd rfl Try.underlying47 rfl (.tmp 100) (.tmp 103) rfl rfl (OL.nil _ w0.heap.size) (M := G1.take k) rfl HLT.out ((hLi0.below hWW).take k) (bnd_m (by show 0 + k ≤ _; omega) hM) (bnd_b (by show 0 + k ≤ _; omega) hM) hWW.size ?_); intro v7 w7 hO7 hg7; have hB7 := bel_grown hWW hg7 (fun z hz => by cases hz); have hk7 := hq7.grownX hg7 (by intro e; cases e); have hrd7 := hk7.rd; have hlt7 := hk7.lt; rw [List.nil_append] at hO7)
                      | (at_builtin; (refine wp_ol_append info_kd rfl Try.underlying47 rfl (.tmp 105) (.tmp 107) rfl rfl (OL.alloc hO7 (.cells #[.int .i64 row, .int .i64 col, .bool y.m, .int .i64 y.t, .int .i64 y.l, .int .i64 y.b, .int .i64 y.r] 55)) (M := [(⟨row, col, y.m, y.t, y.l, y.b, y.r⟩ : Ed)]) (c := 1) rfl rfl (Lies.blk (Blk.new w7 rfl 55 #[.int .i64 row, .int .i64 col, .bool y.m, .int .i64 y.t, .int .i64 y.l, .int .i64 y.b, .int .i64 y.r]) rfl) (bnd_m (by rw [HLT.out]; show k + 1 ≤ _; omega) hM) (bnd_b (by rw [HLT.out]; show k + 1 ≤ _; omega) hM) (size1 hB7.size _) ?_); intro v8 w8 hO8 hg8; have hB8 := bel_grown (bel_alloc hB7 (.cells #[.int .i64 row, .int .i64 col, .bool y.m, .int .i64 y.t, .int .i64 y.l, .int .i64 y.b, .int .i64 y.r] 55)) hg8 (fun z hz => (hO7.lt z hz).1))
                      | (at_builtin; (refine wp_ol_append info_kd rfl Try.underlying47 rfl (.tmp 109) (.tmp 112) rfl rfl hO8 (M := G1.drop k) rfl HLD.out (hX0.below hB8) (bnd_m (by rw [List.length_append, HLT.out]; show k + 1 + (G1.length - k) ≤ _; omega) hM) (bnd_b (by rw [List.length_append, HLT.out]; show k + 1 + (G1.length - k) ≤ _; omega) hM) hB8.size ?_); intro v9 w9 hO9 hg9; have hB9 := bel_grown hB8 hg9 (fun z hz => (hO8.lt z hz).1)))
                    go_roundw
                    case rel => exact ⟨i + 1, insE (⟨row, col, y.m, y.t, y.l, y.b, y.r⟩ : Ed) G1, by omega, by go_num, ins_ol HCE.out hO9 hWsz, Lib.hid (by rw [HADD.out, addE, if_neg HNIN.out]), Lib.hid (srt_insE HSG.out HNIN.out), (by have := len_insE (⟨row, col, y.m, y.t, y.l, y.b, y.r⟩ : Ed) G1; omega), kc0.below hB9, bel_call hW0 hB9⟩
                    case measure => simp [intOf]; omega


            · have HCE : Hid (cbE (⟨row, col, y.m, y.t, y.l, y.b, y.r⟩ : Ed) G1 = k) := (show cbE (⟨row, col, y.m, y.t, y.l, y.b, y.r⟩ : Ed) G1 = k from by rw [HCB.out, List.drop_eq_nil_of_le (by omega)]; rfl)
              have HNIN : Hid ((⟨row, col, y.m, y.t, y.l, y.b, y.r⟩ : Ed) ∉ G1) := (show (⟨row, col, y.m, y.t, y.l, y.b, y.r⟩ : Ed) ∉ G1 from fun hm => by
                rw [meme_at HSG.out, HCE.out, List.getElem?_eq_none (by omega)] at hm
                cases hm)
              have hke : (k : Int) = (G1.length : Int) := by omega
              have hdd : decide ((k : Int) < (G1.length : Int)) = false := by simp; omega
              have hW0 := hWo
              clear hke
              go_wp2_with fail
              refine wp_region_quiet_below (by kernel_rfl) (by kernel_rfl) ?_
              repeat (any_goals (first | go_big_quiet_step ((fail)) | fail))
              refine wpQuiet_nil ?_
              intro w5 hw'
              have hb5 := class_below hw'
              clear hw'
              have hW5 := bel_call hWr hb5
              have k75 := k7.below hb5
              clear hb5 g7
              have g7 := k75.gr
              go_wp2_with fail
              refine wp_region_quiet_below (by kernel_rfl) (by kernel_rfl) ?_
              repeat (any_goals (first | go_big_quiet_step ((fail)) | fail))
              refine wpQuiet_nil ?_
              intro w6 hw'
              have hb6 := class_below hw'
              clear hw'
              have hWW := bel_call hW5 hb6
              have hq7 := k75.below hb6
              have hrq7 := hq7.rd
              clear hb6 g7
              have HLT : Hid ((G1.take k).length = k) := (show (G1.take k).length = k from by simp; omega)
              have HLD : Hid ((G1.drop k).length = G1.length - k) := (show (G1.drop k).length = G1.length - k from by simp)
              rcases hA0 with rfl | ⟨ga, rfl, hga1, hga2⟩
              · have hX0 : Lies KD w0 none (G1.drop k) := (by rw [List.drop_eq_nil_of_le (by omega)]; exact Lies.nil _ _)
                go_wp2_with (first
                  | (at_builtin; (refine wp_ol_append info_kd rfl Try.underlying47 rfl (.tmp 100) (.tmp 103) rfl rfl (OL.nil _ w0.heap.size) (M := G1.take k) rfl HLT.out ((hLi0.below hWW).take k) (bnd_m (by show 0 + k ≤ _; omega) hM) (bnd_b (by show 0 + k ≤ _; omega) hM) hWW.size ?_); intro v7 w7 hO7 hg7; have hB7 := bel_grown hWW hg7 (fun z hz => by cases hz); have hk7 := hq7.grownX hg7 (by intro e; cases e); have hrd7 := hk7.rd; have hlt7 := hk7.lt; rw [List.nil_append] at hO7)
                  | (at_builtin; (refine wp_ol_append info_kd rfl Try.underlying47 rfl (.tmp 105) (.tmp 107) rfl rfl (OL.alloc hO7 (.cells #[.int .i64 row, .int .i64 col, .bool y.m, .int .i64 y.t, .int .i64 y.l, .int .i64 y.b, .int .i64 y.r] 55)) (M := [(⟨row, col, y.m, y.t, y.l, y.b, y.r⟩ : Ed)]) (c := 1) rfl rfl (Lies.blk (Blk.new w7 rfl 55 #[.int .i64 row, .int .i64 col, .bool y.m, .int .i64 y.t, .int .i64 y.l, .int .i64 y.b, .int .i64 y.r]) rfl) (bnd_m (by rw [HLT.out]; show k + 1 ≤ _; omega) hM) (bnd_b (by rw [HLT.out]; show k + 1 ≤ _; omega) hM) (size1 hB7.size _) ?_); intro v8 w8 hO8 hg8; have hB8 := bel_grown (bel_alloc hB7 (.cells #[.int .i64 row, .int .i64 col, .bool y.m, .int .i64 y.t, .int .i64 y.l, .int .i64 y.b, .int .i64 y.r] 55)) hg8 (fun z hz => (hO7.lt z hz).1))
                  | (at_builtin; (refine wp_ol_append info_kd rfl Try.underlying47 rfl (.tmp 109) (.tmp 112) rfl rfl hO8 (M := G1.drop k) rfl HLD.out (hX0.below hB8) (bnd_m (by rw [List.length_append, HLT.out]; show k + 1 + (G1.length - k) ≤ _; omega) hM) (bnd_b (by rw [List.length_append, HLT.out]; show k + 1 + (G1.length - k) ≤ _; omega) hM) hB8.size ?_); intro v9 w9 hO9 hg9; have hB9 := bel_grown hB8 hg9 (fun z hz => (hO8.lt z hz).1)))
                go_roundw
                case rel => exact ⟨i + 1, insE (⟨row, col, y.m, y.t, y.l, y.b, y.r⟩ : Ed) G1, by omega, by go_num, ins_ol HCE.out hO9 hWsz, Lib.hid (by rw [HADD.out, addE, if_neg HNIN.out]), Lib.hid (srt_insE HSG.out HNIN.out), (by have := len_insE (⟨row, col, y.m, y.t, y.l, y.b, y.r⟩ : Ed) G1; omega), kc0.below hB9, bel_call hW0 hB9⟩
                case measure => simp [intOf]; omega

              · by_cases hcm : cap1 = k
                · have hcmT : (cap1 = k) = True := eq_true hcm
                  have hcmT' : (k = cap1) = True := eq_true hcm.symm
                  have hXc : Lies KD w0 (some ⟨ga, 0, none⟩) (G1.drop k) := by
                    have hX := hLi0.cut (a := k) hcap
                    rw [if_pos hcm] at hX
                    exact hX
                  clear hcm
                  have hX0 : Lies KD w0 (some ⟨ga, 0, none⟩) (G1.drop k) := hXc
                  go_wp2_with (first
                    | (at_builtin; (refine wp_ol_append info_kd rfl Try.underlying47 rfl (.tmp 100) (.tmp 103) rfl rfl (OL.nil _ w0.heap.size) (M := G1.take k) rfl HLT.out ((hLi0.below hWW).take k) (bnd_m (by show 0 + k ≤ _; omega) hM) (bnd_b (by show 0 + k ≤ _; omega) hM) hWW.size ?_); intro v7 w7 hO7 hg7; have hB7 := bel_grown hWW hg7 (fun z hz => by cases hz); have hk7 := hq7.grownX hg7 (by intro e; cases e); have hrd7 := hk7.rd; have hlt7 := hk7.lt; rw [List.nil_append] at hO7)
                    | (at_builtin; (refine wp_ol_append info_kd rfl Try.underlying47 rfl (.tmp 105) (.tmp 107) rfl rfl (OL.alloc hO7 (.cells #[.int .i64 row, .int .i64 col, .bool y.m, .int .i64 y.t, .int .i64 y.l, .int .i64 y.b, .int .i64 y.r] 55)) (M := [(⟨row, col, y.m, y.t, y.l, y.b, y.r⟩ : Ed)]) (c := 1) rfl rfl (Lies.blk (Blk.new w7 rfl 55 #[.int .i64 row, .int .i64 col, .bool y.m, .int .i64 y.t, .int .i64 y.l, .int .i64 y.b, .int .i64 y.r]) rfl) (bnd_m (by rw [HLT.out]; show k + 1 ≤ _; omega) hM) (bnd_b (by rw [HLT.out]; show k + 1 ≤ _; omega) hM) (size1 hB7.size _) ?_); intro v8 w8 hO8 hg8; have hB8 := bel_grown (bel_alloc hB7 (.cells #[.int .i64 row, .int .i64 col, .bool y.m, .int .i64 y.t, .int .i64 y.l, .int .i64 y.b, .int .i64 y.r] 55)) hg8 (fun z hz => (hO7.lt z hz).1))
                    | (at_builtin; (refine wp_ol_append info_kd rfl Try.underlying47 rfl (.tmp 109) (.tmp 112) rfl rfl hO8 (M := G1.drop k) rfl HLD.out (hX0.below hB8) (bnd_m (by rw [List.length_append, HLT.out]; show k + 1 + (G1.length - k) ≤ _; omega) hM) (bnd_b (by rw [List.length_append, HLT.out]; show k + 1 + (G1.length - k) ≤ _; omega) hM) hB8.size ?_); intro v9 w9 hO9 hg9; have hB9 := bel_grown hB8 hg9 (fun z hz => (hO8.lt z hz).1)))
                  go_roundw
                  case rel => exact ⟨i + 1, insE (⟨row, col, y.m, y.t, y.l, y.b, y.r⟩ : Ed) G1, by omega, by go_num, ins_ol HCE.out hO9 hWsz, Lib.hid (by rw [HADD.out, addE, if_neg HNIN.out]), Lib.hid (srt_insE HSG.out HNIN.out), (by have := len_insE (⟨row, col, y.m, y.t, y.l, y.b, y.r⟩ : Ed) G1; omega), kc0.below hB9, bel_call hW0 hB9⟩
                  case measure => simp [intOf]; omega

                · have hXc : Lies KD w0 (some ⟨ga, k * 7, none⟩) (G1.drop k) := by
                    have hX := hLi0.cut (a := k) hcap
                    rw [if_neg hcm] at hX
                    exact hX
                  have hX0 : Lies KD w0 (some ⟨ga, k * 7, none⟩) (G1.drop k) := hXc
                  go_wp2_with (first
                    | (at_builtin; (refine wp_ol_append info_kd rfl Try.underlying47 rfl (.tmp 100) (.tmp 103) rfl rfl (OL.nil _ w0.heap.size) (M := G1.take k) rfl HLT.out ((hLi0.below hWW).take k) (bnd_m (by show 0 + k ≤ _; omega) hM) (bnd_b (by show 0 + k ≤ _; omega) hM) hWW.size ?_); intro v7 w7 hO7 hg7; have hB7 := bel_grown hWW hg7 (fun z hz => by cases hz); have hk7 := hq7.grownX hg7 (by intro e; cases e); have hrd7 := hk7.rd; have hlt7 := hk7.lt; rw [List.nil_append] at hO7)
                    | (at_builtin; (refine wp_ol_append info_kd rfl Try.underlying47 rfl (.tmp 105) (.tmp 107) rfl rfl (OL.alloc hO7 (.cells #[.int .i64 row, .int .i64 col, .bool y.m, .int .i64 y.t, .int .i64 y.l, .int .i64 y.b, .int .i64 y.r] 55)) (M := [(⟨row, col, y.m, y.t, y.l, y.b, y.r⟩ : Ed)]) (c := 1) rfl rfl (Lies.blk (Blk.new w7 rfl 55 #[.int .i64 row, .int .i64 col, .bool y.m, .int .i64 y.t, .int .i64 y.l, .int .i64 y.b, .int .i64 y.r]) rfl) (bnd_m (by rw [HLT.out]; show k + 1 ≤ _; omega) hM) (bnd_b (by rw [HLT.out]; show k + 1 ≤ _; omega) hM) (size1 hB7.size _) ?_); intro v8 w8 hO8 hg8; have hB8 := bel_grown (bel_alloc hB7 (.cells #[.int .i64 row, .int .i64 col, .bool y.m, .int .i64 y.t, .int .i64 y.l, .int .i64 y.b, .int .i64 y.r] 55)) hg8 (fun z hz => (hO7.lt z hz).1))
                    | (at_builtin; (refine wp_ol_append info_kd rfl Try.underlying47 rfl (.tmp 109) (.tmp 112) rfl rfl hO8 (M := G1.drop k) rfl HLD.out (hX0.below hB8) (bnd_m (by rw [List.length_append, HLT.out]; show k + 1 + (G1.length - k) ≤ _; omega) hM) (bnd_b (by rw [List.length_append, HLT.out]; show k + 1 + (G1.length - k) ≤ _; omega) hM) hB8.size ?_); intro v9 w9 hO9 hg9; have hB9 := bel_grown hB8 hg9 (fun z hz => (hO8.lt z hz).1)))
                  go_roundw
                  case rel => exact ⟨i + 1, insE (⟨row, col, y.m, y.t, y.l, y.b, y.r⟩ : Ed) G1, by omega, by go_num, ins_ol HCE.out hO9 hWsz, Lib.hid (by rw [HADD.out, addE, if_neg HNIN.out]), Lib.hid (srt_insE HSG.out HNIN.out), (by have := len_insE (⟨row, col, y.m, y.t, y.l, y.b, y.r⟩ : Ed) G1; omega), kc0.below hB9, bel_call hW0 hB9⟩
                  case measure => simp [intOf]; omega


        · obtain rfl : i = L2.length := by omega
          rw [List.take_length] at HG'
          have i1 : ¬ ((L2.length : Int) < (L2.length : Int)) := by omega
          have htop := h.top.below hW
          have rdt := htop.rd
          have ltt := htop.lt
          have fzt := htop.fz
          have hGG : G' = setD ⟨row, col⟩ L2 Es := by rw [HG'.out, setD, if_pos HE.out, HG.out]
          have HGG := Lib.hid hGG
          obtain ⟨A9, c9, rfl, _⟩ := hO.see
          clear hGG HG' HG htop
          go_wp2_with fail
          go_ret
          exact rset_yes h (by omega) (Nat.le_succ _) hW hO HGG.out HE.out
end Go.Proofs.Ytdionganlmnlkaa

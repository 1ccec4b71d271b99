/-
  The walk of oriellaw15.StoreWalk: it returns true, whatever the cells and the rectangle. Conditions: the cells lie as said; the rectangle's numbers are 64-bit integers; the cells take less than the reach.
-/
import Derived.Test.YtiiiiplfcaeegaaSLst
import Derived.StillTailTactics
import Derived.Deep.QuietTactic
import Derived.BigQuiet
import Derived.Laws.StructEq
import Derived.LaidEqlPtr
import Derived.Deep.DeepMust
namespace Go.Proofs.Ytiiiiplfcaeegaa
open Go.ChangeShapes Go.WideShapes Go.ChangeAt Go.RowKit Go.Deep

theorem pcode_is (r c : Int) : (pcode r c == 0) = mayB r c := by
  unfold pcode
  cases mayB r c <;> rfl

set_option maxHeartbeats 3200000 in
set_option maxRecDepth 100000 in
theorem swalk_walk (A : Option Addr) (len cap : Nat) (cr cc : Nat → Int) (t l b r : Int) (w : World) (hC : CellsAt w A len cr cc) (hlen : len * 16 ≤ 140737488351232) (bt : t ≤ 9223372036854775807) :
    Calls Try.prog 3 #[.slice A len cap, .agg #[.int .i64 t, .int .i64 l, .int .i64 b, .int .i64 r]] w fun e w' => e = .returned (.bool true) ∧ Below w.heap.size w w' := by
  obtain ⟨i0, hi0, hz0, hz1, hz2⟩ := info_parts info_cell
  go_enter Try.func3, Try.ntmps3
  go_wp2_with fail
  refine (snew_any _).mono ?_
  rintro e w1 ⟨sa, hsa, rfl, hA, hb1⟩
  simp only [World.size_alloc] at hsa
  have k3 := (Blk.new w rfl _ _).below hb1
  have hw := bel_call (bel_alloc (bel_refl w) _) hb1
  clear hb1
  have hlta := hA.top.lt
  go_wp2_with fail
  have hA' := hA.alloc (.cells #[.string ⟨#[120]⟩, .int .i64 0, .int .i64 0, .string ⟨#[]⟩, .bool false, .int .i64 0, .bool false, .slice none 0 0, .slice none 0 0] 37)
  have hw' := bel_alloc hw (.cells #[.string ⟨#[120]⟩, .int .i64 0, .int .i64 0, .string ⟨#[]⟩, .bool false, .int .i64 0, .bool false, .slice none 0 0, .slice none 0 0] 37)
  have k3' := k3.alloc (.cells #[.string ⟨#[120]⟩, .int .i64 0, .int .i64 0, .string ⟨#[]⟩, .bool false, .int .i64 0, .bool false, .slice none 0 0, .slice none 0 0] 37)
  have hpc := pcode_is
  have hOw : ∀ z, own sa (fun _ => none) (fun _ => none) z → w.heap.size + 1 ≤ z := by
    rintro z (rfl | ⟨_, _, h⟩ | ⟨_, _, h⟩)
    · exact hsa
    · cases h
    · cases h
  clear hA hw k3
  go_loopw [7, 8] (fun s7 s8 wr => ∃ (k : Nat) (ch rb : Nat → Option Nat) (cnt : Int), k ≤ len ∧ s8 = .int .i64 k ∧ SIs wr sa ch rb (putsG ⟨w1.heap.size, 0, none⟩ cr cc k) cnt ∧ (∀ z, own sa ch rb z → w.heap.size + 1 ≤ z) ∧
      Lst wr (w.heap.size + 1) s7 (insOf cr cc t l b r k) ∧ Blk wr w.heap.size 24 #[.int .i64 t, .int .i64 l, .int .i64 b, .int .i64 r] ∧ Below w.heap.size w wr)
    (fun _ s8 _ => len - (intOf s8).toNat)
  case atStart => exact ⟨0, _, _, _, Nat.zero_le _, rfl, hA', hOw, Lst.nil _ _, k3', hw'⟩
  case round =>
    obtain ⟨k, ch, rb, cnt, hk, rfl, hS, hO, hL, k3, hW⟩ := hrel
    clear hA' hOw k3' hw'
    have hsz := k3.lt
    have hIl := insOf_len cr cc t l b r k
    by_cases hkl : k < len
    · obtain ⟨b1, o1, hA1, hb1, e0, e1⟩ := hC k hkl
      subst hA1
      have e0' := (hW.cell hb1).trans e0
      have e1' := (hW.cell hb1).trans e1
      go_wp2_with fail
      refine (put_any sa ch rb _ cnt (cr k) (cc k) ⟨w1.heap.size, 0, none⟩ _ hS).mono ?_
      rintro e w3 ⟨rfl, ch', rb', cnt', hS', hF, hO'⟩
      have HO : Hid (∀ z, own sa ch' rb' z → w.heap.size + 1 ≤ z) := fun z hz => by
        rcases hO' z hz with h1 | h1
        · exact hO z h1
        · omega
      replace hL := hL.frm hF (hL.apart hS)
      replace hW := hF.bel hW (fun z hz => by have := hO z hz; omega)
      replace k3 := hF.blk k3 (fun hz => by have := hO _ hz; omega)
      clear hS hF hO hO' e0' e1'
      replace e0 := (hW.cell hb1).trans e0
      replace e1 := (hW.cell hb1).trans e1
      go_wp2_with fail
      refine (rmay_any _ _ _).mono ?_
      rintro e w4 ⟨rfl, hb4⟩
      replace hS' := hS'.below hb4
      replace hL := hL.below hb4
      have c0 := (hb4.cell (p := ⟨b1, o1 + k * 2, none⟩) (by have := hW.size; show b1 < _; omega)).trans e0
      have c1 := (hb4.cell (p := ⟨b1, o1 + k * 2 + 1, none⟩) (by have := hW.size; show b1 < _; omega)).trans e1
      clear e0 e1
      replace k3 := k3.below hb4
      replace hW := bel_call hW hb4
      clear hb4
      replace rd3 := k3.rd
      replace lt3 := k3.lt
      go_wp2_with fail
      go_still_tail 5, (by kernel_rfl)
      go_wp2_with fail
      refine (rin_any t l b r (cr k) (cc k) w4.drew).mono ?_
      rintro e w5 ⟨rfl, hb5⟩
      replace hS' := hS'.drew.below hb5
      replace hL : Lst w5 _ _ _ := Lst.below (w := w4.drew) hL hb5
      replace k3 : Blk w5 _ _ _ := Blk.below k3.drew hb5
      replace hW := bel_call (bel_drew hW) hb5
      have d0 := (hb5.cell (p := ⟨b1, o1 + k * 2, none⟩) (by have := hW.size; show b1 < w4.heap.size; have := World.block_lt_of_cell? _ _ c0; exact this)).trans c0
      have d1 := (hb5.cell (p := ⟨b1, o1 + k * 2 + 1, none⟩) (by show b1 < w4.heap.size; have := World.block_lt_of_cell? _ _ c1; exact this)).trans c1
      clear hb5 c0 c1 rd3 lt3
      replace rd3 := k3.rd
      cases hm : mayB (cr k) (cc k) with
      | false =>
        have hins : insOf cr cc t l b r (k + 1) = insOf cr cc t l b r k := by
          show (if _ then _ else _) = _
          rw [if_neg (by simp [hm])]
        have HINS : Hid (insOf cr cc t l b r (k + 1) = _) := hins
        clear hins
        go_wp2_with fail
        go_roundw
        case rel => exact ⟨k + 1, _, _, _, by omega, by go_num, hS', HO.out, by rw [HINS.out]; exact hL, k3, hW⟩
        case measure => simp [intOf]; omega
      | true =>
        cases hi : inB t l b r (cr k) (cc k) with
        | false =>
          have hins : insOf cr cc t l b r (k + 1) = insOf cr cc t l b r k := by
            show (if _ then _ else _) = _
            rw [if_neg (by simp [hi])]
          have HINS : Hid (insOf cr cc t l b r (k + 1) = _) := hins
          clear hins
          go_wp2_with fail
          go_roundw
          case rel => exact ⟨k + 1, _, _, _, by omega, by go_num, hS', HO.out, by rw [HINS.out]; exact hL, k3, hW⟩
          case measure => simp [intOf]; omega
        | true =>
          have hins : insOf cr cc t l b r (k + 1) = insOf cr cc t l b r k ++ [(cr k, cc k)] := by
            show (if _ then _ else _) = _
            rw [if_pos ⟨hm, hi⟩]
          have HINS : Hid (insOf cr cc t l b r (k + 1) = _) := hins
          clear hins
          have hlt5 := hW.size
          have k66 := Blk.new w5 rfl 41 #[.int .i64 (cr k), .int .i64 (cc k)]
          have hL6 := hL.alloc (.cells #[.int .i64 (cr k), .int .i64 (cc k)] 41)
          have hbase : w.heap.size + 1 ≤ (w5.alloc (.cells #[.int .i64 (cr k), .int .i64 (cc k)] 41)).heap.size := by simp; omega
          go_wp2_with (at_builtin; go_must (refine wp_lst_append rfl _ _ rfl (w.heap.size + 1) _ _ rfl hL6 w5.heap.size 1 (cr k, cc k) rfl (k66.rd 0) (k66.rd 1) (by omega) hbase ?_); intro v6 w6 hL7 hg6)
          have hw6 := hW
          go_roundw
          case rel =>
            have hS6 := hS'.alloc (.cells #[.int .i64 (cr k), .int .i64 (cc k)] 41)
            have hap := hL6.apart hS6
            refine ⟨k + 1, _, _, _, by omega, by go_num, hS6.keep (fun z hz => hg6.block z (hS6.own_lt hz) (fun e => hap z e.symm hz)), HO.out, by rw [HINS.out]; exact hL7, ?_, ?_⟩
            · exact (hg6.block _ (k3.alloc _).lt (fun e => by have := (hL6.lt _ e.symm).1; omega)).trans (k3.alloc _)
            · exact bel_grown (bel_alloc hW _) hg6 (fun z hz => by have := (hL6.lt _ hz).1; omega)
          case measure => simp [intOf]; omega
    · obtain rfl : k = len := by omega
      clear hk hkl
      have HG : Hid (∀ q d ax ay, hit (putsG ⟨w1.heap.size, 0, none⟩ cr cc k) t l b r ax ay q d → ((q : Int) + 1, (d : Int) + 1) ∈ insOf cr cc t l b r k ∧ inB t l b r ((q : Int) + 1) ((d : Int) + 1) = true ∧ putsG ⟨w1.heap.size, 0, none⟩ cr cc k q d = some ⟨w1.heap.size, 0, none⟩) := fun q d ax ay h => ins_of_hit h
      have HI : Hid (∀ y, y ∈ insOf cr cc t l b r k → ∃ q d : Nat, y = ((q : Int) + 1, (d : Int) + 1) ∧ hit (putsG ⟨w1.heap.size, 0, none⟩ cr cc k) t l b r 0 0 q d) := fun y h => hit_of_ins h
      generalize putsG ⟨w1.heap.size, 0, none⟩ cr cc k = G at hS HG HI
      generalize insOf cr cc t l b r k = I at hL HG HI hIl
      obtain ⟨AI, capI, rfl, _⟩ := hL.see
      clear hpc
      have hneq := neq_same
      go_wp2_with fail
      have hS1 := hS.alloc (.cells #[.int .i64 0, .int .i64 0] 41)
      have hL1 := hL.alloc (.cells #[.int .i64 0, .int .i64 0] 41)
      have k12 := Blk.new wr rfl 41 #[.int .i64 0, .int .i64 0]
      have k3' := k3.alloc (.cells #[.int .i64 0, .int .i64 0] 41)
      have hW' := bel_alloc hW (.cells #[.int .i64 0, .int .i64 0] 41)
      have HOL : Hid (∀ z, own sa ch rb z → w.heap.size + 1 ≤ z ∧ z < wr.heap.size) := fun z hz => ⟨hO z hz, hS.own_lt hz⟩
      have HAI : Hid (∀ z, (Value.slice AI I.length capI).ownBlock = some z → w.heap.size + 1 ≤ z ∧ z < wr.heap.size) := fun z hz => hL.lt z hz
      have HT0 := Told.zero G t l b r I
      clear hS hL k3 hW hO
      go_loopw [13, 14] (fun s13 s14 wx => ∃ (T : List (Int × Int)) (p : Nat) (ax ay : Int), s14 = .int .i64 T.length ∧ Told G t l b r I T p ∧ PosIs p ax ay ∧ Lst wx (wr.heap.size + 1) s13 T ∧ SIs wx sa ch rb G cnt ∧
          Lst wx (w.heap.size + 1) (.slice AI I.length capI) I ∧ Blk wx wr.heap.size 41 #[.int .i64 ax, .int .i64 ay] ∧ Blk wx w.heap.size 24 #[.int .i64 t, .int .i64 l, .int .i64 b, .int .i64 r] ∧ Below w.heap.size w wx)
        (fun _ s14 _ => I.length + 1 - (intOf s14).toNat)
      case atStart => exact ⟨[], 0, 0, 0, rfl, HT0, .inl ⟨rfl, rfl, rfl⟩, Lst.nil _ _, hS1, hL1, k12, k3', hW'⟩
      case round =>
        obtain ⟨T, p, ax, ay, rfl, hTold, hP, hT, hS, hL, k12, k3, hW⟩ := hrel
        clear HT0 hS1 hL1 k3' hW'
        obtain ⟨wo, rfl⟩ : ∃ wo : World, wo = wr := ⟨_, rfl⟩
        have hTI := nodup_le T I hTold.nd hTold.sub
        have rd12 := k12.rd
        have lt12 := k12.lt
        have fz12 := k12.fz
        replace rd3 := k3.rd
        have lt3 := k3.lt
        have hbd := hP.bd
        go_wp2_with fail
        refine (next_any sa ch rb G cnt t l b r ax ay _ hS bt (by omega) (by omega)).mono ?_
        rintro e w3 ⟨res, hres, rfl, hb3⟩
        have HP : Hid (PosIs p ax ay) := hP
        have HRES : Hid (IsNext G t l b r ax ay res) := hres
        have HTOLD : Hid (Told G t l b r I T p) := hTold
        clear hP hres hTold
        replace hS := hS.below hb3
        replace hT := hT.below hb3
        replace hL := hL.below hb3
        replace k3 := k3.below hb3
        replace k12 := k12.below hb3
        replace hW := bel_call hW hb3
        clear hb3
        replace rd3 := k3.rd
        replace lt3 := k3.lt
        replace rd12 := k12.rd
        replace lt12 := k12.lt
        replace fz12 := k12.fz
        have HX : Hid (∀ z, Value.ownBlock _ = some z → z < w3.heap.size) := fun z hz => (hT.lt z hz).2
        cases res with
        | none =>
          unfold nextV
          have HIT : Hid (∀ y, y ∈ I → y ∈ T) := fun y hy => by
            obtain ⟨q, d, rfl, hh⟩ := HI.out y hy
            exact HTOLD.out.full HP.out HRES.out q d hh
          obtain ⟨AT, capT, rfl, hcT⟩ := hT.see
          obtain ⟨AI2, capI2, eI, hcI⟩ := hL.see
          cases eI
          have HCT : Hid (∀ i x, T[i]? = some x → ∃ g, AT = some ⟨g, 0, none⟩ ∧ wr.heap.size + 1 ≤ g ∧ g < w3.heap.size ∧ w3.cell? ⟨g, i * 2, none⟩ = some (.int .i64 x.1) ∧ w3.cell? ⟨g, i * 2 + 1, none⟩ = some (.int .i64 x.2)) := hcT
          have HCI : Hid (∀ i x, I[i]? = some x → ∃ g, AI = some ⟨g, 0, none⟩ ∧ w.heap.size + 1 ≤ g ∧ g < w3.heap.size ∧ w3.cell? ⟨g, i * 2, none⟩ = some (.int .i64 x.1) ∧ w3.cell? ⟨g, i * 2 + 1, none⟩ = some (.int .i64 x.2)) := hcI
          clear hcT hcI
          go_wp2_with fail
          have hB0 := bel_alloc (bel_refl w3) (.cells #[.int .i64 0, .int .i64 0] 41)
          go_loopw [19] (fun s19 wx => ∃ i : Nat, i ≤ I.length ∧ s19 = .int .i64 i ∧ Below w3.heap.size w3 wx) (fun s19 _ => I.length - (intOf s19).toNat)
          case atStart => exact ⟨0, Nat.zero_le _, rfl, hB0⟩
          case round =>
            obtain ⟨i, hi, rfl, hB⟩ := hrel
            clear hB0
            by_cases hil : i < I.length
            · obtain ⟨y, hy⟩ : ∃ y, I[i]? = some y := ⟨_, List.getElem?_eq_getElem hil⟩
              obtain ⟨gI, hgI, hgI1, hgI2, y0, y1⟩ := HCI.out i y hy
              have hyT := HIT.out y (List.mem_of_getElem? hy)
              have HYT : Hid (y ∈ T) := hyT
              clear hy hyT
              subst hgI
              go_wp2_with fail
              go_loopw [20, 21] (fun s20 s21 wx => ∃ (j : Nat) (fo : Bool), j ≤ T.length ∧ s21 = .int .i64 j ∧ s20 = .bool fo ∧ Hid (fo = true ↔ y ∈ T.take j) ∧ Below w3.heap.size w3 wx) (fun _ s21 _ => T.length - (intOf s21).toNat)
              case atStart => exact ⟨0, false, Nat.zero_le _, rfl, rfl, by show (_ ↔ _); simp, hB⟩
              case round =>
                obtain ⟨j, fo, hj, rfl, rfl, hfo, hB2⟩ := hrel
                clear hB
                by_cases hjl : j < T.length
                · obtain ⟨z, hz⟩ : ∃ z, T[j]? = some z := ⟨_, List.getElem?_eq_getElem hjl⟩
                  obtain ⟨gT, hgT, hgT1, hgT2, z0, z1⟩ := HCT.out j z hz
                  have HTK : Hid (y ∈ T.take (j + 1) ↔ y ∈ T.take j ∨ y = z) := by show (_ ↔ _); rw [List.take_add_one, hz]; simp
                  clear hz
                  subst hgT
                  replace z0 := (hB2.cell hgT2).trans z0
                  replace z1 := (hB2.cell hgT2).trans z1
                  have y0' := (hB2.cell hgI2).trans y0
                  have y1' := (hB2.cell hgI2).trans y1
                  cases fo with
                  | true =>
                    go_wp2_with fail
                    go_quiet (fail)
                    go_wp2_with fail
                    go_roundw
                    case rel => exact ⟨j + 1, true, by omega, by go_num, rfl, by show (_ ↔ _); have h1 := hfo.out; have h2 := HTK.out; simp at h1; simp [h2, h1], bel_drewN hB2 _⟩
                    case measure => simp [intOf]; omega
                  | false =>
                    by_cases hzy : z = y
                    · subst hzy
                      go_wp2_with fail
                      go_quiet (fail)
                      go_wp2_with fail
                      go_roundw
                      case rel => exact ⟨j + 1, true, by omega, by go_num, by simp, by show (_ ↔ _); have h2 := HTK.out; simp [h2], bel_drewN hB2 _⟩
                      case measure => simp [intOf]; omega
                    · obtain ⟨za, zb⟩ := z
                      obtain ⟨ya, yb⟩ := y
                      dsimp only at z0 z1 y0' y1'
                      have HZY : Hid (¬ (za, zb) = (ya, yb)) := hzy
                      by_cases h1 : za = ya
                      · have hb : (zb == yb) = false := by
                          rw [beq_eq_false_iff_ne]
                          rintro rfl
                          exact hzy (by rw [h1])
                        subst h1
                        clear hzy
                        go_wp2_with fail
                        go_quiet (fail)
                        go_wp2_with fail
                        go_roundw
                        case rel => exact ⟨j + 1, false, by omega, by go_num, rfl, by show (_ ↔ _); have h1 := hfo.out; have h2 := HTK.out; simp at h1; simp only [h2]; simp [h1]; exact fun e => HZY.out (by rw [e]), bel_drewN hB2 _⟩
                        case measure => simp [intOf]; omega
                      · have hb : (za == ya) = false := by
                          rw [beq_eq_false_iff_ne]
                          exact h1
                        clear hzy h1
                        go_wp2_with fail
                        go_quiet (fail)
                        go_wp2_with fail
                        go_roundw
                        case rel => exact ⟨j + 1, false, by omega, by go_num, rfl, by show (_ ↔ _); have h1 := hfo.out; have h2 := HTK.out; simp at h1; simp only [h2]; simp [h1]; exact fun e e' => HZY.out (by rw [e, e']), bel_drewN hB2 _⟩
                        case measure => simp [intOf]; omega
                · obtain rfl : j = T.length := by omega
                  have hft : fo = true := hfo.out.2 (by rw [List.take_length]; exact HYT.out)
                  subst hft
                  go_wp2_with fail
                  go_roundw
                  case rel => exact ⟨i + 1, by omega, by go_num, hB2⟩
                  case measure => simp [intOf]; omega
            · have hS4 := hS.below hB
              have hW4 := bel_call hW hB
              have k12' := k12.below hB
              have k3' := k3.below hB
              replace rd12 := k12'.rd
              replace rd3 := k3'.rd
              go_wp2_with fail
              refine (next_any sa ch rb G cnt t l b r ax ay _ hS4 bt (by omega) (by omega)).mono ?_
              rintro e w5 ⟨res, hres, rfl, hb5⟩
              obtain rfl := hres.uniq HRES.out
              clear hres
              replace hW4 := bel_call hW4 hb5
              unfold nextV
              go_wp2_with fail
              refine (lives_any _).mono ?_
              rintro e w7 ⟨rfl, hb7⟩
              have hW7 := bel_call (bel_alloc hW4 _) hb7
              go_wp2_with fail
              go_ret
              exact ⟨rfl, hW7⟩
        | some x =>
          obtain ⟨q, d⟩ := x
          have hhit := HRES.out.1
          have hq : q < 4096 := hhit.1
          have hd : d < 256 := hhit.2.1
          obtain ⟨hP2, hlt2⟩ := HP.out.next hhit
          have HP2 : Hid (PosIs (q * 256 + d + 1) ((q : Int) + 1) ((d : Int) + 1)) := hP2
          have hbef : befB ax ay ((q : Int) + 1) ((d : Int) + 1) = true := by
            have := hhit.2.2.2.2
            simp [befB]
            omega
          obtain ⟨hgI, hgin, hgx⟩ := HG.out _ _ _ _ hhit
          have HGI : Hid (((q : Int) + 1, (d : Int) + 1) ∈ I) := hgI
          have HGX : Hid (G q d = some ⟨w1.heap.size, 0, none⟩) := hgx
          clear hhit hP2 hgI hgx
          unfold nextV
          go_wp2_with fail
          have k15 := Blk.new w3 rfl 41 #[.int .i64 ((q : Int) + 1), .int .i64 ((d : Int) + 1)]
          refine (rbefore_any ax ay _ _ _).mono ?_
          rintro e w4 ⟨rfl, hb3⟩
          rw [hbef]
          replace hS := (hS.alloc _).below hb3
          replace hT := (hT.alloc _).below hb3
          replace hL := (hL.alloc _).below hb3
          replace k15 := k15.below hb3
          have rd15 := k15.rd
          have lt15 := k15.lt
          replace k3 := (k3.alloc _).below hb3
          replace k12 := (k12.alloc _).below hb3
          replace hW := bel_call (bel_alloc hW _) hb3
          clear hb3
          replace rd3 := k3.rd
          replace lt3 := k3.lt
          replace rd12 := k12.rd
          replace lt12 := k12.lt
          replace fz12 := k12.fz
          go_wp2_with fail
          refine (rin_any _ _ _ _ _ _ _).mono ?_
          rintro e w5 ⟨rfl, hb3⟩
          rw [hgin]
          replace hS := hS.below hb3
          replace hT := hT.below hb3
          replace hL := hL.below hb3
          replace k3 := k3.below hb3
          replace k12 := k12.below hb3
          replace k15 := k15.below hb3
          replace hW := bel_call hW hb3
          clear hb3
          replace rd3 := k3.rd
          replace lt3 := k3.lt
          replace rd12 := k12.rd
          replace lt12 := k12.lt
          replace fz12 := k12.fz
          replace rd15 := k15.rd
          replace lt15 := k15.lt
          go_wp2_with fail
          refine (sget_any ((q : Int) + 1) ((d : Int) + 1) q d _ hS (by omega) (by omega) (by omega) (by omega)).mono ?_
          rintro e w6 ⟨rfl, hb3⟩
          rw [HGX.out]
          replace hS := hS.below hb3
          replace hT := hT.below hb3
          replace hL := hL.below hb3
          replace k3 := k3.below hb3
          replace k12 := k12.below hb3
          replace k15 := k15.below hb3
          replace hW := bel_call hW hb3
          clear hb3
          replace rd3 := k3.rd
          replace lt3 := k3.lt
          replace rd12 := k12.rd
          replace lt12 := k12.lt
          replace fz12 := k12.fz
          replace rd15 := k15.rd
          replace lt15 := k15.lt
          have k66 := Blk.new w6 rfl 41 #[.int .i64 ((q : Int) + 1), .int .i64 ((d : Int) + 1)]
          have hT6 := hT.alloc (.cells #[.int .i64 ((q : Int) + 1), .int .i64 ((d : Int) + 1)] 41)
          have hbase : wr.heap.size + 1 ≤ (w6.alloc (.cells #[.int .i64 ((q : Int) + 1), .int .i64 ((d : Int) + 1)] 41)).heap.size := by simp; omega
          go_wp2_with (at_builtin; go_must (refine wp_lst_append rfl _ _ rfl (wr.heap.size + 1) _ _ rfl hT6 w6.heap.size 1 ((q : Int) + 1, (d : Int) + 1) rfl (k66.rd 0) (k66.rd 1) (by omega) hbase ?_); intro v7 w7 hT7 hg7; have k12' : Blk w7 _ _ _ := (hg7.block _ (k12.alloc _).lt (fun e => by have := (hT6.lt _ e.symm).1; omega)).trans (k12.alloc _); have k15' : Blk w7 _ _ _ := (hg7.block _ (k15.alloc _).lt (fun e => absurd (HX.out _ e.symm) (Nat.lt_irrefl _))).trans (k15.alloc _); have rd12' := k12'.rd; have fz12' := k12'.fz; have lt12' := k12'.lt; have rd15' := k15'.rd)
          go_roundw
          case rel =>
            have hlow : ∀ z, Value.ownBlock _ = some z → wr.heap.size + 1 ≤ z := fun z hz => (hT6.lt z hz).1
            refine ⟨T ++ [((q : Int) + 1, (d : Int) + 1)], q * 256 + d + 1, _, _, by simp, HTOLD.out.next HP.out HRES.out HGI.out, HP2.out, ?_, ?_, ?_, ?_, ?_, ?_⟩
            · exact (hT7.set (fun g hg => by have := (hT7.lt g hg).1; omega) _ _).set (fun g hg => by have := (hT7.lt g hg).1; omega) _ _
            · have h1 : SIs w7 sa ch rb G cnt := (hS.alloc _).keep (fun z hz => hg7.block z ((hS.alloc _).own_lt hz) (fun e => by have h1 := hlow z e.symm; have h2 := HOL.out z hz; omega))
              exact (h1.keep fun z hz => Below.heap_setCell _ ⟨wr.heap.size, 0, none⟩ _ z (by have h2 := HOL.out z hz; show z ≠ wr.heap.size; omega)).keep fun z hz => Below.heap_setCell _ ⟨wr.heap.size, 1, none⟩ _ z (by have h2 := HOL.out z hz; show z ≠ wr.heap.size; omega)
            · have h1 : Lst w7 _ _ I := (hL.alloc _).grown hg7 (fun z hz e => by have h1 := hlow z e; have h2 := HAI.out z hz; omega)
              exact (h1.set (fun z hz => by have h2 := HAI.out z hz; omega) _ _).set (fun z hz => by have h2 := HAI.out z hz; omega) _ _
            · exact (k12'.put 0 (.int .i64 ((q : Int) + 1))).put 1 (.int .i64 ((d : Int) + 1))
            · have h1 : Blk w7 _ _ _ := (hg7.block _ (k3.alloc _).lt (fun e => by have h1 := hlow _ e.symm; omega)).trans (k3.alloc _)
              exact (h1.far (by omega) _).far (by omega) _
            · exact bel_set (bel_set (bel_grown (bel_alloc hW _) hg7 (fun z hz => by have h1 := hlow _ hz; omega)) (by omega) _) (by omega) _
          case measure => simp [intOf]; omega
end Go.Proofs.Ytiiiiplfcaeegaa

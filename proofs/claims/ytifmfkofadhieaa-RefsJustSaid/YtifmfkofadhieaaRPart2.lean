/-
  Formulas: contract of orielref05.part. Conditions: the parts that it works on lie as said and are small.
-/
import Derived.Test.YtifmfkofadhieaaRPart
namespace Go.Proofs.Ytifmfkofadhieaa
open Go.ChangeShapes Go.WideShapes Go.ChangeAt Go.RowKit Go.Deep

theorem opd_step (lv : Nat) (M : List Pt) (i : Nat) (p : Pt) (h : M[i]? = some p) : opd lv M (i + 1) = max (opd lv M i) (insd p (lv + i)) := by
  show (match M[i]? with
    | some p => max (opd lv M i) (insd p (lv + i))
    | none => opd lv M i) = _
  rw [h]
theorem any_yes {M : List Pt} {i : Nat} {p : Pt} (h : M[i]? = some p) (hm : p.m = true) : M.any (·.m) = true := List.any_eq_true.2 ⟨p, List.mem_of_getElem? h, hm⟩
theorem any_no {M : List Pt} (h : ∀ (j : Nat) p, j < M.length → M[j]? = some p → p.m = false) : M.any (·.m) = false := by
  rw [List.any_eq_false]
  intro p hp
  obtain ⟨j, hj⟩ := List.getElem?_of_mem hp
  have := h j p (List.getElem?_eq_some_iff.1 hj).1 hj
  simp [this]

set_option maxHeartbeats 3200000 in
set_option maxRecDepth 100000 in
theorem part_op (tag num : Int) (str : ByteArray) (is : Bool) (code row col t l b r op : Int) (name : ByteArray) (args : Int) (A : Option Addr) (M : List Pt) (c : Nat) (w : World) (hM : Lies KR w A M) (hl : M.length ≤ 2000) (hd : ∀ p, p ∈ M → p.d ≤ 2000 ∧ p.bi ≤ 7) :
    Calls Try.prog 30 #[.agg #[.int .i64 4, .int .i64 tag, .int .i64 num, .string str, .bool is, .int .i64 code, .int .i64 row, .int .i64 col, .int .i64 t, .int .i64 l, .int .i64 b, .int .i64 r, .int .i64 op, .string name, .int .i64 args], .slice A M.length c] w fun e w' => e = .returned (ptV (if M.any (·.m) = true then none else some ⟨opd (lvl op) M M.length, lvl op, false⟩)) ∧ Below w.heap.size w w' := by
  have HL := lvl_le op
  obtain ⟨lv, hlv⟩ : ∃ lv, lv = lvl op := ⟨_, rfl⟩
  rw [← hlv] at HL ⊢
  obtain ⟨R, hR⟩ : ∃ R, R = if M.any (·.m) = true then none else some (⟨opd lv M M.length, lv, false⟩ : Pt) := ⟨_, rfl⟩
  rw [← hR]
  have HR := Lib.hid hR
  have HD := Lib.hid hd
  have HLV := Lib.hid hlv
  clear hd hR hlv
  go_enter Try.func30, Try.ntmps30
  go_wp2_with fail
  refine (rlevel_any op _).mono ?_
  rintro e w1 ⟨rfl, rfl⟩
  rw [← HLV.out]
  go_wp2_with fail
  have k4' := (Blk.new (w.alloc (.cells #[.int .i64 4, .int .i64 tag, .int .i64 num, .string str, .bool is, .int .i64 code, .int .i64 row, .int .i64 col, .int .i64 t, .int .i64 l, .int .i64 b, .int .i64 r, .int .i64 op, .string name, .int .i64 args] 48)) (g := w.heap.size + 1) (by simp) 55 #[.int .i64 0, .int .i64 0, .bool false]).alloc (.cells #[.int .i64 0, .int .i64 lv, .bool false] 55)
  have k6' := Blk.new ((w.alloc (.cells #[.int .i64 4, .int .i64 tag, .int .i64 num, .string str, .bool is, .int .i64 code, .int .i64 row, .int .i64 col, .int .i64 t, .int .i64 l, .int .i64 b, .int .i64 r, .int .i64 op, .string name, .int .i64 args] 48)).alloc (.cells #[.int .i64 0, .int .i64 0, .bool false] 55)) (g := w.heap.size + 1 + 1) (by simp) 55 #[.int .i64 0, .int .i64 lv, .bool false]
  have hw' := bel_alloc (bel_alloc (bel_alloc (bel_refl w) (.cells #[.int .i64 4, .int .i64 tag, .int .i64 num, .string str, .bool is, .int .i64 code, .int .i64 row, .int .i64 col, .int .i64 t, .int .i64 l, .int .i64 b, .int .i64 r, .int .i64 op, .string name, .int .i64 args] 48)) (.cells #[.int .i64 0, .int .i64 0, .bool false] 55)) (.cells #[.int .i64 0, .int .i64 lv, .bool false] 55)
  go_loopw [9] (fun s9 wr => ∃ i : Nat, i ≤ M.length ∧ s9 = .int .i64 i ∧ Blk wr (w.heap.size + 1) 55 #[.int .i64 0, .int .i64 0, .bool false] ∧ Blk wr (w.heap.size + 1 + 1) 55 #[.int .i64 (opd lv M i), .int .i64 lv, .bool false] ∧ Hid (∀ (j : Nat) p, j < i → M[j]? = some p → p.m = false) ∧ Below w.heap.size w wr) (fun s9 _ => M.length - (intOf s9).toNat)
  case atStart => exact ⟨0, Nat.zero_le _, rfl, k4', k6', (show ∀ (j : Nat) p, j < 0 → M[j]? = some p → p.m = false from fun j p h => absurd h (Nat.not_lt_zero _)), hw'⟩
  case round =>
    obtain ⟨i, hi, rfl, k4, k6, HNO, hW⟩ := hrel
    clear k4' k6' hw'
    have rd4 := k4.rd
    have fz4 := k4.fz
    have lt4 := k4.lt
    have rd6 := k6.rd
    have fz6 := k6.fz
    have lt6 := k6.lt
    by_cases hil : i < M.length
    · obtain ⟨p, hp⟩ : ∃ p, M[i]? = some p := ⟨_, List.getElem?_eq_getElem hil⟩
      obtain ⟨g, off, rfl, hg, e0, e1, e2⟩ := part_at (hM.below hW) hp
      have hgr : g < wr.heap.size := hg
      have hpd := HD.out p (List.mem_of_getElem? hp)
      have hod := opd_le lv M 2000 (fun q hq => (HD.out q hq).1) i
      have hin := insd_le p 2000 (lv + i) hpd.1
      have HS := Lib.hid (opd_step lv M i p hp)
      have HP := Lib.hid hp
      obtain ⟨mx, hmx⟩ : ∃ mx, mx = opd lv M i := ⟨_, rfl⟩
      rw [← hmx] at rd6 k6 hod
      have HMX := Lib.hid hmx
      clear hp hmx
      have i0 : (0 : Int) ≤ (i : Int) := by omega
      have i1 : (i : Int) < (M.length : Int) := by omega
      have wl : IntKind.i64.wrap ((lv : Int) + (i : Int)) = ((lv + i : Nat) : Int) := by rw [IntWalk.i64_in _ (by omega)]; omega
      obtain ⟨pd, pb, pm⟩ := p
      dsimp only at e0 e1 e2 hpd hin
      cases pm with
      | true =>
        have HF : Hid (R = none) := by
          rw [HR.out]
          show _ = _
          rw [if_pos (any_yes HP.out rfl)]
        go_wp2_with fail
        exact bodyPost_ret (v := .tuple #[.agg #[.int .i64 0, .int .i64 0, .bool false], .bool false]) (by simp [results, Try.results30, go_sem, rd4]) rfl ⟨by rw [HF.out]; rfl, bel_set (bel_set (bel_set hW (by omega) _) (by omega) _) (by omega) _⟩
      | false =>
        go_wp2_with fail
        go_still_tail 8, (by kernel_rfl)
        go_wp2_with fail
        refine (within_any' ⟨pd, pb, false⟩ (lv + i) _ hpd.1 hpd.2).mono ?_
        rintro e w5 ⟨rfl, hb5⟩
        replace k4 := k4.drew.below hb5
        replace k6 := k6.drew.below hb5
        replace hW := bel_call (bel_drew hW) hb5
        replace rd4 := k4.rd
        replace lt4 := k4.lt
        replace fz4 := k4.fz
        replace rd6 := k6.rd
        replace lt6 := k6.lt
        replace fz6 := k6.fz
        have hno : Hid (∀ (j : Nat) p, j < i + 1 → M[j]? = some p → p.m = false) := (show ∀ (j : Nat) p, j < i + 1 → M[j]? = some p → p.m = false from fun j p hj hp => by
          rcases Nat.lt_succ_iff_lt_or_eq.1 hj with h | h
          · exact HNO.out j p h hp
          · subst h
            rw [HP.out] at hp
            injection hp with hp
            rw [← hp])
        obtain ⟨nx, hnx⟩ : ∃ nx, nx = insd ⟨pd, pb, false⟩ (lv + i) := ⟨_, rfl⟩
        rw [← hnx] at hin ⊢
        have HNX := Lib.hid hnx
        clear hnx hb5 wl e0 e1 e2
        by_cases hgt : mx < nx
        · have hb : decide ((mx : Int) < (nx : Int)) = true := by simp; omega
          go_wp2_with fail
          go_roundw
          case rel =>
            refine ⟨i + 1, by omega, by go_num, k4.far (by omega) _, ?_, hno, bel_set hW (by omega) _⟩
            rw [HS.out, ← HMX.out, ← HNX.out, show max mx nx = nx by omega]
            exact k6.put 0 (.int .i64 (nx : Int))
          case measure => simp [intOf]; omega
        · have hb : decide ((mx : Int) < (nx : Int)) = false := by simp; omega
          go_wp2_with fail
          go_roundw
          case rel =>
            refine ⟨i + 1, by omega, by go_num, k4, ?_, hno, hW⟩
            rw [HS.out, ← HMX.out, ← HNX.out, show max mx nx = mx by omega]
            exact k6
          case measure => simp [intOf]; omega
    · obtain rfl : i = M.length := by omega
      have HF : Hid (R = some ⟨opd lv M M.length, lv, false⟩) := by
        rw [HR.out]
        show _ = _
        rw [if_neg (by rw [any_no HNO.out]; decide)]
      go_wp2_with fail
      exact bodyPost_ret (v := .tuple #[.agg #[.int .i64 (opd lv M M.length), .int .i64 lv, .bool false], .bool true]) (by simp [results, Try.results30, go_sem, rd4]) rfl ⟨by rw [HF.out]; rfl, bel_set (bel_set (bel_set hW (by omega) _) (by omega) _) (by omega) _⟩
end Go.Proofs.Ytifmfkofadhieaa

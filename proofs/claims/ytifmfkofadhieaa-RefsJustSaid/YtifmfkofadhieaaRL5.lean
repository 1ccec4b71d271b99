/-
  The walk of RefsJust: it returns true. Conditions: the formula lies as said.
-/
import Derived.Test.YtifmfkofadhieaaRL3
namespace Go.Proofs.Ytifmfkofadhieaa
open Go.ChangeShapes Go.WideShapes Go.ChangeAt Go.RowKit Go.Deep

def KB : Knd Bool where
  t := 4
  size := 1
  bytes := 1
  enc x := [.bool x]
  len _ := rfl
  one x u hu := by
    simp at hu
    subst hu
    rfl
  pos := by omega
theorem info_kb : (Try.prog.info? KB.t).map (fun i => (i.zero, i.size, i.bytes)) = some (some (.bool false), KB.size, KB.bytes) := by kernel_rfl
theorem mem_addR {out : List Rf} {x : Nd} {r : Rf} : r ∈ addR out x ↔ r ∈ out ∨ refN x = some r := by
  unfold addR
  split
  · rename_i y hy
    rw [hy]
    split
    · rename_i hm
      constructor
      · exact .inl
      · rintro (h | h)
        · exact h
        · injection h with h
          rw [← h]; exact hm
    · rw [List.mem_append, List.mem_singleton, Option.some.injEq]
      exact ⟨fun h => h.imp id Eq.symm, fun h => h.imp id Eq.symm⟩
  · rename_i hn
    rw [hn]
    simp
theorem mem_foldl {r : Rf} (l : List Nd) : ∀ out, r ∈ l.foldl addR out ↔ r ∈ out ∨ ∃ x, x ∈ l ∧ refN x = some r := by
  induction l with
  | nil => intro out; simp
  | cons y l ih =>
    intro out
    rw [List.foldl_cons, ih, mem_addR]
    constructor
    · rintro ((h | h) | ⟨x, hx, h⟩)
      · exact .inl h
      · exact .inr ⟨y, by simp, h⟩
      · exact .inr ⟨x, by simp [hx], h⟩
    · rintro (h | ⟨x, hx, h⟩)
      · exact .inl (.inl h)
      · rcases List.mem_cons.1 hx with rfl | hx
        · exact .inl (.inr h)
        · exact .inr ⟨x, hx, h⟩
theorem mem_ofL {l : List Nd} {r : Rf} : r ∈ ofL l ↔ ∃ x, x ∈ l ∧ refN x = some r := by
  unfold ofL
  rw [mem_foldl]
  simp
theorem nodup_addR {out : List Rf} {x : Nd} (h : out.Nodup) : (addR out x).Nodup := by
  unfold addR
  split
  · split
    · exact h
    · rename_i hm
      rw [List.nodup_append]
      refine ⟨h, by simp, fun a ha b hb e => ?_⟩
      rw [List.mem_singleton.1 hb] at e
      exact hm (e ▸ ha)
  · exact h
theorem nodup_ofL (l : List Nd) : (ofL l).Nodup := by
  unfold ofL
  suffices ∀ out : List Rf, out.Nodup → (l.foldl addR out).Nodup from this [] List.nodup_nil
  induction l with
  | nil => exact fun out h => h
  | cons y l ih => exact fun out h => ih _ (nodup_addR h)
/-- How often among the first. -/
def cntR (out : List Rf) (r : Rf) (k : Nat) : Nat := (out.take k).count r
theorem cnt_step {out : List Rf} {r y : Rf} {k : Nat} (h : out[k]? = some y) : cntR out r (k + 1) = cntR out r k + (if y = r then 1 else 0) := by
  unfold cntR
  rw [List.take_add_one, h, Option.toList_some, List.count_append, List.count_singleton]
  by_cases e : y = r
  · rw [if_pos e, e]; simp
  · rw [if_neg e]
    simp [e]
theorem cnt_le (out : List Rf) (r : Rf) (k : Nat) : cntR out r k ≤ k := Nat.le_trans List.count_le_length (by simp; omega)
theorem count_one {r : Rf} : ∀ (l : List Rf), l.Nodup → r ∈ l → l.count r = 1
  | [], _, h => by simp at h
  | y :: l, hd, h => by
    rw [List.nodup_cons] at hd
    by_cases e : y = r
    · subst e
      rw [List.count_cons_self, List.count_eq_zero_of_not_mem hd.1]
    · rw [List.count_cons_of_ne e]
      refine count_one l hd.2 ?_
      rcases List.mem_cons.1 h with h | h
      · exact absurd h.symm e
      · exact h
theorem cnt_all {out : List Rf} {r : Rf} (hd : out.Nodup) (hm : r ∈ out) : cntR out r out.length = 1 := by
  unfold cntR
  rw [List.take_length]
  exact count_one out hd hm

theorem set_true {V : List Bool} {j q n : Nat} (h : V[q]? = some true) (hj : j < n) (hV : V.length = n) : (V.set j true)[q]? = some true := by
  by_cases e : q = j
  · subst e
    rw [List.getElem?_set_self (by omega)]
  · rw [List.getElem?_set_ne (by omega)]
    exact h
set_option maxHeartbeats 6400000 in
set_option maxRecDepth 100000 in
theorem refsJust_walk (Ns : List Nd) (A : Option Addr) (cap : Nat) (w : World) (hA : Lies KN w A Ns) (hN : ∀ n, n ∈ Ns → rngN n) :
    Calls Try.prog 6 #[.agg #[.slice A Ns.length cap]] w fun e w' => e = .returned (.bool true) ∧ Below w.heap.size w w' := by
  have HN := Lib.hid hN
  clear hN
  go_enter Try.func6, Try.ntmps6
  go_wp2_with fail
  refine (pof_any Ns A cap _ (hA.below (bel_alloc (bel_refl w) _)) HN.out).mono ?_
  rintro e w1 ⟨v1, rfl, hV1, hb1⟩
  have k1 := (Blk.new w rfl 24 #[.slice A Ns.length cap]).below hb1
  have hW := bel_call (bel_alloc (bel_refl w) _) hb1
  obtain ⟨A1, c1, rfl, hM1, hol⟩ := ol_see' hV1
  clear hV1 hb1
  have rd1 := k1.rd
  have lt1 := k1.lt
  obtain ⟨out, hout⟩ : ∃ out, out = ofN Ns := ⟨_, rfl⟩
  rw [← hout] at hM1 hol ⊢
  have HOUT := Lib.hid hout
  clear hout
  go_wp2_with fail
  refine (pcheck_any Ns A cap _ (hA.below hW) HN.out).mono ?_
  rintro e w2 ⟨rfl, hb2⟩
  replace k1 := k1.below hb2
  replace hM1 := hM1.below hb2
  replace hW := bel_call hW hb2
  clear hb2
  replace rd1 := k1.rd
  replace lt1 := k1.lt
  obtain ⟨ck, hck⟩ : ∃ ck, ck = chkI (depthN Ns) := ⟨_, rfl⟩
  rw [← hck]
  rcases (show ck = 0 ∨ ck = 20 from hck ▸ chk_01 _) with rfl | rfl
  case inr =>
    have hlz : (out.length : Int) = 0 := by
      have h : out = [] := HOUT.out.trans (if_neg (by rw [← hck]; decide))
      rw [h]
      rfl
    clear hck
    go_wp2_with fail
    refine (lives_any _).mono ?_
    rintro e w8 ⟨rfl, hb8⟩
    replace hW := bel_call hW hb8
    clear hb8
    go_wp2_with fail
    go_ret
    exact ⟨rfl, hW⟩
  have HO : Hid (out = ofL Ns) := HOUT.out.trans (if_pos hck.symm)
  obtain ⟨d, hd, _⟩ := chk_ok hck.symm
  obtain ⟨_, _, _, _, _, hl2⟩ := run_of_depth hd
  have HND : Hid out.Nodup := (show out.Nodup by rw [HO.out]; exact nodup_ofL Ns)
  have hol2 : out.length ≤ 1024 := by
    have h := ofL_len Ns Ns.length
    rw [List.take_length, ← HO.out] at h
    omega
  have HMEM : Hid (∀ x r, x ∈ Ns → refN x = some r → r ∈ out) := (show ∀ x r, x ∈ Ns → refN x = some r → r ∈ out from fun x r hx hr => by rw [HO.out]; exact mem_ofL.2 ⟨x, hx, hr⟩)
  have HBACK : Hid (∀ r, r ∈ out → ∃ x, x ∈ Ns ∧ refN x = some r) := (show ∀ r, r ∈ out → ∃ x, x ∈ Ns ∧ refN x = some r from fun r hr => by rw [HO.out] at hr; exact mem_ofL.1 hr)
  clear hck hd
  obtain ⟨i0, hi0, hz0, hz1, hz2⟩ := info_parts info_kb
  obtain ⟨C, hC⟩ : ∃ C, C = madeCells (KB.enc false).toArray (out.length * KB.size) := ⟨_, rfl⟩
  have hmk : ∀ w, (Instr.makeSlice 38 (.int .i64 (out.length : Int)) (.int .i64 (out.length : Int))).run Try.prog w = .ok (.slice (some ⟨w.heap.size, 0, none⟩) out.length out.length) (w.alloc (.cells C 4)) := fun w => by
    have h := run_make (P := Try.prog) w 38 4 i0 (.bool false) Try.underlying38 hi0 hz0 .i64 .i64 (out.length : Int) (out.length : Int) (by omega) (by omega) (by rw [hz2]; show (1 : Int) * _ ≤ _; omega) (by omega)
    rw [h, hC, hz1, Int.toNat_natCast]
    rfl
  have hO0 : OL KB (w2.alloc (.cells C 4)) w2.heap.size (.slice (some ⟨w2.heap.size, 0, none⟩) out.length out.length) (List.replicate out.length false) := by
    rw [hC]
    exact ol_made w2 false out.length (by unfold maxLen; omega)
  clear hC hi0 hz0 hz1 hz2
  have HA2 := hA.below hW
  have hwu := k1.lt
  go_wp2_with fail
  clear hmk rd1 lt1
  go_loopw [5] (fun s5 wr => ∃ (i : Nat) (U : List Bool), i ≤ Ns.length ∧ s5 = .int .i64 i ∧ OL KB wr w2.heap.size (.slice (some ⟨w2.heap.size, 0, none⟩) out.length out.length) U ∧ U.length = out.length ∧
      Hid (∀ (j : Nat) x (k : Nat) r, j < i → Ns[j]? = some x → refN x = some r → out[k]? = some r → U[k]? = some true) ∧ Below w2.heap.size w2 wr) (fun s5 _ => Ns.length - (intOf s5).toNat)
  case atStart => exact ⟨0, List.replicate out.length false, Nat.zero_le _, rfl, hO0, by simp, (show ∀ (j : Nat) x (k : Nat) r, j < 0 → _ from fun j x k r h => absurd h (Nat.not_lt_zero _)), bel_alloc (bel_refl w2) _⟩
  case round =>
    obtain ⟨i, U, hi, rfl, hU, hUl, HU, hI⟩ := hrel
    clear hO0
    have k1' := k1.below hI
    have rd1 := k1'.rd
    have lt1 := k1'.lt
    by_cases hil : i < Ns.length
    · obtain ⟨x, hx⟩ : ∃ x, Ns[i]? = some x := ⟨_, List.getElem?_eq_getElem hil⟩
      obtain ⟨g, off, rfl, hg, _⟩ := (HA2.below hI) i x hx
      have HX := Lib.hid hx
      clear hx
      have i0 : (0 : Int) ≤ (i : Int) := by omega
      have i1 : (i : Int) < (Ns.length : Int) := by omega
      obtain ⟨k, tag, num, str, is, code, row, col, t, l, b, r, op, name, args⟩ := x
      obtain ⟨e0, e1, e2, e3, e4, e5, e6, e7, e8, e9, e10, e11, e12, e13, e14⟩ := node_at' (HA2.below hI) HX.out
      dsimp only at e0 e1 e2 e3 e4 e5 e6 e7 e8 e9 e10 e11 e12 e13 e14
      go_wp2_with fail
      refine (rref_any k tag num str is code row col t l b r op name args _).mono ?_
      rintro e w5 ⟨rfl, hb5⟩
      replace hU := hU.below hb5
      replace hI := bel_call hI hb5
      clear hb5 e0 e1 e2 e3 e4 e5 e6 e7 e8 e9 e10 e11 e12 e13 e14 rd1 lt1 k1'
      obtain ⟨rm, rt, rl, rb, rr, is0, hro, hyes, hno⟩ := refO_see (refN ⟨k, tag, num, str, is, code, row, col, t, l, b, r, op, name, args⟩)
      rw [hro]
      have HYES := Lib.hid hyes
      have HNO := Lib.hid hno
      clear hro hyes hno
      have hsz5 := hI.size
      go_wp2_with fail
      have k6' := Blk.new w5 rfl 37 #[.bool rm, .int .i64 rt, .int .i64 rl, .int .i64 rb, .int .i64 rr]
      have hU' := hU.alloc (.cells #[.bool rm, .int .i64 rt, .int .i64 rl, .int .i64 rb, .int .i64 rr] 37)
      have hI' := bel_alloc hI (.cells #[.bool rm, .int .i64 rt, .int .i64 rl, .int .i64 rb, .int .i64 rr] 37)
      have hubn : w2.heap.size ≠ w5.heap.size := Nat.ne_of_lt (hU.lt _ rfl).2
      go_loopw [8, 9] (fun s8 s9 wy => ∃ (j : Nat) (V : List Bool), j ≤ out.length ∧ s9 = .int .i64 j ∧ s8 = .int .i64 ((if is0 = true then cntR out ⟨rm, rt, rl, rb, rr⟩ j else 0 : Nat) : Int) ∧ OL KB wy w2.heap.size (.slice (some ⟨w2.heap.size, 0, none⟩) out.length out.length) V ∧ V.length = out.length ∧
          Hid (∀ q : Nat, U[q]? = some true → V[q]? = some true) ∧ Hid (is0 = true → ∀ q : Nat, q < j → out[q]? = some ⟨rm, rt, rl, rb, rr⟩ → V[q]? = some true) ∧ Blk wy w5.heap.size 37 #[.bool rm, .int .i64 rt, .int .i64 rl, .int .i64 rb, .int .i64 rr] ∧ Below w2.heap.size w2 wy) (fun _ s9 _ => out.length - (intOf s9).toNat)
      case atStart => exact ⟨0, U, Nat.zero_le _, rfl, by cases is0 <;> simp [cntR], hU', hUl, (show ∀ q : Nat, U[q]? = some true → U[q]? = some true from fun _ h => h), (show is0 = true → ∀ q : Nat, q < 0 → _ from fun _ q h => absurd h (Nat.not_lt_zero _)), k6', hI'⟩
      case round =>
        obtain ⟨j, V, hj, rfl, rfl, hV, hVl, HM, HH, k6, hJ⟩ := hrel
        clear k6' hU' hI'
        have rd6 := k6.rd
        have lt6 := k6.lt
        by_cases hjl : j < out.length
        · cases is0 with
          | false =>
            go_wp2_with fail
            go_quiet (fail)
            go_wp2_with fail
            go_roundw
            case rel => exact ⟨j + 1, V, by omega, by go_num, rfl, hV.drewN nq, hVl, HM, Lib.hid (fun h => by cases h), k6.drewN nq, bel_drewN hJ nq⟩
            case measure => simp [intOf]; omega
          | true =>
            obtain ⟨y, hy⟩ : ∃ y, out[j]? = some y := ⟨_, List.getElem?_eq_getElem hjl⟩
            obtain ⟨gy, oy, rfl, hgy, c0, c1, c2, c3, c4⟩ := ref_at (hM1.below hJ) hy
            have HCS := Lib.hid (cnt_step (r := ⟨rm, rt, rl, rb, rr⟩) hy)
            have HY := Lib.hid hy
            have hcl := cnt_le out ⟨rm, rt, rl, rb, rr⟩ j
            clear hy
            obtain ⟨ym, yt, yl, yb, yr⟩ := y
            dsimp only at c0 c1 c2 c3 c4
            have heq := fun w => eql_ref w ym yt yl yb yr rm rt rl rb rr
            have j0 : (0 : Int) ≤ (j : Int) := by omega
            have j1 : (j : Int) < (out.length : Int) := by omega
            obtain ⟨vb, hvb⟩ : ∃ vb, V[j]? = some vb := ⟨_, List.getElem?_eq_getElem (by omega)⟩
            have hV1 : OL KB wr w2.heap.size (.slice (some ⟨w2.heap.size, 0, none⟩) V.length out.length) V := by rw [hVl]; exact hV
            have hje : j * KB.size + 0 = j := by show j * 1 + 0 = j; omega
            have hput : ∀ n, OL KB ((wr.drewN n).setCell ⟨w2.heap.size, j, none⟩ (.bool true)) w2.heap.size (.slice (some ⟨w2.heap.size, 0, none⟩) out.length out.length) (V.set j true) := fun n => by
              have h := (hV1.drewN n).put (j := 0) (x' := true) (u := .bool true) hvb (by decide) rfl
              rw [hje, hVl] at h
              exact h
            have hcell := hV1.at_ hvb (j := 0) rfl
            rw [hje] at hcell
            have fzu := hV1.fz
            have ltu := (hV.lt _ rfl).2
            obtain ⟨cn, hcn⟩ : ∃ cn, cn = cntR out ⟨rm, rt, rl, rb, rr⟩ j := ⟨_, rfl⟩
            rw [if_pos rfl, ← hcn]
            rw [← hcn] at hcl HCS
            clear hcn
            have HPUT := Lib.hid hput
            clear hput hV1 hje
            have hdec := Classical.em ((⟨ym, yt, yl, yb, yr⟩ : Rf) = ⟨rm, rt, rl, rb, rr⟩)
            cases hde : decide ((⟨ym, yt, yl, yb, yr⟩ : Rf) = ⟨rm, rt, rl, rb, rr⟩) with
            | true =>
              rw [hde] at heq
              have HDE := Lib.hid (of_decide_eq_true hde)
              clear hde hdec
              go_wp2_with fail
              go_quiet (fail)
              go_wp2_with fail
              go_roundw
              case rel =>
                refine ⟨j + 1, V.set j true, by omega, by go_num, ?_, HPUT.out nq, by simpa using hVl, ?_, ?_, (k6.drewN nq).far (by omega) _, bel_set (bel_drewN hJ nq) (Nat.le_refl _) _⟩
                · first | (rw [HCS.out, if_pos HDE.out]; simp; done) | (rw [if_pos rfl, HCS.out, if_pos HDE.out]; simp)
                · exact (show ∀ q : Nat, U[q]? = some true → (V.set j true)[q]? = some true from fun q h => set_true (HM.out q h) hjl hVl)
                · exact Lib.hid (fun _ q hq h => by
                    by_cases e : q = j
                    · subst e
                      rw [List.getElem?_set_self (by omega)]
                    · rw [List.getElem?_set_ne (by omega)]
                      exact HH.out (by trivial) q (by omega) h)
              case measure => simp [intOf]; omega
            | false =>
              rw [hde] at heq
              have HDE := Lib.hid (of_decide_eq_false hde)
              clear hde hdec
              go_wp2_with fail
              go_quiet (fail)
              go_wp2_with fail
              go_roundw
              case rel =>
                refine ⟨j + 1, V, by omega, by go_num, ?_, hV.drewN nq, hVl, HM, ?_, k6.drewN nq, bel_drewN hJ nq⟩
                · first | (rw [HCS.out, if_neg HDE.out]; simp; done) | (rw [if_pos rfl, HCS.out, if_neg HDE.out]; simp)
                · exact Lib.hid (fun _ q hq h => by
                    by_cases e : q = j
                    · subst e
                      rw [HY.out] at h
                      injection h with h
                      exact absurd h HDE.out
                    · exact HH.out (by trivial) q (by omega) h)
              case measure => simp [intOf]; omega
        · obtain rfl : j = out.length := by omega
          have HNEW : Hid (∀ (j : Nat) x (k : Nat) r, j < i + 1 → Ns[j]? = some x → refN x = some r → out[k]? = some r → V[k]? = some true) := (show ∀ (j : Nat) x (k : Nat) r, j < i + 1 → Ns[j]? = some x → refN x = some r → out[k]? = some r → V[k]? = some true from fun j' x' k' r' hj' hx' hr' hk' => by
            rcases Nat.lt_succ_iff_lt_or_eq.1 hj' with h | rfl
            · exact HM.out _ (HU.out j' x' k' r' h hx' hr' hk')
            · rw [HX.out] at hx'
              injection hx' with hx'
              subst hx'
              cases his : is0 with
              | false => rw [HNO.out his] at hr'; cases hr'
              | true =>
                have hr2 := HYES.out his
                rw [hr2] at hr'
                injection hr' with hr'
                subst hr'
                exact HH.out his k' (List.getElem?_eq_some_iff.1 hk').1 hk')
          cases is0 with
          | false =>
            go_wp2_with fail
            go_roundw
            case rel => exact ⟨i + 1, V, by omega, by go_num, hV, hVl, HNEW, hJ⟩
            case measure => simp [intOf]; omega
          | true =>
            have hc1 : cntR out ⟨rm, rt, rl, rb, rr⟩ out.length = 1 := cnt_all HND.out (HMEM.out _ _ (List.mem_of_getElem? HX.out) (HYES.out (by trivial)))
            rw [if_pos rfl, hc1]
            clear hc1
            go_wp2_with fail
            go_roundw
            case rel => exact ⟨i + 1, V, by omega, by go_num, hV, hVl, HNEW, hJ⟩
            case measure => simp [intOf]; omega
    · obtain rfl : i = Ns.length := by omega
      have HALL : Hid (∀ q : Nat, q < out.length → U[q]? = some true) := (show ∀ q : Nat, q < out.length → U[q]? = some true from fun q hq => by
        have hoq := List.getElem?_eq_getElem hq
        obtain ⟨x, hx, hr⟩ := HBACK.out _ (List.mem_of_getElem? hoq)
        obtain ⟨j, hj⟩ := List.getElem?_of_mem hx
        exact HU.out j x q _ (List.getElem?_eq_some_iff.1 hj).1 hj hr hoq)
      have hU1 : OL KB wr w2.heap.size (.slice (some ⟨w2.heap.size, 0, none⟩) U.length out.length) U := by rw [hUl]; exact hU
      have hW2 := bel_call hW hI
      clear hi hil HU
      go_wp2_with fail
      clear rd1 lt1 k1'
      go_loopw [10] (fun s wy => ∃ j : Nat, j ≤ out.length ∧ s = .int .i64 j ∧ wy = wr) (fun s _ => out.length - (intOf s).toNat)
      case atStart => exact ⟨0, Nat.zero_le _, rfl, by first | trivial | rfl⟩
      case round =>
        obtain ⟨j, hj, rfl, hwy⟩ := hrel
        obtain rfl := hwy.symm
        by_cases hjl : j < out.length
        · have hcell := hU1.at_ (HALL.out j hjl) (j := 0) rfl
          rw [show j * KB.size + 0 = j by show j * 1 + 0 = j; omega] at hcell
          have j0 : (0 : Int) ≤ (j : Int) := by omega
          have j1 : (j : Int) < (out.length : Int) := by omega
          go_wp2_with fail
          go_roundw
          case rel => exact ⟨j + 1, by omega, by go_num, by first | trivial | rfl⟩
          case measure => simp [intOf]; omega
        · obtain rfl : j = out.length := by omega
          clear hj hjl
          go_wp2_with fail
          refine (lives_any _).mono ?_
          rintro e w8 ⟨rfl, hb8⟩
          have hW3 := bel_call hW2 hb8
          clear hb8
          go_wp2_with fail
          go_ret
          exact ⟨rfl, hW3⟩
end Go.Proofs.Ytifmfkofadhieaa

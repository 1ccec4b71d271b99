/-
  Formulas: contracts of orielref05.Same, refs.Same. Conditions: none.
-/
import Derived.Test.YtifmfkofadhieaaRROf
namespace Go.Proofs.Ytifmfkofadhieaa
open Go.ChangeShapes Go.WideShapes Go.ChangeAt Go.RowKit Go.Deep

def eqNd (x y : Nd) : Bool := eqN x.k x.tag x.num x.str x.is x.code x.row x.col x.t x.l x.b x.r x.op x.name x.args y.k y.tag y.num y.str y.is y.code y.row y.col y.t y.l y.b y.r y.op y.name y.args
open Classical in
/-- Are two rows of nodes the same? -/
noncomputable def sameB (L M : List Nd) : Bool := decide (L.length = M.length ∧ ∀ (j : Nat) x y, L[j]? = some x → M[j]? = some y → eqNd x y = true)
section
variable {L M : List Nd}
theorem same_len (h : L.length ≠ M.length) : sameB L M = false := by simp [sameB, h]
theorem same_no {i : Nat} {x y : Nd} (hx : L[i]? = some x) (hy : M[i]? = some y) (h : eqNd x y = false) : sameB L M = false := by
  have : ¬ (L.length = M.length ∧ ∀ (j : Nat) x y, L[j]? = some x → M[j]? = some y → eqNd x y = true) := fun H => by
    have := H.2 i x y hx hy
    rw [h] at this
    cases this
  simp only [sameB, decide_eq_false_iff_not]
  exact this
theorem same_yes (h : L.length = M.length) (hs : ∀ (j : Nat) x y, j < L.length → L[j]? = some x → M[j]? = some y → eqNd x y = true) : sameB L M = true := by
  have : (L.length = M.length ∧ ∀ (j : Nat) x y, L[j]? = some x → M[j]? = some y → eqNd x y = true) := ⟨h, fun j x y hx hy => hs j x y (List.getElem?_eq_some_iff.1 hx).1 hx hy⟩
  simp only [sameB, decide_eq_true_eq]
  exact this
theorem eqNd_self (x : Nd) : eqNd x x = true := by simp [eqNd, eqN, eqV]
theorem beqL_comm (a b : List UInt8) : (a == b) = (b == a) := by
  rw [Bool.eq_iff_iff, beq_iff_eq, beq_iff_eq]
  exact eq_comm
theorem eqNd_comm (x y : Nd) : eqNd x y = eqNd y x := by
  have hb : ∀ a b : Bool, (a == b) = (b == a) := by decide
  have hi : ∀ a b : Int, decide (a = b) = decide (b = a) := fun a b => decide_eq_decide.2 eq_comm
  simp only [eqNd, eqN, eqV]
  rw [hi x.k, hi x.tag, hi x.num, beqL_comm x.str.toList, hb x.is, hi x.code, hi x.row, hi x.col, hi x.t, hi x.l, hi x.b, hi x.r, hi x.op, beqL_comm x.name.toList, hi x.args]
theorem same_self (L : List Nd) : sameB L L = true := same_yes rfl fun j x y _ hx hy => by
  rw [hx] at hy
  injection hy with hy
  rw [hy]
  exact eqNd_self y
theorem same_comm (L M : List Nd) : sameB L M = sameB M L := by
  unfold sameB
  refine decide_eq_decide.2 ⟨fun h => ⟨h.1.symm, fun j x y hx hy => ?_⟩, fun h => ⟨h.1.symm, fun j x y hx hy => ?_⟩⟩
  · rw [eqNd_comm]; exact h.2 j y x hy hx
  · rw [eqNd_comm]; exact h.2 j y x hy hx
end

set_option maxHeartbeats 3200000 in
set_option maxRecDepth 100000 in
theorem rsame_any (Ns Ms : List Nd) (A B : Option Addr) (ca cb : Nat) (w : World) (hA : Lies KN w A Ns) (hB : Lies KN w B Ms) (hl : Ns.length ≤ 9223372036854775807) :
    Calls Try.prog 13 #[.agg #[.slice A Ns.length ca], .agg #[.slice B Ms.length cb]] w fun e w' => e = .returned (.bool (sameB Ns Ms)) ∧ Below w.heap.size w w' := by
  obtain ⟨R, hR⟩ : ∃ R, R = sameB Ns Ms := ⟨_, rfl⟩
  rw [← hR]
  have HR := Lib.hid hR
  clear hR
  by_cases hlen : Ns.length = Ms.length
  case neg =>
    have HF : Hid (R = false) := HR.out.trans (same_len hlen)
    have b1 : ((Ns.length : Int) != (Ms.length : Int)) = true := by rw [bne_iff_ne]; omega
    go_enter Try.func13, Try.ntmps13
    go_wp2_with fail
    go_ret
    exact ⟨by rw [HF.out]; rfl, bel_alloc (bel_alloc (bel_refl w) _) _⟩
  have HLEN := Lib.hid hlen
  have b1 : ((Ns.length : Int) != (Ms.length : Int)) = false := by rw [bne_eq_false_iff_eq]; omega
  clear hlen
  go_enter Try.func13, Try.ntmps13
  go_wp2_with fail
  have k2' := (Blk.new w rfl 24 #[.slice A Ns.length ca]).alloc (.cells #[.slice B Ms.length cb] 24)
  have k3' := Blk.new (w.alloc (.cells #[.slice A Ns.length ca] 24)) (g := w.heap.size + 1) (by simp) 24 #[.slice B Ms.length cb]
  have hw' := bel_alloc (bel_alloc (bel_refl w) (.cells #[.slice A Ns.length ca] 24)) (.cells #[.slice B Ms.length cb] 24)
  go_loopw [5] (fun s wr => ∃ (i : Nat), i ≤ Ns.length ∧ s = .int .i64 i ∧ Blk wr w.heap.size 24 #[.slice A Ns.length ca] ∧ Blk wr (w.heap.size + 1) 24 #[.slice B Ms.length cb] ∧ Hid (∀ (j : Nat) x y, j < i → Ns[j]? = some x → Ms[j]? = some y → eqNd x y = true) ∧ Below w.heap.size w wr) (fun s _ => Ns.length - (intOf s).toNat)
  case atStart => exact ⟨0, Nat.zero_le _, rfl, k2', k3', (show ∀ (j : Nat) x y, j < 0 → Ns[j]? = some x → Ms[j]? = some y → eqNd x y = true from fun j x y h => absurd h (Nat.not_lt_zero _)), hw'⟩
  case round =>
    obtain ⟨i, hi, rfl, k2, k3, HS, hW⟩ := hrel
    clear k2' k3' hw'
    have rd2 := k2.rd
    have lt2 := k2.lt
    have rd3 := k3.rd
    have lt3 := k3.lt
    by_cases hil : i < Ns.length
    · obtain ⟨x, hx⟩ : ∃ x, Ns[i]? = some x := ⟨_, List.getElem?_eq_getElem hil⟩
      obtain ⟨y, hy⟩ : ∃ y, Ms[i]? = some y := ⟨_, List.getElem?_eq_getElem (by have := HLEN.out; omega)⟩
      obtain ⟨g, off, rfl, hg, _⟩ := (hA.below hW) i x hx
      obtain ⟨gb, ob, rfl, hgb, _⟩ := (hB.below hW) i y hy
      obtain ⟨e0, e1, e2, e3, e4, e5, e6, e7, e8, e9, e10, e11, e12, e13, e14⟩ := node_at' (hA.below hW) hx
      obtain ⟨f0, f1, f2, f3, f4, f5, f6, f7, f8, f9, f10, f11, f12, f13, f14⟩ := node_at' (hB.below hW) hy
      have HX := Lib.hid hx
      have HY := Lib.hid hy
      clear hx hy
      have i0 : (0 : Int) ≤ (i : Int) := by omega
      have i1 : (i : Int) < (Ns.length : Int) := by omega
      have i2 : (i : Int) < (Ms.length : Int) := by have := HLEN.out; omega
      have heq := fun w => neq_node w x.k x.tag x.num x.str x.is x.code x.row x.col x.t x.l x.b x.r x.op x.name x.args y.k y.tag y.num y.str y.is y.code y.row y.col y.t y.l y.b y.r y.op y.name y.args
      obtain ⟨q, hq⟩ : ∃ q, q = eqNd x y := ⟨_, rfl⟩
      have heq' : ∀ w, _ = Result.ok (Value.bool (!q)) w := fun w => (heq w).trans (by rw [hq]; rfl)
      have HQ := Lib.hid hq
      clear heq hq b1
      cases q with
      | false =>
        have HF : Hid (R = false) := HR.out.trans (same_no HX.out HY.out HQ.out.symm)
        go_wp2_with fail
        go_quiet (fail)
        go_wp2_with fail
        go_ret
        exact ⟨by rw [HF.out]; rfl, bel_drewN hW nq⟩
      | true =>
        go_wp2_with fail
        go_quiet (fail)
        go_wp2_with fail
        go_roundw
        case rel =>
          refine ⟨i + 1, by omega, by go_num, k2.drewN nq, k3.drewN nq, (show ∀ (j : Nat) x y, j < i + 1 → Ns[j]? = some x → Ms[j]? = some y → eqNd x y = true from fun j x' y' hj hx' hy' => ?_), bel_drewN hW nq⟩
          rcases Nat.lt_succ_iff_lt_or_eq.1 hj with h | rfl
          · exact HS.out j x' y' h hx' hy'
          · rw [HX.out] at hx'
            rw [HY.out] at hy'
            injection hx' with hx'
            injection hy' with hy'
            rw [← hx', ← hy']
            exact HQ.out.symm
        case measure => simp [intOf]; omega
    · obtain rfl : i = Ns.length := by omega
      have HF : Hid (R = true) := HR.out.trans (same_yes HLEN.out HS.out)
      go_wp2_with fail
      go_ret
      exact ⟨by rw [HF.out]; rfl, hW⟩

set_option maxHeartbeats 3200000 in
set_option maxRecDepth 100000 in
theorem equal_any (Ns Ms : List Nd) (A B : Option Addr) (ca cb : Nat) (w : World) (hA : Lies KN w A Ns) (hB : Lies KN w B Ms) (hl : Ns.length ≤ 9223372036854775807) :
    Calls Try.prog 24 #[.slice A Ns.length ca, .slice B Ms.length cb] w fun e w' => e = .returned (.bool (sameB Ns Ms)) ∧ Below w.heap.size w w' := by
  obtain ⟨R, hR⟩ : ∃ R, R = sameB Ns Ms := ⟨_, rfl⟩
  rw [← hR]
  have HR := Lib.hid hR
  clear hR
  by_cases hlen : Ns.length = Ms.length
  case neg =>
    have HF : Hid (R = false) := HR.out.trans (same_len hlen)
    have b1 : ((Ns.length : Int) != (Ms.length : Int)) = true := by rw [bne_iff_ne]; omega
    go_enter Try.func24, Try.ntmps24
    go_wp2_with fail
    go_ret
    exact ⟨by rw [HF.out]; rfl, bel_refl w⟩
  have HLEN := Lib.hid hlen
  have b1 : ((Ns.length : Int) != (Ms.length : Int)) = false := by rw [bne_eq_false_iff_eq]; omega
  clear hlen
  go_enter Try.func24, Try.ntmps24
  go_wp2_with fail
  have hw' := bel_refl w
  go_loopw [13] (fun s wr => ∃ (i : Nat), i ≤ Ns.length ∧ s = .int .i64 i ∧ Hid (∀ (j : Nat) x y, j < i → Ns[j]? = some x → Ms[j]? = some y → eqNd x y = true) ∧ Below w.heap.size w wr) (fun s _ => Ns.length - (intOf s).toNat)
  case atStart => exact ⟨0, Nat.zero_le _, rfl, (show ∀ (j : Nat) x y, j < 0 → Ns[j]? = some x → Ms[j]? = some y → eqNd x y = true from fun j x y h => absurd h (Nat.not_lt_zero _)), hw'⟩
  case round =>
    obtain ⟨i, hi, rfl, HS, hW⟩ := hrel
    clear hw'
    by_cases hil : i < Ns.length
    · obtain ⟨x, hx⟩ : ∃ x, Ns[i]? = some x := ⟨_, List.getElem?_eq_getElem hil⟩
      obtain ⟨y, hy⟩ : ∃ y, Ms[i]? = some y := ⟨_, List.getElem?_eq_getElem (by have := HLEN.out; omega)⟩
      obtain ⟨g, off, rfl, hg, _⟩ := (hA.below hW) i x hx
      obtain ⟨gb, ob, rfl, hgb, _⟩ := (hB.below hW) i y hy
      obtain ⟨e0, e1, e2, e3, e4, e5, e6, e7, e8, e9, e10, e11, e12, e13, e14⟩ := node_at' (hA.below hW) hx
      obtain ⟨f0, f1, f2, f3, f4, f5, f6, f7, f8, f9, f10, f11, f12, f13, f14⟩ := node_at' (hB.below hW) hy
      have HX := Lib.hid hx
      have HY := Lib.hid hy
      clear hx hy
      have i0 : (0 : Int) ≤ (i : Int) := by omega
      have i1 : (i : Int) < (Ns.length : Int) := by omega
      have i2 : (i : Int) < (Ms.length : Int) := by have := HLEN.out; omega
      have heq := fun w => neq_node w x.k x.tag x.num x.str x.is x.code x.row x.col x.t x.l x.b x.r x.op x.name x.args y.k y.tag y.num y.str y.is y.code y.row y.col y.t y.l y.b y.r y.op y.name y.args
      obtain ⟨q, hq⟩ : ∃ q, q = eqNd x y := ⟨_, rfl⟩
      have heq' : ∀ w, _ = Result.ok (Value.bool (!q)) w := fun w => (heq w).trans (by rw [hq]; rfl)
      have HQ := Lib.hid hq
      clear heq hq b1
      cases q with
      | false =>
        have HF : Hid (R = false) := HR.out.trans (same_no HX.out HY.out HQ.out.symm)
        go_wp2_with fail
        go_quiet (fail)
        go_wp2_with fail
        go_ret
        exact ⟨by rw [HF.out]; rfl, bel_drewN hW nq⟩
      | true =>
        go_wp2_with fail
        go_quiet (fail)
        go_wp2_with fail
        go_roundw
        case rel =>
          refine ⟨i + 1, by omega, by go_num, (show ∀ (j : Nat) x y, j < i + 1 → Ns[j]? = some x → Ms[j]? = some y → eqNd x y = true from fun j x' y' hj hx' hy' => ?_), bel_drewN hW nq⟩
          rcases Nat.lt_succ_iff_lt_or_eq.1 hj with h | rfl
          · exact HS.out j x' y' h hx' hy'
          · rw [HX.out] at hx'
            rw [HY.out] at hy'
            injection hx' with hx'
            injection hy' with hy'
            rw [← hx', ← hy']
            exact HQ.out.symm
        case measure => simp [intOf]; omega
    · obtain rfl : i = Ns.length := by omega
      have HF : Hid (R = true) := HR.out.trans (same_yes HLEN.out HS.out)
      go_wp2_with fail
      go_ret
      exact ⟨by rw [HF.out]; rfl, hW⟩

theorem psame_any (Ns Ms : List Nd) (A B : Option Addr) (ca cb : Nat) (w : World) (hA : Lies KN w A Ns) (hB : Lies KN w B Ms) (hl : Ns.length ≤ 9223372036854775807) :
    Calls Try.prog 21 #[.agg #[.slice A Ns.length ca], .agg #[.slice B Ms.length cb]] w fun e w' => e = .returned (.bool (sameB Ns Ms)) ∧ Below w.heap.size w w' := by
  go_enter Try.func21, Try.ntmps21
  go_wp2_with fail
  refine (equal_any Ns Ms A B ca cb _ (hA.below (bel_alloc (bel_alloc (bel_refl w) _) _)) (hB.below (bel_alloc (bel_alloc (bel_refl w) _) _)) hl).mono ?_
  rintro e w1 ⟨rfl, hb⟩
  have hw := bel_call (bel_alloc (bel_alloc (bel_refl w) _) _) hb
  clear hb
  go_wp2_with fail
  go_ret
  exact ⟨rfl, hw⟩
end Go.Proofs.Ytifmfkofadhieaa

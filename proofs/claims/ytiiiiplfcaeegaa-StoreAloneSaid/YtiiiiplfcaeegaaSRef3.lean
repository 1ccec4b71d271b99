/-
  The document's store: contracts of Get, Next, Drop. Conditions: those of each theorem.
-/
import Derived.Test.YtiiiiplfcaeegaaSRef2
namespace Go.Proofs.Ytiiiiplfcaeegaa
open Go.ChangeShapes Go.WideShapes Go.ChangeAt Go.RowKit Go.Deep

def atI (r c : Int) (x : Itm) : Bool := x.r == r && x.c == c
def getL (r c : Int) (L : List Itm) : Int := match L.find? (atI r c) with
  | none => -1
  | some x => x.k

set_option maxHeartbeats 1600000 in
set_option maxRecDepth 100000 in
theorem rget_any (yb : Nat) (L : List Itm) (A : Option Addr) (cap : Nat) (r c : Int) (w : World) (h : YIs w yb L A cap) :
    Calls Try.prog 29 #[.pointer (some ⟨yb, 0, none⟩), .agg #[.int .i64 r, .int .i64 c]] w fun e w' => e = .returned (.int .i64 (getL r c L)) ∧ Below w.heap.size w w' := by
  obtain ⟨G, hG⟩ : ∃ G, G = getL r c L := ⟨_, rfl⟩
  rw [← hG]
  have HG : Hid (G = getL r c L) := hG
  clear hG
  go_enter Try.func29, Try.ntmps29
  go_wp2_with fail
  have k3' := Blk.new w rfl 41 #[.int .i64 r, .int .i64 c]
  have hw' := bel_alloc (bel_refl w) (.cells #[.int .i64 r, .int .i64 c] 41)
  have hlty := h.top.lt
  have hmax : L.length ≤ 9223372036854775807 := by
    obtain ⟨A', cap', e, h1, h2, _, _⟩ := h.lst.see
    unfold maxLen at h2
    omega
  go_loopw [5] (fun s5 wr => ∃ k : Nat, k ≤ L.length ∧ s5 = .int .i64 k ∧ Hid (getL r c (L.drop k) = getL r c L) ∧ Blk wr w.heap.size 41 #[.int .i64 r, .int .i64 c] ∧ Below w.heap.size w wr)
    (fun s5 _ => L.length - (intOf s5).toNat)
  case atStart => exact ⟨0, Nat.zero_le _, rfl, by show (_ = _); simp, k3', hw'⟩
  case round =>
    obtain ⟨k, hk, rfl, hg, k3, hW⟩ := hrel
    clear k3' hw'
    have hY := h.below hW
    have rd0 := hY.top.rd
    have lt0 := hY.top.lt
    have rd3 := k3.rd
    have lt3 := k3.lt
    by_cases hkl : k < L.length
    · obtain ⟨x, hx⟩ : ∃ x, L[k]? = some x := ⟨_, List.getElem?_eq_getElem hkl⟩
      have hstep : getL r c (L.drop k) = if atI r c x then x.k else getL r c (L.drop (k + 1)) := by
        obtain ⟨hk', e⟩ := List.getElem?_eq_some_iff.1 hx
        rw [List.drop_eq_getElem_cons hk', e]
        unfold getL
        rw [List.find?_cons]
        cases atI r c x <;> rfl
      obtain ⟨b1, o1, hA, hb1, e0, e1, e2⟩ := hY.at_ hx
      obtain ⟨xr, xc, xk⟩ := x
      dsimp only at e0 e1 e2 hstep
      clear hx hY
      subst hA
      by_cases h1 : xr = r
      · by_cases h2 : xc = c
        · subst h1 h2
          rw [if_pos (by simp [atI])] at hstep
          have hgx : G = xk := by
            rw [HG.out, ← hg.out, hstep]
          clear hstep
          subst hgx
          go_wp2_with fail
          go_quiet (fail)
          go_wp2_with fail
          go_ret
          exact ⟨rfl, bel_drewN hW _⟩
        · have hb : (xc == c) = false := by
            rw [beq_eq_false_iff_ne]
            exact h2
          subst h1
          rw [if_neg (by simp [atI, hb])] at hstep
          have HS : Hid (getL xr c (L.drop k) = getL xr c (L.drop (k + 1))) := hstep
          clear hstep h2
          go_wp2_with fail
          go_quiet (fail)
          go_wp2_with fail
          go_roundw
          case rel => exact ⟨k + 1, by omega, by go_num, by show (_ = _); rw [← HS.out]; exact hg.out, k3.drewN _, bel_drewN hW _⟩
          case measure => simp [intOf]; omega
      · have hb : (xr == r) = false := by
          rw [beq_eq_false_iff_ne]
          exact h1
        rw [if_neg (by simp [atI, hb])] at hstep
        have HS : Hid (getL r c (L.drop k) = getL r c (L.drop (k + 1))) := hstep
        clear hstep h1
        go_wp2_with fail
        go_quiet (fail)
        go_wp2_with fail
        go_roundw
        case rel => exact ⟨k + 1, by omega, by go_num, by show (_ = _); rw [← HS.out]; exact hg.out, k3.drewN _, bel_drewN hW _⟩
        case measure => simp [intOf]; omega
    · have hgx : G = -1 := by
        rw [HG.out, ← hg.out, List.drop_eq_nil_of_le (by omega)]
        rfl
      subst hgx
      go_wp2_with fail
      go_ret
      exact ⟨rfl, hW⟩

def fitI (t l b r ax ay : Int) (x : Itm) : Bool := inB t l b r x.r x.c && befB ax ay x.r x.c
def nextLV : Option Itm → Value
  | none => .tuple #[.agg #[.int .i64 0, .int .i64 0], .bool false]
  | some x => .tuple #[.agg #[.int .i64 x.r, .int .i64 x.c], .bool true]

set_option maxHeartbeats 1600000 in
set_option maxRecDepth 100000 in
theorem rnext_any (yb : Nat) (L : List Itm) (A : Option Addr) (cap : Nat) (t l b r ax ay : Int) (w : World) (h : YIs w yb L A cap) :
    Calls Try.prog 30 #[.pointer (some ⟨yb, 0, none⟩), .agg #[.int .i64 t, .int .i64 l, .int .i64 b, .int .i64 r], .agg #[.int .i64 ax, .int .i64 ay]] w fun e w' =>
      e = .returned (nextLV (L.find? (fitI t l b r ax ay))) ∧ Below w.heap.size w w' := by
  obtain ⟨G, hG⟩ : ∃ G, G = nextLV (L.find? (fitI t l b r ax ay)) := ⟨_, rfl⟩
  rw [← hG]
  have HG : Hid (G = nextLV (L.find? (fitI t l b r ax ay))) := hG
  clear hG
  go_enter Try.func30, Try.ntmps30
  go_wp2_with fail
  have k4' := (Blk.new w rfl 24 #[.int .i64 t, .int .i64 l, .int .i64 b, .int .i64 r]).alloc (.cells #[.int .i64 ax, .int .i64 ay] 41)
  have k5' := Blk.new (w.alloc (.cells #[.int .i64 t, .int .i64 l, .int .i64 b, .int .i64 r] 24)) (g := w.heap.size + 1) (by simp) 41 #[.int .i64 ax, .int .i64 ay]
  have hw' := bel_alloc (bel_alloc (bel_refl w) (.cells #[.int .i64 t, .int .i64 l, .int .i64 b, .int .i64 r] 24)) (.cells #[.int .i64 ax, .int .i64 ay] 41)
  have k6' := Blk.new ((w.alloc (.cells #[.int .i64 t, .int .i64 l, .int .i64 b, .int .i64 r] 24)).alloc (.cells #[.int .i64 ax, .int .i64 ay] 41)) (g := w.heap.size + 1 + 1) (by simp) 41 #[.int .i64 0, .int .i64 0]
  have hlty := h.top.lt
  have hmax : L.length ≤ 9223372036854775807 := by
    obtain ⟨A', cap', e, h1, h2, _, _⟩ := h.lst.see
    unfold maxLen at h2
    omega
  go_loopw [8] (fun s8 wr => ∃ k : Nat, k ≤ L.length ∧ s8 = .int .i64 k ∧ Hid ((L.drop k).find? (fitI t l b r ax ay) = L.find? (fitI t l b r ax ay)) ∧ Blk wr w.heap.size 24 #[.int .i64 t, .int .i64 l, .int .i64 b, .int .i64 r] ∧
      Blk wr (w.heap.size + 1) 41 #[.int .i64 ax, .int .i64 ay] ∧ Blk wr (w.heap.size + 1 + 1) 41 #[.int .i64 0, .int .i64 0] ∧ Below w.heap.size w wr)
    (fun s8 _ => L.length - (intOf s8).toNat)
  case atStart => exact ⟨0, Nat.zero_le _, rfl, by show (_ = _); simp, k4'.alloc _, k5'.alloc _, k6', bel_alloc hw' _⟩
  case round =>
    obtain ⟨k, hk, rfl, hg, k4, k5, k6, hW⟩ := hrel
    clear k4' k5' k6' hw'
    have hY := h.below hW
    have rd0 := hY.top.rd
    have lt0 := hY.top.lt
    have rd4 := k4.rd
    have lt4 := k4.lt
    have rd5 := k5.rd
    have lt5 := k5.lt
    have rd6 := k6.rd
    have lt6 := k6.lt
    have fz6 := k6.fz
    by_cases hkl : k < L.length
    · obtain ⟨x, hx⟩ : ∃ x, L[k]? = some x := ⟨_, List.getElem?_eq_getElem hkl⟩
      have hstep : (L.drop k).find? (fitI t l b r ax ay) = if fitI t l b r ax ay x then some x else (L.drop (k + 1)).find? (fitI t l b r ax ay) := by
        obtain ⟨hk', e⟩ := List.getElem?_eq_some_iff.1 hx
        rw [List.drop_eq_getElem_cons hk', e, List.find?_cons]
        cases fitI t l b r ax ay x <;> rfl
      obtain ⟨b1, o1, hA, hb1, e0, e1, e2⟩ := hY.at_ hx
      obtain ⟨xr, xc, xk⟩ := x
      dsimp only at e0 e1 e2 hstep
      clear hx
      subst hA
      have HS : Hid ((L.drop k).find? (fitI t l b r ax ay) = if fitI t l b r ax ay ⟨xr, xc, xk⟩ then some ⟨xr, xc, xk⟩ else (L.drop (k + 1)).find? (fitI t l b r ax ay)) := hstep
      clear hstep
      go_wp2_with fail
      go_still_tail 9, (by kernel_rfl)
      go_wp2_with fail
      refine (rin_any t l b r xr xc wr.drew).mono ?_
      rintro e w1 ⟨rfl, hb5⟩
      replace k4 : Blk w1 _ _ _ := Blk.below k4.drew hb5
      replace k5 : Blk w1 _ _ _ := Blk.below k5.drew hb5
      replace k6 : Blk w1 _ _ _ := Blk.below k6.drew hb5
      replace hW := bel_call (bel_drew hW) hb5
      replace e0 := (hb5.cell (p := ⟨b1, o1 + k * 3, none⟩) hb1).trans e0
      replace e1 := (hb5.cell (p := ⟨b1, o1 + k * 3 + 1, none⟩) hb1).trans e1
      have hb1' : b1 < w1.heap.size := Nat.lt_of_lt_of_le hb1 hb5.size
      clear hb5 hY e2
      have hY := h.below hW
      replace rd4 := k4.rd
      replace lt4 := k4.lt
      replace rd5 := k5.rd
      replace lt5 := k5.lt
      replace rd6 := k6.rd
      replace lt6 := k6.lt
      replace fz6 := k6.fz
      replace rd0 := hY.top.rd
      replace lt0 := hY.top.lt
      go_wp2_with fail
      go_still_tail 9, (by kernel_rfl)
      go_wp2_with fail
      refine (rbefore_any ax ay xr xc w1.drew).mono ?_
      rintro e w2 ⟨rfl, hb5⟩
      replace k4 : Blk w2 _ _ _ := Blk.below k4.drew hb5
      replace k5 : Blk w2 _ _ _ := Blk.below k5.drew hb5
      replace k6 : Blk w2 _ _ _ := Blk.below k6.drew hb5
      replace hW := bel_call (bel_drew hW) hb5
      replace e0 := (hb5.cell (p := ⟨b1, o1 + k * 3, none⟩) hb1').trans e0
      replace e1 := (hb5.cell (p := ⟨b1, o1 + k * 3 + 1, none⟩) hb1').trans e1
      clear hb5 hY
      have hY := h.below hW
      replace rd4 := k4.rd
      replace lt4 := k4.lt
      replace rd5 := k5.rd
      replace lt5 := k5.lt
      replace rd6 := k6.rd
      replace lt6 := k6.lt
      replace fz6 := k6.fz
      replace rd0 := hY.top.rd
      replace lt0 := hY.top.lt
      cases h1 : inB t l b r xr xc with
      | false =>
        have HN : Hid ((L.drop (k + 1)).find? (fitI t l b r ax ay) = L.find? (fitI t l b r ax ay)) := by
          show (_ = _)
          have := HS.out
          rw [if_neg (by simp [fitI, h1])] at this
          rw [← this]
          exact hg.out
        go_wp2_with fail
        go_roundw
        case rel => exact ⟨k + 1, by omega, by go_num, HN, k4, k5, k6, hW⟩
        case measure => simp [intOf]; omega
      | true =>
        cases h2 : befB ax ay xr xc with
        | false =>
          have HN : Hid ((L.drop (k + 1)).find? (fitI t l b r ax ay) = L.find? (fitI t l b r ax ay)) := by
            show (_ = _)
            have := HS.out
            rw [if_neg (by simp [fitI, h2])] at this
            rw [← this]
            exact hg.out
          go_wp2_with fail
          go_roundw
          case rel => exact ⟨k + 1, by omega, by go_num, HN, k4, k5, k6, hW⟩
          case measure => simp [intOf]; omega
        | true =>
          have hgx : G = nextLV (some ⟨xr, xc, xk⟩) := by
            rw [HG.out, ← hg.out, HS.out, if_pos (by simp [fitI, h1, h2])]
          subst hgx
          have hlow : w.heap.size ≤ w.heap.size + 1 + 1 := by omega
          go_wp2_with fail
          refine bodyPost_ret (v := nextLV (some ⟨xr, xc, xk⟩)) (by simp [results, Try.results30, go_sem, rd6, nextLV]) rfl ⟨rfl, ?_⟩
          exact bel_set (bel_set hW hlow _) hlow _
    · have hgx : G = nextLV none := by
        rw [HG.out, ← hg.out, List.drop_eq_nil_of_le (by omega)]
        rfl
      subst hgx
      have hlow : w.heap.size ≤ w.heap.size + 1 + 1 := by omega
      go_wp2_with fail
      refine bodyPost_ret (v := nextLV none) (by simp [results, Try.results30, go_sem, rd6, nextLV]) rfl ⟨rfl, ?_⟩
      exact bel_set (bel_set hW hlow _) hlow _

theorem rdrop_no (yb : Nat) (r c : Int) (w : World) (hm : mayB r c = false) :
    Calls Try.prog 27 #[.pointer (some ⟨yb, 0, none⟩), .agg #[.int .i64 r, .int .i64 c]] w fun e w' => e = .returned (.int .i64 3) ∧ Below w.heap.size w w' := by
  go_enter Try.func27, Try.ntmps27
  go_wp2_with fail
  refine (rmay_any _ _ _).mono ?_
  rintro e w1 ⟨rfl, hb1⟩
  rw [hm]
  go_wp2_with fail
  go_ret
  exact ⟨rfl, bel_call (bel_alloc (bel_refl w) _) hb1⟩

set_option maxHeartbeats 1600000 in
set_option maxRecDepth 100000 in
theorem rdrop_yes (yb : Nat) (L : List Itm) (A : Option Addr) (cap : Nat) (r c : Int) (w : World) (h : YIs w yb L A cap) (hl : L.length * 24 ≤ 140737488355328) (hm : mayB r c = true) :
    Calls Try.prog 27 #[.pointer (some ⟨yb, 0, none⟩), .agg #[.int .i64 r, .int .i64 c]] w fun e w' => e = .returned (.int .i64 0) ∧
      ∃ A' cap', YIs w' yb (wo r c L) A' cap' ∧ Frm (fun z => z = yb) w w' := by
  go_enter Try.func27, Try.ntmps27
  go_wp2_with fail
  refine (rmay_any _ _ _).mono ?_
  rintro e w1 ⟨rfl, hb1⟩
  rw [hm]
  have k3 := (Blk.new w rfl _ _).below hb1
  have hY := (h.alloc _).below hb1
  have hw := bel_call (bel_alloc (bel_refl w) _) hb1
  clear hb1
  have rd3 := k3.rd
  have lt3 := k3.lt
  go_wp2_with fail
  refine (without_any yb L A cap r c _ hY hl).mono ?_
  rintro e w2 ⟨v, rfl, hO, hb2⟩
  have hyb : yb < w1.heap.size := hY.top.lt
  replace hY := hY.below hb2
  replace k3 := k3.below hb2
  replace hw := bel_call hw hb2
  clear hb2
  replace rd3 := k3.rd
  replace lt3 := k3.lt
  obtain ⟨A8, cap8, rfl, hcap, hcapm, hlies, hA8⟩ := hO.see
  have hYr := hY.top.rd
  have hYf := hY.top.fz
  have hYl := hY.top.lt
  go_wp2_with fail
  go_ret
  have hYY : YIs (w2.setCell ⟨yb, 0, none⟩ (.slice A8 (wo r c L).length cap8)) yb (wo r c L) A8 cap8 := ⟨hY.top.put 0 _, (hO.set (fun z hz => by have h1 := (hO.lt z hz).1; omega) _ _).low (Nat.zero_le _)⟩
  have hFR := ((Frm.refl (fun z => z = yb) w).call hw)
  first | exact ⟨rfl, ⟨A8, cap8, hYY⟩, hFR.set (.inl rfl) _⟩ | exact ⟨rfl, A8, cap8, hYY, hFR.set (.inl rfl) _⟩
end Go.Proofs.Ytiiiiplfcaeegaa

/-
  The document's marks: memory; State, put, Clean. Conditions: those of each theorem.
-/
import Derived.Test.YtdionganlmnlkaaMTchF
namespace Go.Proofs.Ytdionganlmnlkaa
open Go.ChangeShapes Go.WideShapes Go.ChangeAt Go.RowKit Go.Deep
attribute [local go_sem] Cls

/-- A mark. -/
structure Mk where
  row : Int
  col : Int
  st : Int
def mCl (m : Mk) : Cl := ⟨m.row, m.col⟩
def KM : Knd Mk where
  t := 61
  size := 3
  bytes := 24
  enc x := [.int .i64 x.row, .int .i64 x.col, .int .i64 x.st]
  len _ := rfl
  one x u hu := by
    simp at hu
    rcases hu with rfl | rfl | rfl <;> rfl
  pos := by omega
theorem info_km : (Try.prog.info? KM.t).map (fun i => (i.zero, i.size, i.bytes)) = some (some (.agg #[.int .i64 0, .int .i64 0, .int .i64 0]), KM.size, KM.bytes) := by kernel_rfl
theorem mk_at {w : World} {A : Option Addr} {L : List Mk} (h : Lies KM w A L) {i : Nat} {x : Mk} (hx : L[i]? = some x) : ∃ g off, A = some ⟨g, off, none⟩ ∧ g < w.heap.size ∧ w.cell? ⟨g, off + i * 3, none⟩ = some (.int .i64 x.row) ∧ w.cell? ⟨g, off + i * 3 + 1, none⟩ = some (.int .i64 x.col) ∧ w.cell? ⟨g, off + i * 3 + 2, none⟩ = some (.int .i64 x.st) := by
  obtain ⟨g, off, h1, h2, h3⟩ := h i x hx
  exact ⟨g, off, h1, h2, h3 0 _ rfl, h3 1 _ rfl, h3 2 _ rfl⟩
/-- A cell's state in the list. -/
def look (M : List Mk) (c : Cl) : Option Int := (M.find? fun m => decide (mCl m = c)).map Mk.st
theorem look_nil (c : Cl) : look [] c = none := rfl
theorem look_app (M N : List Mk) (c : Cl) : look (M ++ N) c = (look M c).or (look N c) := by
  unfold look
  rw [List.find?_append]
  cases M.find? fun m => decide (mCl m = c) <;> rfl
theorem look_one (m : Mk) (c : Cl) : look [m] c = if mCl m = c then some m.st else none := by
  unfold look
  by_cases h : mCl m = c <;> simp [h]
/-- One mark is put beside. -/
def stepP (c : Cl) (s : Int) (st : List Mk × Bool) (m : Mk) : List Mk × Bool :=
  ((if (befB c.row c.col m.row m.col && !st.2) = true then st.1 ++ [⟨c.row, c.col, s⟩] else st.1) ++ (if mCl m = c then [] else [m]), (befB c.row c.col m.row m.col && !st.2) || st.2)
def foldP (c : Cl) (s : Int) (M : List Mk) : List Mk × Bool := M.foldl (stepP c s) ([], decide (s < 0))
def putL (c : Cl) (s : Int) (M : List Mk) : List Mk := (foldP c s M).1 ++ (if (foldP c s M).2 = true then [] else [⟨c.row, c.col, s⟩])
theorem foldP_take {c : Cl} {s : Int} {M : List Mk} {k : Nat} {x : Mk} (h : M[k]? = some x) : foldP c s (M.take (k + 1)) = stepP c s (foldP c s (M.take k)) x := by
  unfold foldP
  rw [List.take_add_one, h, List.foldl_append]
  rfl
theorem foldP_look (c : Cl) (s : Int) (f : Cl → Option Int) : ∀ (M : List Mk) (o : List Mk) (d : Bool), (∀ x, x ≠ c → look o x = f x) → look o c = (if d = true then (if s < 0 then none else some s) else none) → (d = false → ¬ s < 0) →
    (∀ x, x ≠ c → look (M.foldl (stepP c s) (o, d)).1 x = (f x).or (look M x)) ∧ look (M.foldl (stepP c s) (o, d)).1 c = (if (M.foldl (stepP c s) (o, d)).2 = true then (if s < 0 then none else some s) else none) ∧ ((M.foldl (stepP c s) (o, d)).2 = false → ¬ s < 0)
  | [], o, d, h1, h2, h3 => ⟨fun x hx => by rw [look_nil]; show look o x = _; rw [h1 x hx]; cases f x <;> rfl, h2, h3⟩
  | m :: M, o, d, h1, h2, h3 => by
    have hc : mCl (⟨c.row, c.col, s⟩ : Mk) = c := rfl
    obtain ⟨r1, r2, r3⟩ := foldP_look c s (fun x => (f x).or (look [m] x)) M (stepP c s (o, d) m).1 (stepP c s (o, d) m).2 (fun x hx => by
      unfold stepP
      dsimp only
      have e1 : look (if mCl m = c then [] else [m]) x = look [m] x := by
        by_cases e : mCl m = c
        · rw [if_pos e, look_nil, look_one, if_neg (fun e2 => hx (by rw [← e2]; exact e))]
        · rw [if_neg e]
      rw [look_app, e1]
      by_cases hb : (befB c.row c.col m.row m.col && !d) = true
      · rw [if_pos hb, look_app, look_one, if_neg (fun e => hx (by rw [← e]; exact hc)), h1 x hx]
        cases f x <;> rfl
      · rw [if_neg hb, h1 x hx]) (by
      unfold stepP
      dsimp only
      have e1 : look (if mCl m = c then [] else [m]) c = none := by
        by_cases e : mCl m = c
        · rw [if_pos e, look_nil]
        · rw [if_neg e, look_one, if_neg e]
      rw [look_app, e1]
      by_cases hb : (befB c.row c.col m.row m.col && !d) = true
      · have hd : d = false := by cases d <;> simp at hb ⊢
        subst hd
        have hb2 : (befB c.row c.col m.row m.col && !false || false) = true := by rw [hb]; rfl
        rw [if_pos hb, look_app, look_one, if_pos hc, h2, if_pos hb2, if_neg (h3 rfl)]
        rfl
      · rw [if_neg hb, h2]
        have : (befB c.row c.col m.row m.col && !d) = false := by simpa using hb
        rw [this, Bool.false_or]
        cases d
        · rfl
        · simp only [if_true]
          split <;> rfl) (fun h => h3 (by
      unfold stepP at h
      dsimp only at h
      cases d
      · rfl
      · simp at h))
    refine ⟨fun x hx => ?_, r2, r3⟩
    rw [List.foldl_cons, show (m :: M) = [m] ++ M from rfl, look_app]
    have := r1 x hx
    rw [show stepP c s (o, d) m = ((stepP c s (o, d) m).1, (stepP c s (o, d) m).2) from rfl, this]
    cases f x <;> rfl
theorem look_put (c : Cl) (s : Int) (M : List Mk) : look (putL c s M) = upS (look M) c (if s < 0 then none else some s) := by
  have hc : mCl (⟨c.row, c.col, s⟩ : Mk) = c := rfl
  obtain ⟨r1, r2, r3⟩ := foldP_look c s (fun _ => none) M [] (decide (s < 0)) (fun x _ => rfl) (by
    rw [look_nil]
    by_cases h : s < 0 <;> simp [h]) (fun h => by simpa using h)
  funext x
  unfold putL
  rw [look_app]
  have hf : foldP c s M = M.foldl (stepP c s) ([], decide (s < 0)) := rfl
  rw [hf]
  by_cases e : x = c
  · subst e
    rw [upS_same, r2]
    cases h : (M.foldl (stepP x s) ([], decide (s < 0))).2 with
    | true => 
      simp only [if_true, look_nil]
      split <;> rfl
    | false =>
      rw [if_neg (by simp), if_neg (by simp), look_one, if_pos hc, if_neg (r3 h)]
      rfl
  · rw [upS_other _ _ e, r1 x e]
    have : look (if (M.foldl (stepP c s) ([], decide (s < 0))).2 = true then [] else [(⟨c.row, c.col, s⟩ : Mk)]) x = none := by
      split
      · rfl
      · rw [look_one, if_neg (fun e2 => e (by rw [← e2]; exact hc))]
    rw [this]
    cases look M x <;> rfl
theorem foldP_len (c : Cl) (s : Int) : ∀ (M : List Mk) (o : List Mk) (d : Bool), (M.foldl (stepP c s) (o, d)).1.length + (if (M.foldl (stepP c s) (o, d)).2 = true then 0 else 1) ≤ o.length + (if d = true then 0 else 1) + M.length
  | [], o, d => Nat.le_refl _
  | m :: M, o, d => by
    have h := foldP_len c s M (stepP c s (o, d) m).1 (stepP c s (o, d) m).2
    rw [List.foldl_cons, List.length_cons]
    refine Nat.le_trans h ?_
    unfold stepP
    dsimp only
    by_cases e : mCl m = c <;> cases d <;> cases befB c.row c.col m.row m.col <;> simp [e] <;> omega
theorem putL_len (c : Cl) (s : Int) (M : List Mk) : (putL c s M).length ≤ M.length + 1 := by
  have h := foldP_len c s M [] (decide (s < 0))
  unfold putL
  have hf : foldP c s M = M.foldl (stepP c s) ([], decide (s < 0)) := rfl
  rw [List.length_append, hf]
  generalize M.foldl (stepP c s) ([], decide (s < 0)) = G at h
  obtain ⟨o, d⟩ := G
  by_cases h3 : s < 0 <;> cases d <;> simp [h3] at h ⊢ <;> omega
theorem bnd_24 {a b : Nat} (h1 : a ≤ b) (h2 : b * 24 ≤ 140737488355328) : a * KM.bytes ≤ 140737488355328 := Nat.le_trans (Nat.mul_le_mul_right 24 h1) h2
theorem Below.size' {w w' : World} (h : Below w.heap.size w w') : w.heap.size ≤ w'.heap.size := h.size
/-- The document's marks are M, over the references at yb; its blocks are among O's. -/
def RK (w : World) (rb yb : Nat) (pk : Int) (O : Nat → Prop) (M : List Mk) : Prop :=
  ∃ A cap, Blk w rb 67 #[.slice A M.length cap, .pointer (some ⟨yb, 0, none⟩), .int .i64 pk] ∧ OL KM w 0 (.slice A M.length cap) M ∧ O rb ∧ (∀ g off, A = some ⟨g, off, none⟩ → O g) ∧ ∀ z, O z → z < w.heap.size
section
variable {w w' : World} {rb yb : Nat} {pk : Int} {O : Nat → Prop} {M : List Mk}
theorem RK.lt (h : RK w rb yb pk O M) : ∀ z, O z → z < w.heap.size := by
  obtain ⟨A, cap, _, _, _, _, h4⟩ := h
  exact h4
theorem RK.frm (h : RK w rb yb pk O M) {S : Nat → Prop} (hF : Frm S w w') (hn : ∀ z, O z → ¬ S z) : RK w' rb yb pk O M := by
  obtain ⟨A, cap, h1, h2, h3, h4, h5⟩ := h
  refine ⟨A, cap, hF.blk h1 (hn _ h3), h2.keep (fun g hg => hF.block g (h2.lt g hg).2 (hn g ?_)), h3, h4, fun z hz => Nat.lt_of_lt_of_le (h5 z hz) hF.size⟩
  cases A with
  | none => cases hg
  | some a =>
    obtain ⟨A', c', hv, _, _, _, hA⟩ := h2.see
    injection hv with hv _ _
    rcases hA with rfl | ⟨g', rfl, _⟩
    · cases hv
    · rw [hv] at hg h4
      injection hg with hg
      subst hg
      exact h4 _ 0 rfl
theorem RK.below (h : RK w rb yb pk O M) (hb : Below w.heap.size w w') : RK w' rb yb pk O M := h.frm (Frm.of_below (S := fun _ => False) hb) (fun _ _ => id)
theorem RK.peak (h : RK w rb yb pk O M) (p : Int) : RK (w.setCell ⟨rb, 2, none⟩ (.int .i64 p)) rb yb p O M := by
  obtain ⟨A, cap, h1, h2, h3, h4, h5⟩ := h
  refine ⟨A, cap, h1.put 2 _, h2.set (fun g hg e => ?_) 2 _, h3, h4, fun z hz => by simpa using h5 z hz⟩
  obtain ⟨cur, hcur⟩ := h2.type g hg
  have hcur' : Blk w g KM.t cur := hcur
  exact absurd (Blk.same hcur' (e ▸ h1)) (of_decide_eq_false (by kernel_rfl))
theorem RK.list (h : RK w rb yb pk O M) : ∃ A cap, Blk w rb 67 #[.slice A M.length cap, .pointer (some ⟨yb, 0, none⟩), .int .i64 pk] ∧ Lies KM w A M ∧ M.length ≤ 9223372036854775807 := by
  obtain ⟨A, cap, h1, h2, _⟩ := h
  obtain ⟨A', c', hv, k1, k2, k3, _⟩ := h2.see
  injection hv with e1 _ e3
  subst e1
  exact ⟨A, cap, h1, k3, by unfold maxLen at k2; omega⟩
end
theorem look_none {M : List Mk} {k : Nat} {x : Mk} {c : Cl} (h : M[k]? = some x) (h0 : look (M.take k) c = none) : look (M.take (k + 1)) c = look [x] c := by
  rw [List.take_add_one, h, look_app, h0]
  rfl
theorem look_hit {M : List Mk} {k : Nat} {x : Mk} {c : Cl} (h : M[k]? = some x) (h0 : look (M.take k) c = none) (hx : mCl x = c) : look M c = some x.st := by
  rw [← List.take_append_drop (k + 1) M, look_app, look_none h h0, look_one, if_pos hx]
  rfl
set_option maxHeartbeats 3200000 in
set_option maxRecDepth 100000 in
theorem rkstate_any {rb yb : Nat} {pk : Int} {O : Nat → Prop} {M : List Mk} (row col : Int) {w : World} (h : RK w rb yb pk O M) : Calls Try.prog 45 #[.pointer (some ⟨rb, 0, none⟩), .agg #[.int .i64 row, .int .i64 col]] w fun e w' => e = .returned (.tuple #[.int .i64 ((look M (⟨row, col⟩ : Cl)).getD 0), .bool (look M (⟨row, col⟩ : Cl)).isSome]) ∧ Below w.heap.size w w' := by
  obtain ⟨A, cap, htop0, hLi0, hMl⟩ := h.list
  go_enter Try.func45, Try.ntmps45
  go_wp2_with fail
  have hW0 := bel_alloc (bel_refl w) (.cells #[.int .i64 row, .int .i64 col] 32)
  have hc0 := Blk.new w rfl 32 #[.int .i64 row, .int .i64 col]
  go_loopw [6] (fun s wr => ∃ k : Nat, k ≤ M.length ∧ s = .int .i64 k ∧ Hid (look (M.take k) (⟨row, col⟩ : Cl) = none) ∧ Blk wr w.heap.size 32 #[.int .i64 row, .int .i64 col] ∧ Below w.heap.size w wr) (fun s _ => M.length - (intOf s).toNat)
  case atStart => exact ⟨0, Nat.zero_le _, rfl, Lib.hid rfl, hc0, hW0⟩
  case round =>
    obtain ⟨k, hk, rfl, HL, hc, hW⟩ := hrel
    clear hc0 hW0
    have htop := htop0.below hW
    have q7 := htop.rd
    have l7 := htop.lt
    by_cases hkl : k < M.length
    · obtain ⟨x, hx⟩ : ∃ x, M[k]? = some x := ⟨_, List.getElem?_eq_getElem hkl⟩
      obtain ⟨g, off, hAe, hg, c0, c1, c2⟩ := mk_at (hLi0.below hW) hx
      subst hAe
      have HHIT : Hid (mCl x = (⟨row, col⟩ : Cl) → look M (⟨row, col⟩ : Cl) = some x.st) := Lib.hid (look_hit hx HL.out)
      have HNO : Hid (mCl x ≠ (⟨row, col⟩ : Cl) → look (M.take (k + 1)) (⟨row, col⟩ : Cl) = none) := Lib.hid (fun e => by rw [look_none hx HL.out, look_one, if_neg e])
      have i0 : (0 : Int) ≤ (k : Int) := by omega
      have i1 : (k : Int) < (M.length : Int) := by omega
      have hE := fun W => eql_cell W x.row x.col row col
      clear hx
      go_wp2_with fail
      clear q7 l7
      have d0 := fun d os => cell_regrown c0 d os
      have d1 := fun d os => cell_regrown c1 d os
      have gc := hc.gr
      have lc := hc.lt
      have gt := htop.gr
      have rdt := htop.rd
      have ltt := htop.lt
      by_cases hxc : (⟨x.row, x.col⟩ : Cl) = ⟨row, col⟩
      · rw [decide_eq_true hxc] at hE
        have HV := Lib.hid (HHIT.out hxc)
        clear hxc
        refine wp_region_quiet_below (by kernel_rfl) (by kernel_rfl) ?_
        repeat (any_goals (first | go_big_quiet_step ((fail)) | fail))
        refine wpQuiet_nil ?_
        intro w5 hw'
        have hb5 := class_below hw'
        clear hw' d0 d1 gc lc gt rdt ltt
        have htop5 := htop.below hb5
        have q7 := htop5.rd
        have l7 := htop5.lt
        have e2 := (hb5.cell hg).trans c2
        clear c0 c1 c2
        go_wp2_with fail
        exact bodyPost_ret (v := .tuple #[.int .i64 x.st, .bool true]) (by simp [results, Try.results45, go_sem]) rfl ⟨by rw [HV.out]; rfl, bel_call hW hb5⟩
      · rw [decide_eq_false hxc] at hE
        have HN : Hid (look (M.take (k + 1)) (⟨row, col⟩ : Cl) = none) := Lib.hid (HNO.out hxc)
        clear hxc
        refine wp_region_quiet_below (by kernel_rfl) (by kernel_rfl) ?_
        repeat (any_goals (first | go_big_quiet_step ((fail)) | fail))
        refine wpQuiet_nil ?_
        intro w5 hw'
        have hb5 := class_below hw'
        clear hw' d0 d1 gc lc gt rdt ltt
        clear c0 c1 c2
        go_wp2_with fail
        go_roundw
        case rel => exact ⟨k + 1, by omega, by go_num, HN, hc.below hb5, bel_call hW hb5⟩
        case measure => simp [intOf]; omega
    obtain rfl : k = M.length := by omega
    have HV := HL.out
    rw [List.take_length] at HV
    have HV2 := Lib.hid HV
    have i1 : ¬ ((M.length : Int) < (M.length : Int)) := by omega
    clear HV
    go_wp2_with fail
    exact bodyPost_ret (v := .tuple #[.int .i64 0, .bool false]) (by simp [results, Try.results45, go_sem]) rfl ⟨by rw [HV2.out]; rfl, hW⟩
end Go.Proofs.Ytdionganlmnlkaa

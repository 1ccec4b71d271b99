/-
  What a drop does to a store's cells. Conditions: those of each theorem.
-/
import Derived.Test.YtiiiiplfcaeegaaSto5
import Derived.ChangeKeysEq
import Derived.Laws.StructEq
namespace Go.Proofs.Ytiiiiplfcaeegaa
open Go.ChangeShapes Go.WideShapes Go.ChangeAt Go.RowKit Go.Deep

theorem rcount_zero {g : Grid} {r : Nat} (h : rcount g r = 0) : ∀ c, c < 256 → g r c = none := by
  have key : ∀ n, rcountTo g r n = 0 → ∀ c, c < n → g r c = none := by
    intro n
    induction n with
    | zero => intro _ c hc; omega
    | succ n ih =>
      intro h0 c hc
      unfold rcountTo at h0
      by_cases e : c = n
      · subst e
        cases hg : g r c with
        | none => rfl
        | some x => rw [hg] at h0; simp at h0
      · exact ih (by omega) c (by omega)
  exact key 256 h

section
variable {w : World} {sb : Nat} {ch rb : Nat → Option Nat} {g : Grid} {cnt : Int}

/-- A content less: the cell, the row's count, the store's. -/
theorem SIs.unput (h : SIs w sb ch rb g cnt) (i k c : Nat) (hi : i < 256) (hk : k < 16) (hc : c < 256) {b d : Nat} (hb : ch i = some b) (hd : rb (i * 16 + k) = some d) (hwas : (g (i * 16 + k) c).isSome = true) :
    SIs (((w.setCell ⟨d, c, none⟩ (.pointer none)).setCell ⟨b, 16 + k, none⟩ (.int .i64 (rcount g (i * 16 + k) - 1))).setCell ⟨sb, 257, none⟩ (.int .i64 (cnt - 1))) sb ch rb (gset g (i * 16 + k) c none) (cnt - 1) := by
  have hcb := h.chk i (by omega) b hb
  have hrd := h.row (i * 16 + k) (by omega) d hd
  have hrc := rcount_set g (i * 16 + k) c none hc
  have htot := total_set g (i * 16 + k) c none (by omega) hc
  rw [hwas] at hrc htot
  simp at hrc htot
  refine ⟨?_, ?_, ?_, h.chi, h.rbi, h.up, ?_, ?_⟩
  · refine (((h.top.setOther (by show sb ≠ d; exact row_ne h.top hrd (by decide)) _).setOther (by show sb ≠ b; exact row_ne h.top hcb (by decide)) _).set _ _).congr fun j hj => ?_
    by_cases e : j = 257
    · subst e
      rw [if_pos rfl]
      rfl
    · rw [if_neg e]
      unfold sf
      rw [if_pos (by omega), if_pos (by omega)]
  · intro j hj e he
    have hce := h.chk j hj e he
    have n1 : e ≠ d := row_ne hce hrd (by decide)
    have n2 : e ≠ sb := row_ne hce h.top (by decide)
    by_cases ej : j = i
    · subst ej
      rw [hb] at he
      cases he
      refine (((hce.setOther (by show b ≠ d; exact n1) _).set _ _).setOther (by show b ≠ sb; exact n2) _).congr fun l hl => ?_
      by_cases e2 : l = 16 + k
      · subst e2
        rw [if_pos rfl]
        unfold cf
        rw [if_neg (by omega), show 16 + k - 16 = k by omega]
        congr 1
        omega
      · rw [if_neg e2]
        unfold cf
        by_cases hl16 : l < 16
        · rw [if_pos hl16, if_pos hl16]
        · rw [if_neg hl16, if_neg hl16, rcount_ne _ _ _ _ (by omega)]
    · have n3 : e ≠ b := by
        rintro rfl
        exact ej (h.chi j i e hj (by omega) he hb)
      refine (((hce.setOther (by show e ≠ d; exact n1) _).setOther (by show e ≠ b; exact n3) _).setOther (by show e ≠ sb; exact n2) _).congr fun l hl => ?_
      unfold cf
      by_cases hl16 : l < 16
      · rw [if_pos hl16, if_pos hl16]
      · rw [if_neg hl16, if_neg hl16, rcount_ne _ _ _ _ (by omega)]
  · intro q hq e he
    have hre := h.row q hq e he
    have n1 : e ≠ b := row_ne hre hcb (by decide)
    have n2 : e ≠ sb := row_ne hre h.top (by decide)
    by_cases eq : q = i * 16 + k
    · subst eq
      rw [hd] at he
      cases he
      refine (((hre.set _ _).setOther (by show d ≠ b; exact n1) _).setOther (by show d ≠ sb; exact n2) _).congr fun l hl => ?_
      unfold pf
      by_cases e2 : l = c
      · subst e2
        rw [if_pos rfl, gset_same]
      · rw [if_neg e2, gset_ne _ _ _ _ (fun e => e2 e.2)]
    · have n3 : e ≠ d := by
        rintro rfl
        exact eq (h.rbi q _ e hq (by omega) he hd)
      refine (((hre.setOther (by show e ≠ d; exact n3) _).setOther (by show e ≠ b; exact n1) _).setOther (by show e ≠ sb; exact n2) _).congr fun l hl => ?_
      unfold pf
      rw [gset_ne _ _ _ _ (fun e2 => eq e2.1)]
  · intro q hq he l hl
    rw [gset_ne _ _ _ _ (by rintro ⟨rfl, rfl⟩; rw [hd] at he; cases he)]
    exact h.emp q hq he l hl
  · rw [h.num]
    omega

theorem upd_none {rb : Nat → Option Nat} {n r b : Nat} (h : upd rb n none r = some b) : r ≠ n ∧ rb r = some b := by
  by_cases e : r = n
  · subst e
    rw [upd_same] at h
    cases h
  · rw [upd_ne _ _ e] at h
    exact ⟨e, h⟩

/-- A row without contents goes. -/
theorem SIs.dropRow (h : SIs w sb ch rb g cnt) (i k : Nat) (hi : i < 256) (hk : k < 16) {b : Nat} (hb : ch i = some b) (h0 : rcount g (i * 16 + k) = 0) :
    SIs (w.setCell ⟨b, k, none⟩ (.slice none 0 0)) sb ch (upd rb (i * 16 + k) none) g cnt := by
  have hcb := h.chk i (by omega) b hb
  refine ⟨h.top.setOther (by show sb ≠ b; exact row_ne h.top hcb (by decide)) _, ?_, ?_, h.chi, ?_, ?_, ?_, h.num⟩
  · intro j hj c hc
    by_cases e : j = i
    · subst e
      rw [hb] at hc
      cases hc
      refine (hcb.set _ _).congr fun l hl => ?_
      by_cases e2 : l = k
      · subst e2
        rw [if_pos rfl]
        unfold cf
        rw [if_pos hk, upd_same]
        rfl
      · rw [if_neg e2]
        unfold cf
        by_cases hl16 : l < 16
        · rw [if_pos hl16, if_pos hl16, upd_ne _ _ (by omega)]
        · rw [if_neg hl16, if_neg hl16]
    · have hcc := h.chk j hj c hc
      refine (hcc.setOther (by show c ≠ b; rintro rfl; exact e (h.chi j i c hj (by omega) hc hb)) _).congr fun l hl => ?_
      unfold cf
      by_cases hl16 : l < 16
      · rw [if_pos hl16, if_pos hl16, upd_ne _ _ (by omega)]
      · rw [if_neg hl16, if_neg hl16]
  · intro r hr c hc
    obtain ⟨_, hc⟩ := upd_none hc
    have hcc := h.row r hr c hc
    exact hcc.setOther (by show c ≠ b; exact row_ne hcc hcb (by decide)) _
  · intro r q c hr hq hc1 hc2
    exact h.rbi r q c hr hq (upd_none hc1).2 (upd_none hc2).2
  · intro r hr he
    by_cases e : r = i * 16 + k
    · rw [e, upd_same]
    · rw [upd_ne _ _ e]
      exact h.up r hr he
  · intro r hr he
    by_cases e : r = i * 16 + k
    · rw [e]
      exact rcount_zero h0
    · rw [upd_ne _ _ e] at he
      exact h.emp r hr he

/-- A chunk without contents goes, and its rows. -/
theorem SIs.dropChunk (h : SIs w sb ch rb g cnt) (i : Nat) (hi : i < 256) (h0 : ∀ k, k < 16 → rcount g (i * 16 + k) = 0) :
    SIs (w.setCell ⟨sb, i, none⟩ (.pointer none)) sb (upd ch i none) (fun r => if r / 16 = i then none else rb r) g cnt := by
  have hrb : ∀ {r b : Nat}, (if r / 16 = i then none else rb r) = some b → r / 16 ≠ i ∧ rb r = some b := by
    intro r b hh
    split at hh
    · cases hh
    · rename_i e
      exact ⟨e, hh⟩
  refine ⟨?_, ?_, ?_, ?_, ?_, ?_, ?_, h.num⟩
  · refine (h.top.set _ _).congr fun j hj => ?_
    by_cases e : j = i
    · subst e
      rw [if_pos rfl]
      unfold sf
      rw [if_pos (by omega), upd_same]
      rfl
    · rw [if_neg e]
      unfold sf
      rw [upd_ne _ _ e]
  · intro j hj b hb
    obtain ⟨e, hb⟩ := upd_none hb
    have hr := h.chk j hj b hb
    refine (hr.setOther (by show b ≠ sb; exact row_ne hr h.top (by decide)) _).congr fun l hl => ?_
    unfold cf
    by_cases hl16 : l < 16
    · rw [if_pos hl16, if_pos hl16]
      dsimp only
      rw [if_neg (by omega)]
    · rw [if_neg hl16, if_neg hl16]
  · intro r hr b hb
    have hh := h.row r hr b (hrb hb).2
    exact hh.setOther (by show b ≠ sb; exact row_ne hh h.top (by decide)) _
  · intro j l b hj hl hb1 hb2
    exact h.chi j l b hj hl (upd_none hb1).2 (upd_none hb2).2
  · intro r q b hr hq hb1 hb2
    exact h.rbi r q b hr hq (hrb hb1).2 (hrb hb2).2
  · intro r hr he
    by_cases e : r / 16 = i
    · rw [if_pos e]
    · rw [if_neg e]
      rw [upd_ne _ _ e] at he
      exact h.up r hr he
  · intro r hr he
    by_cases e : r / 16 = i
    · have := rcount_zero (h0 (r % 16) (by omega))
      rwa [show i * 16 + r % 16 = r by omega] at this
    · rw [if_neg e] at he
      exact h.emp r hr he
end

/-- An array of 16 numbers is the zero array just if each is zero. -/
theorem eql_used (u : Nat → Int) : ∃ r : Bool, (∀ W : World, (binOp .eql 76 (.agg #[.int .i64 (u 0), .int .i64 (u 1), .int .i64 (u 2), .int .i64 (u 3), .int .i64 (u 4), .int .i64 (u 5), .int .i64 (u 6), .int .i64 (u 7), .int .i64 (u 8), .int .i64 (u 9), .int .i64 (u 10), .int .i64 (u 11), .int .i64 (u 12), .int .i64 (u 13), .int .i64 (u 14), .int .i64 (u 15)])
      (.agg #[.int .i64 0, .int .i64 0, .int .i64 0, .int .i64 0, .int .i64 0, .int .i64 0, .int .i64 0, .int .i64 0, .int .i64 0, .int .i64 0, .int .i64 0, .int .i64 0, .int .i64 0, .int .i64 0, .int .i64 0, .int .i64 0])).run Try.prog W = .ok (.bool r) W) ∧ (r = true ↔ ∀ k, k < 16 → u k = 0) := by
  obtain ⟨j, hj⟩ : ∃ j, Try.prog.info? 3 = some j := Option.isSome_iff_exists.1 (by kernel_rfl)
  refine ⟨(List.range 16).all fun k => u k == 0, fun W => ?_, by simp⟩
  have h1 := run_equalIn_array (P := Try.prog) (w := W) 9999 (t := 76) (e := 3) (n := 16)
    #[.int .i64 (u 0), .int .i64 (u 1), .int .i64 (u 2), .int .i64 (u 3), .int .i64 (u 4), .int .i64 (u 5), .int .i64 (u 6), .int .i64 (u 7), .int .i64 (u 8), .int .i64 (u 9), .int .i64 (u 10), .int .i64 (u 11), .int .i64 (u 12), .int .i64 (u 13), .int .i64 (u 14), .int .i64 (u 15)]
    #[.int .i64 0, .int .i64 0, .int .i64 0, .int .i64 0, .int .i64 0, .int .i64 0, .int .i64 0, .int .i64 0, .int .i64 0, .int .i64 0, .int .i64 0, .int .i64 0, .int .i64 0, .int .i64 0, .int .i64 0, .int .i64 0] Try.underlying76 hj
  have hr : ∀ (xs ys : Array Value) (is : List Nat), (∀ k, k ∈ is → xs[k]? = some (.int .i64 (u k))) → (∀ k, k ∈ is → ys[k]? = some (.int .i64 0)) →
      (Op.eqItems 9999 3 1 xs ys is).run Try.prog W = .ok (is.all fun k => u k == 0) W := by
    intro xs ys is
    induction is with
    | nil => intro _ _; simp [Op.eqItems]
    | cons k is ih =>
      intro hx hy
      have h2 := ih (fun j hj => hx j (by simp [hj])) (fun j hj => hy j (by simp [hj]))
      have p1 := run_part_plain (P := Try.prog) (w := W) (e := 3) (by kernel_rfl) (hx k (by simp))
      have p2 := run_part_plain (P := Try.prog) (w := W) (e := 3) (by kernel_rfl) (hy k (by simp))
      simp only [Op.eqItems, Nat.mul_one, Sem.run_bind, p1, p2, Result.andThen_ok, run_equalIn_int W 9998 3 .i64 .i64 (u k) 0 Try.underlying3, List.all_cons]
      cases u k == 0
      · simp
      · simpa using h2
  rw [show Try.prog.cellsOf 3 = 1 by kernel_rfl, hr _ _ _ (by
    intro k hk
    simp at hk
    match k, hk with
    | 0, _ | 1, _ | 2, _ | 3, _ | 4, _ | 5, _ | 6, _ | 7, _ | 8, _ | 9, _ | 10, _ | 11, _ | 12, _ | 13, _ | 14, _ | 15, _ => rfl
    | k + 16, hk => exact absurd hk (by omega)) (by
    intro k hk
    simp at hk
    match k, hk with
    | 0, _ | 1, _ | 2, _ | 3, _ | 4, _ | 5, _ | 6, _ | 7, _ | 8, _ | 9, _ | 10, _ | 11, _ | 12, _ | 13, _ | 14, _ | 15, _ => rfl
    | k + 16, hk => exact absurd hk (by omega))] at h1
  rw [run_eql_struct, h1]
  rfl
end Go.Proofs.Ytiiiiplfcaeegaa

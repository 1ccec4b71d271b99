/-
  Contracts of addr.Span, addr.Cut and of (*view.Views).open. Conditions: those of each theorem.
-/
import Derived.Test.YtocglcngfgpfnaaView1
namespace Go.Proofs.Ytocglcngfgpfnaa
open Go.ChangeShapes Go.WideShapes Go.ChangeAt Go.RowKit Go.Deep

theorem span_yes (r1 c1 r2 c2 : Int) (w : World) (h1 : mayB r1 c1 = true) (h2 : mayB r2 c2 = true) :
    Calls Try.prog 22 #[.agg #[.int .i64 r1, .int .i64 c1], .agg #[.int .i64 r2, .int .i64 c2]] w fun e w' =>
      e = .returned (.agg #[.int .i64 (min r1 r2), .int .i64 (min c1 c2), .int .i64 (max r1 r2), .int .i64 (max c1 c2)]) ∧ Below w.heap.size w w' := by
  go_enter Try.func22, Try.ntmps22
  go_wp2_with fail
  refine (may_any _ _ _).mono ?_
  rintro e w1 ⟨rfl, hb1⟩
  have k1 := (((Blk.new w rfl _ _).alloc _).alloc _).below hb1
  have k2 := (((Blk.new (w.alloc _) (g := w.heap.size + 1) (by simp) _ _)).alloc _).below hb1
  have k3 := ((Blk.new ((w.alloc _).alloc _) (g := w.heap.size + 1 + 1) (by simp) _ _)).below hb1
  have rd1 := k1.rd
  have rd2 := k2.rd
  have rd3 := k3.rd
  have fz3 := k3.fz
  go_wp2_with fail
  refine (may_any _ _ _).mono ?_
  rintro e w2 ⟨rfl, hb2⟩
  replace k1 := k1.below hb2
  replace k2 := k2.below hb2
  replace k3 := k3.below hb2
  replace rd1 := k1.rd
  replace rd2 := k2.rd
  replace rd3 := k3.rd
  replace fz3 := k3.fz
  go_wp2_with fail
  all_goals
    refine bodyPost_ret (v := .agg #[.int .i64 (min r1 r2), .int .i64 (min c1 c2), .int .i64 (max r1 r2), .int .i64 (max c1 c2)]) (by simp [results, Try.results22, go_sem, rd3]; omega) rfl ⟨rfl, ?_⟩
    exact bel_set (bel_set (bel_set (bel_set (bel_call (bel_call (bel_alloc (bel_alloc (bel_alloc (bel_refl w) _) _) _) hb1) hb2) (by omega) _) (by omega) _) (by omega) _) (by omega) _

theorem cut_yes (r c m n : Int) (w : World) (h1 : mayB r c = true) (hm : 1 ≤ m) (hn : 1 ≤ n) (hm2 : m ≤ 4096) (hn2 : n ≤ 256) :
    Calls Try.prog 25 #[.agg #[.int .i64 r, .int .i64 c], .int .i64 m, .int .i64 n] w fun e w' =>
      e = .returned (.agg #[.int .i64 r, .int .i64 c, .int .i64 (min 4096 (r + m - 1)), .int .i64 (min 256 (c + n - 1))]) ∧ Below w.heap.size w w' := by
  have b1 := mayB_true h1
  go_enter Try.func25, Try.ntmps25
  go_wp2_with fail
  refine (may_any _ _ _).mono ?_
  rintro e w1 ⟨rfl, hb1⟩
  have k1 := (((Blk.new w rfl _ _).alloc _)).below hb1
  have k3 := ((Blk.new ((w.alloc _)) (g := w.heap.size + 1) (by simp) _ _)).below hb1
  have rd1 := k1.rd
  have rd3 := k3.rd
  have fz3 := k3.fz
  go_wp2_with fail
  all_goals
    refine bodyPost_ret (v := .agg #[.int .i64 r, .int .i64 c, .int .i64 (min 4096 (r + m - 1)), .int .i64 (min 256 (c + n - 1))]) (by simp [results, Try.results25, go_sem, rd3]; omega) rfl ⟨rfl, ?_⟩
    exact bel_set (bel_set (bel_set (bel_set (bel_call (bel_alloc (bel_alloc (bel_refl w) _) _) hb1) (by omega) _) (by omega) _) (by omega) _) (by omega) _

/-! What the block of a Views holds. -/
structure Vw where
  r : Int
  c : Int
  m : Int
  n : Int
def vcell (v : Vw) : Nat → Int
  | 0 => v.r
  | 1 => v.c
  | 2 => v.m
  | _ => v.n
def vf (most cnt : Int) (s : Nat → Vw) (i : Nat) : Value := .int .i64 (if i = 0 then most else if i = 1 then cnt else vcell (s ((i - 2) / 4)) ((i - 2) % 4))
def isOpen (most : Int) (s : Nat → Vw) (h : Int) : Bool := decide (1 ≤ h ∧ h ≤ most ∧ (s h.toNat).m ≠ 0)

theorem vf_0 (most cnt : Int) (s : Nat → Vw) : vf most cnt s 0 = .int .i64 most := rfl
theorem vf_1 (most cnt : Int) (s : Nat → Vw) : vf most cnt s 1 = .int .i64 cnt := rfl
theorem vf_at (most cnt : Int) (s : Nat → Vw) (h k : Nat) (hk : k < 4) : vf most cnt s (2 + h * 4 + k) = .int .i64 (vcell (s h) k) := by
  unfold vf
  rw [if_neg (by omega), if_neg (by omega), show (2 + h * 4 + k - 2) / 4 = h by omega, show (2 + h * 4 + k - 2) % 4 = k by omega]

theorem open_yes (b : Nat) (most cnt : Int) (s : Nat → Vw) (h : Int) (w : World) (hR : w.rowIs b 54 70 (vf most cnt s)) (hm : most ≤ 16) (ho : isOpen most s h = true) :
    Calls Try.prog 23 #[.pointer (some ⟨b, 0, none⟩), .int .i64 h] w fun e w' => e = .returned (.pointer (some ⟨b, 2 + h.toNat * 4, none⟩)) ∧ w = w' := by
  simp only [isOpen, decide_eq_true_eq] at ho
  obtain ⟨o1, o2, o3⟩ := ho
  obtain ⟨n, rfl⟩ := Int.eq_ofNat_of_zero_le (show 0 ≤ h by omega)
  simp only [Int.toNat_natCast] at o3 ⊢
  have hl : n ≤ 16 := by omega
  have e0 : w.cell? ⟨b, 0, none⟩ = some (.int .i64 most) := hR.cell (by omega)
  have e2 : w.cell? ⟨b, 2 + n * 4 + 2, none⟩ = some (.int .i64 (s n).m) := (hR.cell (by omega)).trans (by rw [vf_at _ _ _ _ _ (by omega)]; rfl)
  have o3' : ((s n).m == 0) = false := by simpa using o3
  go_enter Try.func23, Try.ntmps23
  go_wp2_with fail
  go_ret
  exact ⟨rfl, rfl⟩

theorem open_no (b : Nat) (most cnt : Int) (s : Nat → Vw) (h : Int) (w : World) (hR : w.rowIs b 54 70 (vf most cnt s)) (hm : most ≤ 16) (ho : isOpen most s h = false) :
    Calls Try.prog 23 #[.pointer (some ⟨b, 0, none⟩), .int .i64 h] w fun e w' => e = .returned (.pointer none) ∧ w = w' := by
  simp only [isOpen, decide_eq_false_iff_not] at ho
  have e0 : w.cell? ⟨b, 0, none⟩ = some (.int .i64 most) := hR.cell (by omega)
  by_cases h1 : h < 1
  · clear ho
    have h1' : decide (h < 1) = true := by simpa using h1
    go_enter Try.func23, Try.ntmps23
    go_wp2_with fail
    go_ret
    exact ⟨rfl, rfl⟩
  · by_cases h2 : most < h
    · clear ho
      have h2' : decide (most < h) = true := by simpa using h2
      go_enter Try.func23, Try.ntmps23
      go_wp2_with fail
      go_ret
      exact ⟨rfl, rfl⟩
    · obtain ⟨n, rfl⟩ := Int.eq_ofNat_of_zero_le (show 0 ≤ h by omega)
      simp only [Int.toNat_natCast] at ho
      have o3 : (s n).m = 0 := by
        by_cases e : (s n).m = 0
        · exact e
        · exact absurd ⟨by omega, by omega, e⟩ ho
      clear ho
      have hl : n ≤ 16 := by omega
      have e2 : w.cell? ⟨b, 2 + n * 4 + 2, none⟩ = some (.int .i64 0) := (hR.cell (by omega)).trans (by rw [vf_at _ _ _ _ _ (by omega)]; show some (Value.int .i64 (s n).m) = _; rw [o3])
      clear o3
      go_enter Try.func23, Try.ntmps23
      go_wp2_with fail
      go_ret
      exact ⟨rfl, rfl⟩

/-! The state after a store. -/
def upd {α : Type} (s : Nat → α) (n : Nat) (v : α) : Nat → α := fun j => if j = n then v else s j
theorem upd_same {α : Type} (s : Nat → α) (n : Nat) (v : α) : upd s n v n = v := by simp [upd]
theorem upd_upd {α : Type} (s : Nat → α) (n : Nat) (u v : α) : upd (upd s n u) n v = upd s n v := by
  funext j
  unfold upd
  split <;> rfl
def vset (v : Vw) (k : Nat) (x : Int) : Vw := match k with
  | 0 => { v with r := x }
  | 1 => { v with c := x }
  | 2 => { v with m := x }
  | _ => { v with n := x }

theorem row_vset {w : World} {b t : Nat} {most cnt : Int} {s : Nat → Vw} (h : w.rowIs b t 70 (vf most cnt s)) (n k : Nat) (hk : k < 4) (x : Int) :
    (w.setCell ⟨b, 2 + n * 4 + k, none⟩ (.int .i64 x)).rowIs b t 70 (vf most cnt (upd s n (vset (s n) k x))) := by
  refine (h.set _ _).congr fun i hi => ?_
  by_cases h0 : i = 0
  · subst h0
    rw [if_neg (by omega)]
    rfl
  by_cases h1 : i = 1
  · subst h1
    rw [if_neg (by omega)]
    rfl
  obtain ⟨j, l, hl, rfl⟩ : ∃ j l, l < 4 ∧ i = 2 + j * 4 + l := ⟨(i - 2) / 4, (i - 2) % 4, by omega, by omega⟩
  rw [vf_at _ _ _ _ _ hl, vf_at _ _ _ _ _ hl]
  by_cases hj : j = n
  · subst hj
    rw [upd_same]
    by_cases hkl : l = k
    · subst hkl
      rw [if_pos rfl]
      match l, hl with
      | 0, _ => rfl
      | 1, _ => rfl
      | 2, _ => rfl
      | 3, _ => rfl
    · rw [if_neg (by omega)]
      match l, k, hl, hk, hkl with
      | 0, 1, _, _, _ => rfl
      | 0, 2, _, _, _ => rfl
      | 0, 3, _, _, _ => rfl
      | 1, 0, _, _, _ => rfl
      | 1, 2, _, _, _ => rfl
      | 1, 3, _, _, _ => rfl
      | 2, 0, _, _, _ => rfl
      | 2, 1, _, _, _ => rfl
      | 2, 3, _, _, _ => rfl
      | 3, 0, _, _, _ => rfl
      | 3, 1, _, _, _ => rfl
      | 3, 2, _, _, _ => rfl
      | 3, 3, _, _, e => exact absurd rfl e
  · rw [if_neg (by omega)]
    simp [upd, hj]

theorem row_cnt {w : World} {b t : Nat} {most cnt : Int} {s : Nat → Vw} (h : w.rowIs b t 70 (vf most cnt s)) (x : Int) :
    (w.setCell ⟨b, 1, none⟩ (.int .i64 x)).rowIs b t 70 (vf most x s) := by
  refine (h.set _ _).congr fun i hi => ?_
  by_cases h1 : i = 1
  · subst h1
    rfl
  · rw [if_neg h1]
    unfold vf
    rw [if_neg h1, if_neg h1]

theorem row_place {w : World} {b t : Nat} {most cnt : Int} {s : Nat → Vw} (h : w.rowIs b t 70 (vf most cnt s)) (n : Nat) (r c : Int) :
    ((w.setCell ⟨b, 2 + n * 4, none⟩ (.int .i64 r)).setCell ⟨b, 2 + n * 4 + 1, none⟩ (.int .i64 c)).rowIs b t 70 (vf most cnt (upd s n { s n with r := r, c := c })) := by
  have := row_vset (row_vset h n 0 (by omega) r) n 1 (by omega) c
  rw [upd_upd, upd_same] at this
  exact this
theorem row_whole {w : World} {b t : Nat} {most cnt : Int} {s : Nat → Vw} (h : w.rowIs b t 70 (vf most cnt s)) (n : Nat) (r c p q : Int) :
    ((((w.setCell ⟨b, 2 + n * 4, none⟩ (.int .i64 r)).setCell ⟨b, 2 + n * 4 + 1, none⟩ (.int .i64 c)).setCell ⟨b, 2 + n * 4 + 2, none⟩ (.int .i64 p)).setCell ⟨b, 2 + n * 4 + 3, none⟩ (.int .i64 q)).rowIs b t 70
      (vf most cnt (upd s n ⟨r, c, p, q⟩)) := by
  have := row_vset (row_vset (row_vset (row_vset h n 0 (by omega) r) n 1 (by omega) c) n 2 (by omega) p) n 3 (by omega) q
  simp only [upd_upd, upd_same] at this
  exact this
end Go.Proofs.Ytocglcngfgpfnaa

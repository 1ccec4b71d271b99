/-
  Contracts of view.New and of the methods Move, Close, Count, Rect of a Views. Conditions: those of each theorem.
-/
import Derived.Test.YtocglcngfgpfnaaView2
import Derived.StillTailTactics
import Derived.BigRegion
import Derived.Deep.RegionHeld3
import Derived.Deep.RegionWith
namespace Go.Proofs.Ytocglcngfgpfnaa
open Go.ChangeShapes Go.WideShapes Go.ChangeAt Go.RowKit Go.Deep

def F0 : Nat → Vw := fun _ => ⟨0, 0, 0, 0⟩
/-- The block of a Views is as said. -/
abbrev VIs (w : World) (b : Nat) (most cnt : Int) (s : Nat → Vw) : Prop := w.rowIs b 54 70 (vf most cnt s)

theorem new_no (most : Int) (w : World) (h : most < 1 ∨ 16 < most) :
    Calls Try.prog 6 #[.int .i64 most] w fun e w' => e = .returned (.tuple #[.pointer none, .int .i64 1]) ∧ w = w' := by
  rcases h with h | h
  · have h' : decide (most < 1) = true := by simpa using h
    go_enter Try.func6, Try.ntmps6
    go_wp2_with fail
    go_ret2
    exact ⟨rfl, rfl⟩
  · have h' : decide (most < 1) = false := by simp; omega
    have h2 : decide (16 < most) = true := by simpa using h
    go_enter Try.func6, Try.ntmps6
    go_wp2_with fail
    go_ret2
    exact ⟨rfl, rfl⟩

theorem zero_new (w : World) : (zeroValue 54).run Try.prog w = .ok (.agg ((List.range 70).map (vf 0 0 F0)).toArray) w := by kernel_rfl

theorem new_yes (most : Int) (w : World) (h : 1 ≤ most) (h2 : most ≤ 16) :
    Calls Try.prog 6 #[.int .i64 most] w fun e w' => e = .returned (.tuple #[.pointer (some ⟨w.heap.size, 0, none⟩), .int .i64 0]) ∧ VIs w' w.heap.size most 0 F0 ∧ Below w.heap.size w w' := by
  obtain ⟨cs, hcs⟩ : ∃ cs, cs = ((List.range 70).map (vf 0 0 F0)).toArray := ⟨_, rfl⟩
  have hb := zero_new
  rw [← hcs] at hb
  have hsz : cs.size = 70 := by rw [hcs]; simp
  have hne : ¬ cs = #[] := by intro e; rw [e] at hsz; simp at hsz
  have hat : ∀ i, i < cs.size → (cs.setIfInBounds 0 (.int .i64 most))[i]? = some (vf most 0 F0 i) := fun i hi => by
    rw [Array.getElem?_setIfInBounds]
    by_cases e : 0 = i
    · subst e
      simp [hsz, vf_0]
    · rw [if_neg e, hcs]
      rw [hsz] at hi
      have e0 : ¬ i = 0 := fun h => e h.symm
      simp [hi, vf, e0]
  have HS : Hid (cs.size = 70) := hsz
  have HA : Hid (∀ i, i < cs.size → (cs.setIfInBounds 0 (.int .i64 most))[i]? = some (vf most 0 F0 i)) := hat
  clear hcs hsz hat
  go_enter Try.func6, Try.ntmps6
  go_wp2_with fail
  go_ret2
  refine ⟨rfl, ?_, bel_alloc (bel_refl w) _⟩
  have := World.rowIs_alloc w (cs.setIfInBounds 0 (.int .i64 most)) 54 (vf most 0 F0) (by intro i hi; exact HA.out i (by simpa using hi))
  rw [Array.size_setIfInBounds, HS.out] at this
  exact this

theorem count_any (b : Nat) (most cnt : Int) (s : Nat → Vw) (w : World) (hR : VIs w b most cnt s) :
    Calls Try.prog 10 #[.pointer (some ⟨b, 0, none⟩)] w fun e w' => e = .returned (.int .i64 cnt) ∧ w = w' := by
  have e1 : w.cell? ⟨b, 1, none⟩ = some (.int .i64 cnt) := hR.cell (by omega)
  go_enter Try.func10, Try.ntmps10
  go_wp2_with fail
  go_ret
  exact ⟨rfl, rfl⟩

theorem move_addr (b : Nat) (h r c : Int) (w : World) (hm : mayB r c = false) :
    Calls Try.prog 13 #[.pointer (some ⟨b, 0, none⟩), .int .i64 h, .agg #[.int .i64 r, .int .i64 c]] w fun e w' => e = .returned (.int .i64 3) ∧ Below w.heap.size w w' := by
  go_enter Try.func13, Try.ntmps13
  go_wp2_with fail
  refine (may_any _ _ _).mono ?_
  rintro e w1 ⟨rfl, hb1⟩
  go_wp2_with fail
  go_ret
  exact ⟨rfl, bel_call (bel_alloc (bel_refl w) _) hb1⟩

theorem move_no (b : Nat) (most cnt : Int) (s : Nat → Vw) (h r c : Int) (w : World) (hR : VIs w b most cnt s) (hm : most ≤ 16) (hmay : mayB r c = true) (ho : isOpen most s h = false) :
    Calls Try.prog 13 #[.pointer (some ⟨b, 0, none⟩), .int .i64 h, .agg #[.int .i64 r, .int .i64 c]] w fun e w' => e = .returned (.int .i64 4) ∧ Below w.heap.size w w' := by
  go_enter Try.func13, Try.ntmps13
  go_wp2_with fail
  refine (may_any _ _ _).mono ?_
  rintro e w1 ⟨rfl, hb1⟩
  have hR1 := row_below (hR.alloc _) hb1
  go_wp2_with fail
  refine (open_no b most cnt s h _ hR1 hm ho).mono ?_
  rintro e w2 ⟨rfl, rfl⟩
  go_wp2_with fail
  go_ret
  exact ⟨rfl, bel_call (bel_alloc (bel_refl w) _) hb1⟩

theorem move_yes (b : Nat) (most cnt : Int) (s : Nat → Vw) (h r c : Int) (w : World) (hR : VIs w b most cnt s) (hm : most ≤ 16) (hmay : mayB r c = true) (ho : isOpen most s h = true) :
    Calls Try.prog 13 #[.pointer (some ⟨b, 0, none⟩), .int .i64 h, .agg #[.int .i64 r, .int .i64 c]] w fun e w' => e = .returned (.int .i64 0) ∧
      VIs w' b most cnt (upd s h.toNat { s h.toNat with r := r, c := c }) ∧ w.grownBy w' (some b) := by
  go_enter Try.func13, Try.ntmps13
  go_wp2_with fail
  refine (may_any _ _ _).mono ?_
  rintro e w1 ⟨rfl, hb1⟩
  have hR1 := row_below (hR.alloc _) hb1
  have k1 := (Blk.new w rfl _ _).below hb1
  have rd1 := k1.rd
  go_wp2_with fail
  refine (open_yes b most cnt s h _ hR1 hm ho).mono ?_
  rintro e w2 ⟨rfl, rfl⟩
  have ho' := ho
  simp only [isOpen, decide_eq_true_eq] at ho'
  have hl : h.toNat ≤ 16 := by omega
  clear ho'
  have ec0 : w1.cell? ⟨b, 2 + h.toNat * 4, none⟩ = some _ := hR1.cell (by omega)
  have ec1 : w1.cell? ⟨b, 2 + h.toNat * 4 + 1, none⟩ = some _ := hR1.cell (by omega)
  have ef0 := hR1.frozen (2 + h.toNat * 4)
  have ef1 := hR1.frozen (2 + h.toNat * 4 + 1)
  go_wp2_with fail
  go_ret
  refine ⟨rfl, row_place hR1 _ _ _, ?_⟩
  exact grown_set (grown_set (grown_of_below (bel_call (bel_alloc (bel_refl w) _) hb1) _) (.inl rfl) _) (.inl rfl) _

theorem close_no (b : Nat) (most cnt : Int) (s : Nat → Vw) (h : Int) (w : World) (hR : VIs w b most cnt s) (hm : most ≤ 16) (ho : isOpen most s h = false) :
    Calls Try.prog 17 #[.pointer (some ⟨b, 0, none⟩), .int .i64 h] w fun e w' => e = .returned (.int .i64 4) ∧ w = w' := by
  go_enter Try.func17, Try.ntmps17
  go_wp2_with fail
  refine (open_no b most cnt s h _ hR hm ho).mono ?_
  rintro e w2 ⟨rfl, rfl⟩
  go_wp2_with fail
  go_ret
  exact ⟨rfl, rfl⟩

theorem close_yes (b : Nat) (most cnt : Int) (s : Nat → Vw) (h : Int) (w : World) (hR : VIs w b most cnt s) (hm : most ≤ 16) (hc : 0 ≤ cnt ∧ cnt ≤ 16) (ho : isOpen most s h = true) :
    Calls Try.prog 17 #[.pointer (some ⟨b, 0, none⟩), .int .i64 h] w fun e w' => e = .returned (.int .i64 0) ∧
      VIs w' b most (cnt - 1) (upd s h.toNat ⟨0, 0, 0, 0⟩) ∧ w.grownBy w' (some b) := by
  go_enter Try.func17, Try.ntmps17
  go_wp2_with fail
  refine (open_yes b most cnt s h _ hR hm ho).mono ?_
  rintro e w2 ⟨rfl, rfl⟩
  have ho' := ho
  simp only [isOpen, decide_eq_true_eq] at ho'
  have hl : h.toNat ≤ 16 := by omega
  clear ho'
  have ec0 : w.cell? ⟨b, 2 + h.toNat * 4, none⟩ = some _ := hR.cell (by omega)
  have ec1 : w.cell? ⟨b, 2 + h.toNat * 4 + 1, none⟩ = some _ := hR.cell (by omega)
  have ec2 : w.cell? ⟨b, 2 + h.toNat * 4 + 2, none⟩ = some _ := hR.cell (by omega)
  have ec3 : w.cell? ⟨b, 2 + h.toNat * 4 + 3, none⟩ = some _ := hR.cell (by omega)
  have ec : w.cell? ⟨b, 1, none⟩ = some (.int .i64 cnt) := hR.cell (by omega)
  have ef := hR.frozen
  go_wp2_with fail
  go_ret
  refine ⟨rfl, row_cnt (row_whole hR _ _ _ _ _) _, ?_⟩
  exact grown_set (grown_set (grown_set (grown_set (grown_set (grown_refl w _) (.inl rfl) _) (.inl rfl) _) (.inl rfl) _) (.inl rfl) _) (.inl rfl) _

theorem rect_no (b : Nat) (most cnt : Int) (s : Nat → Vw) (h : Int) (w : World) (hR : VIs w b most cnt s) (hm : most ≤ 16) (ho : isOpen most s h = false) :
    Calls Try.prog 11 #[.pointer (some ⟨b, 0, none⟩), .int .i64 h] w fun e w' =>
      e = .returned (.tuple #[.agg #[.int .i64 0, .int .i64 0, .int .i64 0, .int .i64 0], .int .i64 4]) ∧ Below w.heap.size w w' := by
  go_enter Try.func11, Try.ntmps11
  go_wp2_with fail
  refine (open_no b most cnt s h _ (hR.alloc _) hm ho).mono ?_
  rintro e w2 ⟨rfl, rfl⟩
  go_wp2_with fail
  refine bodyPost_ret (v := .tuple #[.agg #[.int .i64 0, .int .i64 0, .int .i64 0, .int .i64 0], .int .i64 4]) (by simp [results, Try.results11, go_sem]) rfl ⟨rfl, ?_⟩
  exact bel_alloc (bel_refl w) _

theorem rect_yes (b : Nat) (most cnt : Int) (s : Nat → Vw) (h : Int) (w : World) (hR : VIs w b most cnt s) (hm : most ≤ 16) (ho : isOpen most s h = true)
    (h1 : mayB (s h.toNat).r (s h.toNat).c = true) (hm1 : 1 ≤ (s h.toNat).m) (hn1 : 1 ≤ (s h.toNat).n) (hm2 : (s h.toNat).m ≤ 4096) (hn2 : (s h.toNat).n ≤ 256) :
    Calls Try.prog 11 #[.pointer (some ⟨b, 0, none⟩), .int .i64 h] w fun e w' =>
      e = .returned (.tuple #[.agg #[.int .i64 (s h.toNat).r, .int .i64 (s h.toNat).c, .int .i64 (min 4096 ((s h.toNat).r + (s h.toNat).m - 1)), .int .i64 (min 256 ((s h.toNat).c + (s h.toNat).n - 1))], .int .i64 0]) ∧ Below w.heap.size w w' := by
  go_enter Try.func11, Try.ntmps11
  go_wp2_with fail
  refine (open_yes b most cnt s h _ (hR.alloc _) hm ho).mono ?_
  rintro e w2 ⟨rfl, rfl⟩
  have ho' := ho
  simp only [isOpen, decide_eq_true_eq] at ho'
  have hl : h.toNat ≤ 16 := by omega
  clear ho'
  go_wp2_with fail
  have ec0 : w.cell? ⟨b, 2 + h.toNat * 4, none⟩ = some (.int .i64 (s h.toNat).r) := (hR.cell (by omega)).trans (congrArg some (vf_at most cnt s h.toNat 0 (by omega)))
  have ec1 : w.cell? ⟨b, 2 + h.toNat * 4 + 1, none⟩ = some (.int .i64 (s h.toNat).c) := (hR.cell (by omega)).trans (by rw [vf_at _ _ _ _ _ (by omega)]; rfl)
  have ec2 : w.cell? ⟨b, 2 + h.toNat * 4 + 2, none⟩ = some (.int .i64 (s h.toNat).m) := (hR.cell (by omega)).trans (by rw [vf_at _ _ _ _ _ (by omega)]; rfl)
  have ec3 : w.cell? ⟨b, 2 + h.toNat * 4 + 3, none⟩ = some (.int .i64 (s h.toNat).n) := (hR.cell (by omega)).trans (by rw [vf_at _ _ _ _ _ (by omega)]; rfl)
  have hlt : b < w.heap.size := hR.lt
  have hnb1 : ¬ b = w.heap.size := by omega
  have hnb2 : ¬ w.heap.size = b := by omega
  go_region_held3 (fun w' => w'.cell? ⟨b, 2 + h.toNat * 4, none⟩ = some (.int .i64 (s h.toNat).r) ∧ w'.cell? ⟨b, 2 + h.toNat * 4 + 1, none⟩ = some (.int .i64 (s h.toNat).c) ∧ w'.cell? ⟨b, 2 + h.toNat * 4 + 2, none⟩ = some (.int .i64 (s h.toNat).m) ∧ w'.cell? ⟨b, 2 + h.toNat * 4 + 3, none⟩ = some (.int .i64 (s h.toNat).n)) (go_keep)
    (first
      | (go_at_call 25; refine (cut_yes _ _ _ _ _ h1 hm1 hn1 hm2 hn2).mono ?_; rintro e w3 ⟨rfl, hb3⟩; have q := fun o => hb3.cell (p := ⟨b, o, none⟩) (by simp; omega); have k := (Blk.new w rfl 34 #[.int .i64 0, .int .i64 0, .int .i64 0, .int .i64 0]).drew.below hb3; have rdk := k.rd; have fzk := k.fz))
  all_goals
    go_wp2_with fail
    refine bodyPost_ret (v := .tuple #[.agg #[.int .i64 (s h.toNat).r, .int .i64 (s h.toNat).c, .int .i64 (min 4096 ((s h.toNat).r + (s h.toNat).m - 1)), .int .i64 (min 256 ((s h.toNat).c + (s h.toNat).n - 1))], .int .i64 0]) (by simp [results, Try.results11, go_sem, rdk]) rfl ⟨rfl, ?_⟩
    exact bel_set (bel_set (bel_set (bel_set (bel_call (bel_drew (bel_alloc (bel_refl w) _)) hb3) (Nat.le_refl _) _) (Nat.le_refl _) _) (Nat.le_refl _) _) (Nat.le_refl _) _
end Go.Proofs.Ytocglcngfgpfnaa

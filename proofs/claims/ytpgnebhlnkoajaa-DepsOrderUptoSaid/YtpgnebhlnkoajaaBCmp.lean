/-
  Bands: contracts of cmp's Compare and Or. Conditions: those of each theorem.
-/
import Derived.Test.YtpgnebhlnkoajaaBKeys
import Derived.Test.YtpgnebhlnkoajaaFork
import Derived.Sort.Grow
namespace Go.Proofs.Ytpgnebhlnkoajaa
open Go.ChangeShapes Go.WideShapes Go.ChangeAt Go.RowKit Go.Deep

def cmpI (a b : Int) : Int := if a < b then -1 else if b < a then 1 else 0
theorem nan_any (a : Int) (w : World) : Calls Try.prog 68 #[.int .i64 a] w fun e w' => e = .returned (.bool false) ∧ w = w' := by
  go_enter Try.func68, Try.ntmps68
  go_wp2_with fail
  go_ret
  exact ⟨by simp, rfl⟩
theorem compare_any (a b : Int) (w : World) : Calls Try.prog 50 #[.int .i64 a, .int .i64 b] w fun e w' => e = .returned (.int .i64 (cmpI a b)) ∧ w = w' := by
  by_cases h1 : a < b
  · rw [show cmpI a b = -1 from if_pos h1]
    have d1 : decide (a < b) = true := decide_eq_true h1
    go_enter Try.func50, Try.ntmps50
    go_wp2_with fail
    refine (nan_any _ _).mono ?_
    rintro e w' ⟨rfl, rfl⟩
    go_wp2_with fail
    refine (nan_any _ _).mono ?_
    rintro e w' ⟨rfl, rfl⟩
    go_wp2_with fail
    go_ret
    exact ⟨rfl, rfl⟩
  · have d1 : decide (a < b) = false := decide_eq_false h1
    by_cases h2 : b < a
    · rw [show cmpI a b = 1 from (if_neg h1).trans (if_pos h2)]
      have d2 : decide (b < a) = true := decide_eq_true h2
      go_enter Try.func50, Try.ntmps50
      go_wp2_with fail
      refine (nan_any _ _).mono ?_
      rintro e w' ⟨rfl, rfl⟩
      go_wp2_with fail
      refine (nan_any _ _).mono ?_
      rintro e w' ⟨rfl, rfl⟩
      go_wp2_with fail
      go_ret
      exact ⟨rfl, rfl⟩
    · rw [show cmpI a b = 0 from (if_neg h1).trans (if_neg h2)]
      have d2 : decide (b < a) = false := decide_eq_false h2
      go_enter Try.func50, Try.ntmps50
      go_wp2_with fail
      refine (nan_any _ _).mono ?_
      rintro e w' ⟨rfl, rfl⟩
      go_wp2_with fail
      refine (nan_any _ _).mono ?_
      rintro e w' ⟨rfl, rfl⟩
      go_wp2_with fail
      go_ret
      exact ⟨rfl, rfl⟩
/-- The first that is not zero. -/
def orI : List Int → Int
  | [] => 0
  | x :: l => if x = 0 then orI l else x
theorem orI_drop {l : List Int} {i : Nat} {x : Int} (h : l[i]? = some x) : orI (l.drop i) = if x = 0 then orI (l.drop (i + 1)) else x := by
  obtain ⟨hk, e⟩ := List.getElem?_eq_some_iff.1 h
  rw [List.drop_eq_getElem_cons hk, e]
  rfl
theorem or_any (l : List Int) (g cap : Nat) (w : World) (hl : l.length ≤ 100) (h : ∀ (i : Nat) x, l[i]? = some x → w.cell? ⟨g, i, none⟩ = some (.int .i64 x)) :
    Calls Try.prog 49 #[.slice (some ⟨g, 0, none⟩) l.length cap] w fun e w' => e = .returned (.int .i64 (orI l)) ∧ w = w' := by
  obtain ⟨R, hR⟩ : ∃ R, R = orI l := ⟨_, rfl⟩
  rw [← hR]
  have HR := Lib.hid hR
  have HH := Lib.hid h
  clear hR h
  go_enter Try.func49, Try.ntmps49
  go_wp2_with fail
  go_loopw [8] (fun s wr => ∃ i : Nat, i ≤ l.length ∧ s = .int .i64 i ∧ Hid (R = orI (l.drop i)) ∧ wr = w) (fun s _ => l.length - (intOf s).toNat)
  case atStart => exact ⟨0, Nat.zero_le _, rfl, (show R = orI (l.drop 0) from HR.out), by first | trivial | rfl⟩
  case round =>
    obtain ⟨i, hi, rfl, HI, hw⟩ := hrel
    obtain rfl := hw.symm
    by_cases hil : i < l.length
    · obtain ⟨x, hx⟩ : ∃ x, l[i]? = some x := ⟨_, List.getElem?_eq_getElem hil⟩
      have hc := HH.out i x hx
      have HX := Lib.hid (HI.out.trans (orI_drop hx))
      clear hx
      have i0 : (0 : Int) ≤ (i : Int) := by omega
      have i1 : (i : Int) < (l.length : Int) := by omega
      by_cases hx0 : x = 0
      · have HN : Hid (R = orI (l.drop (i + 1))) := HX.out.trans (if_pos hx0)
        have b0 : (x != 0) = false := by rw [bne_eq_false_iff_eq]; exact hx0
        clear hx0
        go_wp2_with fail
        go_roundw
        case rel => exact ⟨i + 1, by omega, by go_num, HN, by first | trivial | rfl⟩
        case measure => simp [intOf]; omega
      · have HN : Hid (R = x) := HX.out.trans (if_neg hx0)
        have b0 : (x != 0) = true := by rw [bne_iff_ne]; exact hx0
        clear hx0
        go_wp2_with fail
        go_ret
        exact ⟨by rw [HN.out]; rfl, rfl⟩
    · have HN : Hid (R = 0) := HI.out.trans (by rw [List.drop_eq_nil_of_le (by omega)]; rfl)
      obtain rfl : i = l.length := by omega
      go_wp2_with fail
      go_ret
      exact ⟨by rw [HN.out]; rfl, rfl⟩

/-- Draws and blocks behind a world. -/
def Gw (w w' : World) : Prop := ∃ q os', w' = Sort.grow (w.drewN q) os'
theorem gw_refl (w : World) : Gw w w := ⟨0, #[], by rw [Sort.grow_empty]; rfl⟩
theorem gw_alloc {a w : World} (h : Gw a w) (o : Obj) : Gw a (w.alloc o) := by
  obtain ⟨q, os, rfl⟩ := h
  exact ⟨q, os ++ #[o], by rw [Sort.alloc_eq_grow, Sort.grow_grow]⟩
theorem gw_drew {a w : World} (h : Gw a w) : Gw a w.drew := by
  obtain ⟨q, os, rfl⟩ := h
  exact ⟨q + 1, os, rfl⟩
theorem gw_trans {a w w' : World} (h : Gw a w) (k : Gw w w') : Gw a w' := by
  obtain ⟨q, os, rfl⟩ := h
  obtain ⟨q', os', rfl⟩ := k
  refine ⟨q + q', os ++ os', ?_⟩
  rw [← Sort.grow_grow]
  congr 1
  simp only [Sort.grow, World.drewN]
  congr 1
  omega
theorem gw_bel {a w : World} (h : Gw a w) : Below a.heap.size a w := by
  obtain ⟨q, os, rfl⟩ := h
  exact ⟨rfl, rfl, rfl, by simp [Sort.grow, World.drewN], fun k hk => by simp [Sort.grow, World.drewN, Array.getElem?_append, hk]⟩
/-- Row by row. -/
def rowI (a b c d : Int) : Int := orI [cmpI a c, cmpI b d]
theorem rowI_is (a b c d : Int) : rowI a b c d = if cmpI a c = 0 then cmpI b d else cmpI a c := by
  unfold rowI orI
  by_cases h : cmpI a c = 0
  · rw [if_pos h, if_pos h]
    unfold orI
    by_cases h2 : cmpI b d = 0
    · rw [if_pos h2, h2]
      rfl
    · rw [if_neg h2]
  · rw [if_neg h, if_neg h]
attribute [local go_sem] Cls
set_option maxHeartbeats 1600000 in
theorem row_any (a b c d : Int) (w : World) : Calls Try.prog 45 #[.agg #[.int .i64 a, .int .i64 b], .agg #[.int .i64 c, .int .i64 d]] w fun e w' => e = .returned (.int .i64 (rowI a b c d)) ∧ Gw w w' := by
  obtain ⟨R, hR⟩ : ∃ R, R = rowI a b c d := ⟨_, rfl⟩
  rw [← hR]
  have HR := Lib.hid hR
  clear hR
  go_enter Try.func45, Try.ntmps45
  go_wp2_with fail
  have hB3 := gw_alloc (gw_alloc (gw_refl w) (.cells #[.int .i64 a, .int .i64 b] 33)) (.cells #[.int .i64 c, .int .i64 d] 33)
  have k2 := (Blk.new w rfl 33 #[.int .i64 a, .int .i64 b]).alloc (.cells #[.int .i64 c, .int .i64 d] 33)
  have k3 := Blk.new (w.alloc (.cells #[.int .i64 a, .int .i64 b] 33)) (g := w.heap.size + 1) (by simp) 33 #[.int .i64 c, .int .i64 d]
  generalize hwz : (w.alloc (.cells #[.int .i64 a, .int .i64 b] 33)).alloc (.cells #[.int .i64 c, .int .i64 d] 33) = w3 at hB3 k2 k3 ⊢
  clear hwz
  obtain ⟨S, hSS⟩ : ∃ S : World → Prop, S = fun w' => Blk w' w.heap.size 33 #[.int .i64 a, .int .i64 b] ∧ Blk w' (w.heap.size + 1) 33 #[.int .i64 c, .int .i64 d] := ⟨_, rfl⟩
  have q0 := fun x => (held_of hSS x).1.rd
  have q1 := fun x => (held_of hSS x).2.rd
  have HSS := Lib.hid hSS
  have hS0 : S w3.drew := held_in HSS.out ⟨k2.drew, k3.drew⟩
  haveI : Nonempty (Held S) := ⟨⟨_, hS0⟩⟩
  clear hSS
  refine wp_region_tree (S := S) 13 (.q 0 <| .q 1 <| .q 2 <| .q 3 <| .q 5 <| .q 6 <| .q 7 <| .q 8 <| .a 4 <| .a 9 <| .a 10 <| .a 11 <| .q 12 <| .done) [] (by kernel_rfl) (by kernel_rfl) hS0 ?_
  repeat (refine tree_q (by rfl) (by rfl) (fun K hK => ?_); go_simp; refine hK _ ?_; clear hK K)
  refine tree_a (by rfl) (by rfl) (fun K hK => ?_)
  go_simp
  refine (compare_any a c _).mono ?_
  rintro e w' ⟨rfl, rfl⟩
  refine hK _ _ hS0 ?_
  clear hK K
  refine tree_a (by rfl) (by rfl) (fun K hK => ?_)
  go_simp
  refine (compare_any b d _).mono ?_
  rintro e w' ⟨rfl, rfl⟩
  refine hK _ _ hS0 ?_
  clear hK K
  obtain ⟨x, hx⟩ : ∃ x, x = cmpI a c := ⟨_, rfl⟩
  obtain ⟨y, hy⟩ : ∃ y, y = cmpI b d := ⟨_, rfl⟩
  have HROW : Hid (R = orI [x, y]) := HR.out.trans (by rw [hx, hy]; rfl)
  rw [← hx, ← hy]
  clear hx hy
  refine tree_a (by rfl) (by rfl) (fun K hK => ?_)
  go_simp
  have hS1 : S (w3.alloc (.cells #[.int .i64 x, .int .i64 y] 3)).drew := held_in HSS.out ⟨(k2.alloc _).drew, (k3.alloc _).drew⟩
  refine hK _ _ hS1 ?_
  clear hK K
  have kl := (Blk.new w3 rfl 3 #[.int .i64 x, .int .i64 y]).drew
  refine tree_a (by rfl) (by rfl) (fun K hK => ?_)
  go_simp
  refine (or_any [x, y] w3.heap.size 2 _ (by simp) (fun i z hz => ?_)).mono ?_
  · rw [kl.rd]
    match i, hz with
    | 0, hz => simpa using hz
    | 1, hz => simpa using hz
    | i + 2, hz => simp at hz
  rintro e w' ⟨rfl, rfl⟩
  refine hK _ _ hS1 ?_
  clear hK K
  repeat (refine tree_q (by rfl) (by rfl) (fun K hK => ?_); go_simp; refine hK _ ?_; clear hK K)
  refine tree_nil ?_
  clear q0 q1 hS0 hS1 HSS
  go_wp2_with fail
  go_ret
  exact ⟨by rw [HROW.out]; rfl, gw_trans hB3 (gw_drew (gw_alloc (gw_refl w3) _))⟩
end Go.Proofs.Ytpgnebhlnkoajaa

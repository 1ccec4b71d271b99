/-
  The document's store: its list in memory; contracts of orielref15's without and Put. Conditions: those of each theorem.
-/
import Derived.Test.YtiiiiplfcaeegaaSLst
import Derived.Test.YtiiiiplfcaeegaaOl
import Derived.StillTailTactics
import Derived.Deep.QuietTactic
import Derived.BigQuiet
import Derived.Laws.StructEq
import Derived.LaidEqlPtr
import Derived.Deep.DeepMust
namespace Go.Proofs.Ytiiiiplfcaeegaa
open Go.ChangeShapes Go.WideShapes Go.ChangeAt Go.RowKit Go.Deep

structure Itm where
  r : Int
  c : Int
  k : Int
def KI : Knd Itm where
  t := 87
  size := 3
  bytes := 24
  enc x := [.int .i64 x.r, .int .i64 x.c, .int .i64 x.k]
  len _ := rfl
  one x u hu := by
    simp at hu
    rcases hu with rfl | rfl | rfl <;> rfl
  pos := by omega
theorem info_item : (Try.prog.info? KI.t).map (fun i => (i.zero, i.size, i.bytes)) = some (some (.agg #[.int .i64 0, .int .i64 0, .int .i64 0]), KI.size, KI.bytes) := by kernel_rfl

/-- The document's store at block yb holds these items. -/
structure YIs (w : World) (yb : Nat) (L : List Itm) (A : Option Addr) (cap : Nat) : Prop where
  top : Blk w yb 63 #[.slice A L.length cap]
  lst : OL KI w 0 (.slice A L.length cap) L
section
variable {w w' : World} {yb : Nat} {L : List Itm} {A : Option Addr} {cap : Nat}
theorem YIs.below (h : YIs w yb L A cap) (hb : Below w.heap.size w w') : YIs w' yb L A cap := ⟨h.top.below hb, h.lst.below hb⟩
theorem YIs.alloc (h : YIs w yb L A cap) (o : Obj) : YIs (w.alloc o) yb L A cap := h.below (bel_alloc (bel_refl w) o)
theorem YIs.drew' (h : YIs w yb L A cap) : YIs w.drew yb L A cap := ⟨h.top.drew, h.lst.drew⟩
theorem YIs.lies (h : YIs w yb L A cap) : Lies KI w A L := by
  obtain ⟨A', cap', e, _, _, hl, _⟩ := h.lst.see
  cases e
  exact hl
theorem YIs.at_ (h : YIs w yb L A cap) {i : Nat} {x : Itm} (hx : L[i]? = some x) : ∃ b off, A = some ⟨b, off, none⟩ ∧ b < w.heap.size ∧ w.cell? ⟨b, off + i * 3, none⟩ = some (.int .i64 x.r) ∧ w.cell? ⟨b, off + i * 3 + 1, none⟩ = some (.int .i64 x.c) ∧ w.cell? ⟨b, off + i * 3 + 2, none⟩ = some (.int .i64 x.k) := by
  obtain ⟨b, off, h1, h2, h3⟩ := h.lies i x hx
  exact ⟨b, off, h1, h2, h3 0 _ rfl, h3 1 _ rfl, h3 2 _ rfl⟩
end

/-- All but one cell's. -/
def wo (r c : Int) (L : List Itm) : List Itm := L.filter fun x => !(x.r == r && x.c == c)
theorem wo_snoc (r c : Int) (L : List Itm) (k : Nat) (x : Itm) (h : L[k]? = some x) : wo r c (L.take (k + 1)) = if x.r = r ∧ x.c = c then wo r c (L.take k) else wo r c (L.take k) ++ [x] := by
  unfold wo
  rw [List.take_add_one, h, Option.toList_some, List.filter_append]
  by_cases hc : x.r = r ∧ x.c = c
  · rw [if_pos hc]
    simp [hc.1, hc.2]
  · rw [if_neg hc]
    have : (!(x.r == r && x.c == c)) = true := by
      cases h : (x.r == r && x.c == c)
      · rfl
      · simp at h
        exact absurd h hc
    rw [List.filter_cons_of_pos (p := fun x : Itm => !(x.r == r && x.c == c)) this]
    rfl
theorem wo_len (r c : Int) (L : List Itm) : (wo r c L).length ≤ L.length := List.length_filter_le _ _

set_option maxHeartbeats 1600000 in
set_option maxRecDepth 100000 in
theorem without_any (yb : Nat) (L : List Itm) (A : Option Addr) (cap : Nat) (r c : Int) (w : World) (h : YIs w yb L A cap) (hl : L.length * 24 ≤ 140737488355328) :
    Calls Try.prog 31 #[.pointer (some ⟨yb, 0, none⟩), .agg #[.int .i64 r, .int .i64 c]] w fun e w' => ∃ v, e = .returned v ∧ OL KI w' w.heap.size v (wo r c L) ∧ Below w.heap.size w w' := by
  go_enter Try.func31, Try.ntmps31
  go_wp2_with fail
  have k3' := Blk.new w rfl 41 #[.int .i64 r, .int .i64 c]
  have hw' := bel_alloc (bel_refl w) (.cells #[.int .i64 r, .int .i64 c] 41)
  have hlty := h.top.lt
  go_loopw [5, 6] (fun s5 s6 wr => ∃ k : Nat, k ≤ L.length ∧ s6 = .int .i64 k ∧ OL KI wr (w.heap.size + 1) s5 (wo r c (L.take k)) ∧ Blk wr w.heap.size 41 #[.int .i64 r, .int .i64 c] ∧ Below w.heap.size w wr)
    (fun _ s6 _ => L.length - (intOf s6).toNat)
  case atStart => exact ⟨0, Nat.zero_le _, rfl, OL.nil _ _, k3', hw'⟩
  case round =>
    obtain ⟨k, hk, rfl, hO, k3, hW⟩ := hrel
    clear k3' hw'
    have hY := h.below hW
    have rd0 := hY.top.rd
    have lt0 := hY.top.lt
    have rd3 := k3.rd
    have lt3 := k3.lt
    have hwl := wo_len r c (L.take k)
    replace hwl : (wo r c (L.take k)).length ≤ k := Nat.le_trans hwl (by rw [List.length_take]; omega)
    by_cases hkl : k < L.length
    · obtain ⟨x, hx⟩ : ∃ x, L[k]? = some x := ⟨_, List.getElem?_eq_getElem hkl⟩
      have HS := wo_snoc r c L k x hx
      obtain ⟨b1, o1, hA, hb1, e0, e1, e2⟩ := hY.at_ hx
      obtain ⟨xr, xc, xk⟩ := x
      dsimp only at e0 e1 e2 HS
      clear hx hY
      subst hA
      by_cases h1 : xr = r
      · by_cases h2 : xc = c
        · subst h1 h2
          rw [if_pos ⟨rfl, rfl⟩] at HS
          have HS' : Hid (wo xr xc (L.take (k + 1)) = wo xr xc (L.take k)) := HS
          clear HS
          go_wp2_with fail
          go_quiet (fail)
          go_wp2_with fail
          go_roundw
          case rel => exact ⟨k + 1, by omega, by go_num, by rw [HS'.out]; exact hO.drewN _, k3.drewN _, bel_drewN hW _⟩
          case measure => simp [intOf]; omega
        · have hb : (xc == c) = false := by
            rw [beq_eq_false_iff_ne]
            exact h2
          subst h1
          rw [if_neg (fun e => h2 e.2)] at HS
          have HS' : Hid (wo xr c (L.take (k + 1)) = wo xr c (L.take k) ++ [⟨xr, xc, xk⟩]) := HS
          clear HS h2
          go_wp2_with fail
          go_quiet (fail)
          go_wp2_with (at_builtin; go_must (refine wp_ol_append info_item rfl Try.underlying61 rfl _ _ rfl rfl (OL.alloc (OL.drewN hO _) _) (M := [⟨xr, xc, xk⟩]) (c := 1) rfl rfl (Lies.blk (Blk.new (wr.drewN _) rfl 87 #[.int .i64 xr, .int .i64 xc, .int .i64 xk]) rfl) (by unfold maxLen; omega) (by show (_ + 1) * 24 ≤ _; omega) (by simp [World.drewN]; omega) ?_); intro v7 w7 hO7 hg7)
          go_roundw
          case rel =>
            have hlow : ∀ z, Value.ownBlock _ = some z → w.heap.size + 1 ≤ z := fun z hz => (hO.lt z hz).1
            refine ⟨k + 1, by omega, by go_num, by rw [HS'.out]; exact hO7, ?_, ?_⟩
            · exact (hg7.block _ ((k3.drewN _).alloc _).lt (fun e => by have := hlow _ e.symm; omega)).trans ((k3.drewN _).alloc _)
            · exact bel_grown (bel_alloc (bel_drewN hW _) _) hg7 (fun z hz => by have := hlow z hz; omega)
          case measure => simp [intOf]; omega
      · have hb : (xr == r) = false := by
          rw [beq_eq_false_iff_ne]
          exact h1
        rw [if_neg (fun e => h1 e.1)] at HS
        have HS' : Hid (wo r c (L.take (k + 1)) = wo r c (L.take k) ++ [⟨xr, xc, xk⟩]) := HS
        clear HS h1
        go_wp2_with fail
        go_quiet (fail)
        go_wp2_with (at_builtin; go_must (refine wp_ol_append info_item rfl Try.underlying61 rfl _ _ rfl rfl (OL.alloc (OL.drewN hO _) _) (M := [⟨xr, xc, xk⟩]) (c := 1) rfl rfl (Lies.blk (Blk.new (wr.drewN _) rfl 87 #[.int .i64 xr, .int .i64 xc, .int .i64 xk]) rfl) (by unfold maxLen; omega) (by show (_ + 1) * 24 ≤ _; omega) (by simp [World.drewN]; omega) ?_); intro v7 w7 hO7 hg7)
        go_roundw
        case rel =>
          have hlow : ∀ z, Value.ownBlock _ = some z → w.heap.size + 1 ≤ z := fun z hz => (hO.lt z hz).1
          refine ⟨k + 1, by omega, by go_num, by rw [HS'.out]; exact hO7, ?_, ?_⟩
          · exact (hg7.block _ ((k3.drewN _).alloc _).lt (fun e => by have := hlow _ e.symm; omega)).trans ((k3.drewN _).alloc _)
          · exact bel_grown (bel_alloc (bel_drewN hW _) _) hg7 (fun z hz => by have := hlow z hz; omega)
        case measure => simp [intOf]; omega
    · obtain rfl : k = L.length := by omega
      rw [List.take_length] at hO
      go_wp2_with fail
      go_ret
      exact ⟨_, rfl, hO.low (Nat.le_succ _), hW⟩
end Go.Proofs.Ytiiiiplfcaeegaa

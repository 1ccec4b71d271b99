/-
  The law's given and spoilt: a list of its own with room behind; a list written over, its room too. Conditions: those of each theorem.
-/
import Derived.Test.YtpgnebhlnkoajaaDHelp
import Derived.Test.YtpgnebhlnkoajaaGp
namespace Go.Proofs.Ytpgnebhlnkoajaa
open Go.ChangeShapes Go.WideShapes Go.ChangeAt Go.RowKit Go.Deep
attribute [local go_sem] Cls

def zRf : Rf := ⟨false, 0, 0, 0, 0⟩
theorem stores_5 (w : World) (g o : Nat) (v0 v1 v2 v3 v4 : Value) : stores w g o 0 [v0, v1, v2, v3, v4] = (((((w.setCell ⟨g, o, none⟩ v0).setCell ⟨g, o + 1, none⟩ v1).setCell ⟨g, o + 2, none⟩ v2).setCell ⟨g, o + 3, none⟩ v3).setCell ⟨g, o + 4, none⟩ v4) := rfl
theorem rfill_get (L : List Rf) (i : Nat) (hi : i < L.length) : (L.take i ++ List.replicate (L.length + 2 - i) zRf)[i]? = some zRf := by
  have hl : (L.take i).length = i := by simp; omega
  rw [List.getElem?_append_right (by omega), hl, Nat.sub_self, List.getElem?_replicate, if_pos (by omega)]
theorem rfill_set {L : List Rf} {i : Nat} {x : Rf} (hx : L[i]? = some x) : (L.take i ++ List.replicate (L.length + 2 - i) zRf).set i x = L.take (i + 1) ++ List.replicate (L.length + 2 - (i + 1)) zRf := by
  have hi := (List.getElem?_eq_some_iff.1 hx).1
  have hl : (L.take i).length = i := by simp; omega
  rw [List.set_append_right _ _ (by omega), hl, Nat.sub_self, show L.length + 2 - i = (L.length + 2 - (i + 1)) + 1 by omega, List.replicate_succ, List.set_cons_zero, List.take_add_one, hx, Option.toList_some, List.append_assoc]
  rfl
/-- What given answers. -/
def GivIs (L : List Rf) (w : World) (e : Ending) (w' : World) : Prop := ∃ g, e = .returned (.slice (some ⟨g, 0, none⟩) L.length (L.length + 2)) ∧ OL KF w' w.heap.size (.slice (some ⟨g, 0, none⟩) (L.length + 2) (L.length + 2)) (L ++ [zRf, zRf]) ∧ Below w.heap.size w w'
set_option maxHeartbeats 6400000 in
set_option maxRecDepth 100000 in
theorem dgiven_any (L : List Rf) (A : Option Addr) (cap : Nat) (w : World) (hA : Lies KF w A L) (hb : (L.length + 2) * 40 ≤ 281474976710656) :
    Calls Try.prog 10 #[.slice A L.length cap] w (GivIs L w) := by
  obtain ⟨i0, hi0, hz0, hz1, hz2⟩ := info_parts info_kf
  obtain ⟨C, hC⟩ : ∃ C, C = madeCells (KF.enc zRf).toArray ((L.length + 2) * KF.size) := ⟨_, rfl⟩
  have hmk : ∀ w, (Instr.makeSlice 30 (.int .i64 (L.length : Int)) (.int .i64 ((L.length : Int) + 2))).run Try.prog w = .ok (.slice (some ⟨w.heap.size, 0, none⟩) L.length (L.length + 2)) (w.alloc (.cells C 49)) := fun w => by
    have h := run_make (P := Try.prog) w 30 49 i0 (.agg #[.bool false, .int .i64 0, .int .i64 0, .int .i64 0, .int .i64 0]) Try.underlying30 hi0 hz0 .i64 .i64 (L.length : Int) ((L.length : Int) + 2) (by omega) (by omega) (by rw [hz2]; show (40 : Int) * _ ≤ _; omega) (by omega)
    rw [h, hC, hz1, show ((L.length : Int) + 2).toNat = L.length + 2 by omega, Int.toNat_natCast]
    rfl
  have hwr : IntKind.i64.wrap ((L.length : Int) + 2) = (L.length : Int) + 2 := IntWalk.i64_in _ (by omega)
  have hO0 : ∀ w : World, OL KF (w.alloc (.cells C 49)) w.heap.size (.slice (some ⟨w.heap.size, 0, none⟩) (L.length + 2) (L.length + 2)) (List.replicate (L.length + 2) zRf) := fun w => by
    rw [hC]
    exact ol_made w zRf (L.length + 2) (by unfold maxLen; omega)
  have HO0 := Lib.hid hO0
  clear hC hi0 hz0 hz1 hz2 hO0
  go_enter Try.func10, Try.ntmps10
  go_wp2_with fail
  clear hmk hwr
  have hw' := bel_alloc (bel_refl w) (.cells C 49)
  have hO' := HO0.out w
  go_loopw [4] (fun s4 wr => ∃ i : Nat, i ≤ L.length ∧ s4 = .int .i64 i ∧ OL KF wr w.heap.size (.slice (some ⟨w.heap.size, 0, none⟩) (L.length + 2) (L.length + 2)) (L.take i ++ List.replicate (L.length + 2 - i) zRf) ∧ Below w.heap.size w wr) (fun s4 _ => L.length - (intOf s4).toNat)
  case atStart => exact ⟨0, Nat.zero_le _, rfl, hO', hw'⟩
  case round =>
    obtain ⟨i, hi, rfl, hO, hW⟩ := hrel
    clear hw' hO'
    have hLL : (L.take i ++ List.replicate (L.length + 2 - i) zRf).length = L.length + 2 := by simp; omega
    have hO1 : OL KF wr w.heap.size (.slice (some ⟨w.heap.size, 0, none⟩) (L.take i ++ List.replicate (L.length + 2 - i) zRf).length (L.length + 2)) (L.take i ++ List.replicate (L.length + 2 - i) zRf) := by rw [hLL]; exact hO
    have fz3 := hO1.fz
    have lt3 : w.heap.size < wr.heap.size := (hO.lt _ rfl).2
    by_cases hil : i < L.length
    · obtain ⟨x, hx⟩ : ∃ x, L[i]? = some x := ⟨_, List.getElem?_eq_getElem hil⟩
      have hSt := hO1.store (i := i) (by rw [hLL]; omega) x
      rw [rfill_set hx, hLL] at hSt
      have hgi := rfill_get L i hil
      have z0 : wr.cell? ⟨w.heap.size, i * 5, none⟩ = some (.bool false) := hO1.at_ hgi (j := 0) rfl
      have z1 : wr.cell? ⟨w.heap.size, i * 5 + 1, none⟩ = some (.int .i64 0) := hO1.at_ hgi (j := 1) rfl
      have z2 : wr.cell? ⟨w.heap.size, i * 5 + 2, none⟩ = some (.int .i64 0) := hO1.at_ hgi (j := 2) rfl
      have z3 : wr.cell? ⟨w.heap.size, i * 5 + 3, none⟩ = some (.int .i64 0) := hO1.at_ hgi (j := 3) rfl
      have z4 : wr.cell? ⟨w.heap.size, i * 5 + 4, none⟩ = some (.int .i64 0) := hO1.at_ hgi (j := 4) rfl
      have HX := Lib.hid hx
      clear hx hLL hO1 hgi
      obtain ⟨m, t, l, b, r⟩ := x
      obtain ⟨gs, os, rfl, hgs, e0, e1, e2, e3, e4⟩ := ref_at (hA.below hW) HX.out
      dsimp only at e0 e1 e2 e3 e4
      have i0 : (0 : Int) ≤ (i : Int) := by omega
      have i1 : (i : Int) < (L.length : Int) := by omega
      have i2 : (i : Int) < ((L.length + 2 : Nat) : Int) := by omega
      have hbw := bel_stores (g := w.heap.size) (o := i * KF.size) (Nat.le_refl _) (KF.enc ⟨m, t, l, b, r⟩) 0 wr hW
      have henc : KF.enc ⟨m, t, l, b, r⟩ = [.bool m, .int .i64 t, .int .i64 l, .int .i64 b, .int .i64 r] := rfl
      have hks : i * KF.size = i * 5 := rfl
      rw [henc, hks, stores_5] at hSt hbw
      have HSt := Lib.hid hSt
      have HBW := Lib.hid hbw
      clear hSt hbw henc hks
      go_wp2_with fail
      go_roundw
      case rel => exact ⟨i + 1, by omega, by go_num, HSt.out, HBW.out⟩
      case measure => simp [intOf]; omega
    · obtain rfl : i = L.length := by omega
      rw [List.take_length, show L.length + 2 - L.length = 2 by omega] at hO
      clear hLL hO1
      go_wp2_with fail
      go_ret
      exact ⟨_, rfl, hO, hW⟩
set_option maxHeartbeats 6400000 in
set_option maxRecDepth 100000 in
theorem dspoilt_any (g n c : Nat) (cur : Array Value) (w : World) (hk : Blk w g 49 cur) (hs : cur.size = c * 5) (hc1 : c ≤ 9223372036854775807) :
    Calls Try.prog 13 #[.slice (some ⟨g, 0, none⟩) n c] w fun e w' => e = .returned (.tuple #[]) ∧ w.grownBy w' (some g) := by
  have hcc : (0 : Int) ≤ (c : Int) := by omega
  have hg0 := grown_of_below (bel_refl w) (some g)
  go_enter Try.func13, Try.ntmps13
  go_wp2_with fail
  go_loopw [3] (fun s wr => ∃ (i : Nat) (cur : Array Value), i ≤ c ∧ s = .int .i64 i ∧ Blk wr g 49 cur ∧ cur.size = c * 5 ∧ w.grownBy wr (some g)) (fun s _ => c - (intOf s).toNat)
  case atStart => exact ⟨0, cur, Nat.zero_le _, rfl, hk, hs, hg0⟩
  case round =>
    obtain ⟨i, cur, hi, rfl, kc, hcz, hG⟩ := hrel
    clear hk hs hg0
    by_cases hil : i < c
    · have ltc := kc.lt
      have fzc := kc.fz
      obtain ⟨u0, z0⟩ : ∃ u, wr.cell? ⟨g, i * 5, none⟩ = some u := ⟨_, (kc.rd _).trans (Array.getElem?_eq_getElem (by omega))⟩
      obtain ⟨u1, z1⟩ : ∃ u, wr.cell? ⟨g, i * 5 + 1, none⟩ = some u := ⟨_, (kc.rd _).trans (Array.getElem?_eq_getElem (by omega))⟩
      obtain ⟨u2, z2⟩ : ∃ u, wr.cell? ⟨g, i * 5 + 2, none⟩ = some u := ⟨_, (kc.rd _).trans (Array.getElem?_eq_getElem (by omega))⟩
      obtain ⟨u3, z3⟩ : ∃ u, wr.cell? ⟨g, i * 5 + 3, none⟩ = some u := ⟨_, (kc.rd _).trans (Array.getElem?_eq_getElem (by omega))⟩
      obtain ⟨u4, z4⟩ : ∃ u, wr.cell? ⟨g, i * 5 + 4, none⟩ = some u := ⟨_, (kc.rd _).trans (Array.getElem?_eq_getElem (by omega))⟩
      have i0 : (0 : Int) ≤ (i : Int) := by omega
      have i1 : (i : Int) < (c : Int) := by omega
      go_wp2_with fail
      go_roundw
      case rel => exact ⟨i + 1, _, by omega, by go_num, (((((kc.put (i * 5) (.bool true)).put (i * 5 + 1) (.int .i64 9)).put (i * 5 + 2) (.int .i64 9)).put (i * 5 + 3) (.int .i64 9)).put (i * 5 + 4) (.int .i64 9)), by simpa using hcz, (grown_set (grown_set (grown_set (grown_set (grown_set hG (.inl rfl) _) (.inl rfl) _) (.inl rfl) _) (.inl rfl) _) (.inl rfl) _)⟩
      case measure => simp [intOf]; omega
    obtain rfl : i = c := by omega
    go_wp2_with fail
    try simp only [Exit.inBlock, Exit.then]
    exact ⟨rfl, .tuple #[], by simp [results, Try.results13, go_sem], rfl, hG⟩
end Go.Proofs.Ytpgnebhlnkoajaa

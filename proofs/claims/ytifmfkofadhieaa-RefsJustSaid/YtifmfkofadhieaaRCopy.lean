/-
  Formulas: contracts of the law's copied and spared; how many bytes a formula takes. Conditions: the list's bytes are below make's bound.
-/
import Derived.Test.YtifmfkofadhieaaRSame
import Derived.Test.YtifmfkofadhieaaOlMake
import Derived.Test.YtifmfkofadhieaaSized
namespace Go.Proofs.Ytifmfkofadhieaa
open Go.ChangeShapes Go.WideShapes Go.ChangeAt Go.RowKit Go.Deep

def zNd : Nd := ⟨0, 0, 0, ⟨#[]⟩, false, 0, 0, 0, 0, 0, 0, 0, 0, ⟨#[]⟩, 0⟩
theorem info_kn : (Try.prog.info? KN.t).map (fun i => (i.zero, i.size, i.bytes)) = some (some (.agg #[.int .i64 0, .int .i64 0, .int .i64 0, .string ⟨#[]⟩, .bool false, .int .i64 0, .int .i64 0, .int .i64 0, .int .i64 0, .int .i64 0, .int .i64 0, .int .i64 0, .int .i64 0, .string ⟨#[]⟩, .int .i64 0]), KN.size, KN.bytes) := by kernel_rfl
theorem stores_15 (w : World) (g o : Nat) (v0 v1 v2 v3 v4 v5 v6 v7 v8 v9 v10 v11 v12 v13 v14 : Value) : stores w g o 0 [v0, v1, v2, v3, v4, v5, v6, v7, v8, v9, v10, v11, v12, v13, v14] = (((((((((((((((w.setCell ⟨g, o, none⟩ v0).setCell ⟨g, o + 1, none⟩ v1).setCell ⟨g, o + 2, none⟩ v2).setCell ⟨g, o + 3, none⟩ v3).setCell ⟨g, o + 4, none⟩ v4).setCell ⟨g, o + 5, none⟩ v5).setCell ⟨g, o + 6, none⟩ v6).setCell ⟨g, o + 7, none⟩ v7).setCell ⟨g, o + 8, none⟩ v8).setCell ⟨g, o + 9, none⟩ v9).setCell ⟨g, o + 10, none⟩ v10).setCell ⟨g, o + 11, none⟩ v11).setCell ⟨g, o + 12, none⟩ v12).setCell ⟨g, o + 13, none⟩ v13).setCell ⟨g, o + 14, none⟩ v14) := rfl
theorem fill_get (Ns : List Nd) (i : Nat) (hi : i < Ns.length) : (Ns.take i ++ List.replicate (Ns.length + 2 - i) zNd)[i]? = some zNd := by
  have hl : (Ns.take i).length = i := by simp; omega
  rw [List.getElem?_append_right (by omega), hl, Nat.sub_self, List.getElem?_replicate, if_pos (by omega)]
/-- What copied answers. -/
def CopIs (Ns : List Nd) (w : World) (e : Ending) (w' : World) : Prop := ∃ g, e = .returned (.agg #[.slice (some ⟨g, 0, none⟩) Ns.length (Ns.length + 2)]) ∧ OL KN w' w.heap.size (.slice (some ⟨g, 0, none⟩) (Ns.length + 2) (Ns.length + 2)) (Ns ++ [zNd, zNd]) ∧ Below w.heap.size w w'
theorem fill_set {Ns : List Nd} {i : Nat} {x : Nd} (hx : Ns[i]? = some x) : (Ns.take i ++ List.replicate (Ns.length + 2 - i) zNd).set i x = Ns.take (i + 1) ++ List.replicate (Ns.length + 2 - (i + 1)) zNd := by
  have hi := (List.getElem?_eq_some_iff.1 hx).1
  have hl : (Ns.take i).length = i := by simp; omega
  rw [List.set_append_right _ _ (by omega), hl, Nat.sub_self, show Ns.length + 2 - i = (Ns.length + 2 - (i + 1)) + 1 by omega, List.replicate_succ, List.set_cons_zero, List.take_add_one, hx, Option.toList_some, List.append_assoc]
  rfl

set_option maxHeartbeats 6400000 in
set_option maxRecDepth 100000 in
theorem copied_any (Ns : List Nd) (A : Option Addr) (cap : Nat) (w : World) (hA : Lies KN w A Ns) (hb : (Ns.length + 2) * 136 ≤ 281474976710656) :
    Calls Try.prog 10 #[.agg #[.slice A Ns.length cap]] w (CopIs Ns w) := by
  obtain ⟨i0, hi0, hz0, hz1, hz2⟩ := info_parts info_kn
  obtain ⟨C, hC⟩ : ∃ C, C = madeCells (KN.enc zNd).toArray ((Ns.length + 2) * KN.size) := ⟨_, rfl⟩
  have hmk : ∀ w, (Instr.makeSlice 22 (.int .i64 (Ns.length : Int)) (.int .i64 ((Ns.length : Int) + 2))).run Try.prog w = .ok (.slice (some ⟨w.heap.size, 0, none⟩) Ns.length (Ns.length + 2)) (w.alloc (.cells C 48)) := fun w => by
    have h := run_make (P := Try.prog) w 22 48 i0 (.agg #[.int .i64 0, .int .i64 0, .int .i64 0, .string ⟨#[]⟩, .bool false, .int .i64 0, .int .i64 0, .int .i64 0, .int .i64 0, .int .i64 0, .int .i64 0, .int .i64 0, .int .i64 0, .string ⟨#[]⟩, .int .i64 0]) Try.underlying22 hi0 hz0 .i64 .i64 (Ns.length : Int) ((Ns.length : Int) + 2) (by omega) (by omega) (by rw [hz2]; show (136 : Int) * _ ≤ _; omega) (by omega)
    rw [h, hC, hz1, show ((Ns.length : Int) + 2).toNat = Ns.length + 2 by omega, Int.toNat_natCast]
    rfl
  have hwr : IntKind.i64.wrap ((Ns.length : Int) + 2) = (Ns.length : Int) + 2 := IntWalk.i64_in _ (by omega)
  have hO0 : ∀ w : World, OL KN (w.alloc (.cells C 48)) w.heap.size (.slice (some ⟨w.heap.size, 0, none⟩) (Ns.length + 2) (Ns.length + 2)) (List.replicate (Ns.length + 2) zNd) := fun w => by
    rw [hC]
    exact ol_made w zNd (Ns.length + 2) (by unfold maxLen; omega)
  have HO0 := Lib.hid hO0
  clear hC hi0 hz0 hz1 hz2 hO0
  go_enter Try.func10, Try.ntmps10
  go_wp2_with fail
  clear hmk hwr
  have k1' := ((Blk.new w rfl 24 #[.slice A Ns.length cap]).alloc (.cells #[.slice none 0 0] 24)).alloc (.cells C 48)
  have k2' := (Blk.new (w.alloc (.cells #[.slice A Ns.length cap] 24)) (g := w.heap.size + 1) (by simp) 24 #[.slice none 0 0]).alloc (.cells C 48)
  have hw' := bel_alloc (bel_alloc (bel_alloc (bel_refl w) (.cells #[.slice A Ns.length cap] 24)) (.cells #[.slice none 0 0] 24)) (.cells C 48)
  have hO' := HO0.out ((w.alloc (.cells #[.slice A Ns.length cap] 24)).alloc (.cells #[.slice none 0 0] 24))
  rw [show ((w.alloc (.cells #[.slice A Ns.length cap] 24)).alloc (.cells #[.slice none 0 0] 24)).heap.size = w.heap.size + 1 + 1 by simp] at hO'
  go_loopw [4] (fun s4 wr => ∃ i : Nat, i ≤ Ns.length ∧ s4 = .int .i64 i ∧ OL KN wr (w.heap.size + 1 + 1) (.slice (some ⟨w.heap.size + 1 + 1, 0, none⟩) (Ns.length + 2) (Ns.length + 2)) (Ns.take i ++ List.replicate (Ns.length + 2 - i) zNd) ∧ Blk wr w.heap.size 24 #[.slice A Ns.length cap] ∧ Blk wr (w.heap.size + 1) 24 #[.slice none 0 0] ∧ Below w.heap.size w wr) (fun s4 _ => Ns.length - (intOf s4).toNat)
  case atStart => exact ⟨0, Nat.zero_le _, rfl, hO', k1', k2', hw'⟩
  case round =>
    obtain ⟨i, hi, rfl, hO, k1, k2, hW⟩ := hrel
    clear k1' k2' hw' hO'
    have rd1 := k1.rd
    have lt1 := k1.lt
    have rd2 := k2.rd
    have lt2 := k2.lt
    have fz2 := k2.fz
    have hLL : (Ns.take i ++ List.replicate (Ns.length + 2 - i) zNd).length = Ns.length + 2 := by simp; omega
    have hO1 : OL KN wr (w.heap.size + 1 + 1) (.slice (some ⟨w.heap.size + 1 + 1, 0, none⟩) (Ns.take i ++ List.replicate (Ns.length + 2 - i) zNd).length (Ns.length + 2)) (Ns.take i ++ List.replicate (Ns.length + 2 - i) zNd) := by rw [hLL]; exact hO
    have fz3 := hO1.fz
    have lt3 : w.heap.size + 1 + 1 < wr.heap.size := (hO.lt _ rfl).2
    by_cases hil : i < Ns.length
    · obtain ⟨x, hx⟩ : ∃ x, Ns[i]? = some x := ⟨_, List.getElem?_eq_getElem hil⟩
      obtain ⟨g, off, rfl, hg, _⟩ := (hA.below hW) i x hx
      have hSt := hO1.store (i := i) (by rw [hLL]; omega) x
      rw [fill_set hx, hLL] at hSt
      have hgi := fill_get Ns i hil
      have z0 : wr.cell? ⟨w.heap.size + 1 + 1, i * 15, none⟩ = some (.int .i64 0) := hO1.at_ hgi (j := 0) rfl
      have z1 : wr.cell? ⟨w.heap.size + 1 + 1, i * 15 + 1, none⟩ = some (.int .i64 0) := hO1.at_ hgi (j := 1) rfl
      have z2 : wr.cell? ⟨w.heap.size + 1 + 1, i * 15 + 2, none⟩ = some (.int .i64 0) := hO1.at_ hgi (j := 2) rfl
      have z3 : wr.cell? ⟨w.heap.size + 1 + 1, i * 15 + 3, none⟩ = some (.string ⟨#[]⟩) := hO1.at_ hgi (j := 3) rfl
      have z4 : wr.cell? ⟨w.heap.size + 1 + 1, i * 15 + 4, none⟩ = some (.bool false) := hO1.at_ hgi (j := 4) rfl
      have z5 : wr.cell? ⟨w.heap.size + 1 + 1, i * 15 + 5, none⟩ = some (.int .i64 0) := hO1.at_ hgi (j := 5) rfl
      have z6 : wr.cell? ⟨w.heap.size + 1 + 1, i * 15 + 6, none⟩ = some (.int .i64 0) := hO1.at_ hgi (j := 6) rfl
      have z7 : wr.cell? ⟨w.heap.size + 1 + 1, i * 15 + 7, none⟩ = some (.int .i64 0) := hO1.at_ hgi (j := 7) rfl
      have z8 : wr.cell? ⟨w.heap.size + 1 + 1, i * 15 + 8, none⟩ = some (.int .i64 0) := hO1.at_ hgi (j := 8) rfl
      have z9 : wr.cell? ⟨w.heap.size + 1 + 1, i * 15 + 9, none⟩ = some (.int .i64 0) := hO1.at_ hgi (j := 9) rfl
      have z10 : wr.cell? ⟨w.heap.size + 1 + 1, i * 15 + 10, none⟩ = some (.int .i64 0) := hO1.at_ hgi (j := 10) rfl
      have z11 : wr.cell? ⟨w.heap.size + 1 + 1, i * 15 + 11, none⟩ = some (.int .i64 0) := hO1.at_ hgi (j := 11) rfl
      have z12 : wr.cell? ⟨w.heap.size + 1 + 1, i * 15 + 12, none⟩ = some (.int .i64 0) := hO1.at_ hgi (j := 12) rfl
      have z13 : wr.cell? ⟨w.heap.size + 1 + 1, i * 15 + 13, none⟩ = some (.string ⟨#[]⟩) := hO1.at_ hgi (j := 13) rfl
      have z14 : wr.cell? ⟨w.heap.size + 1 + 1, i * 15 + 14, none⟩ = some (.int .i64 0) := hO1.at_ hgi (j := 14) rfl
      have HX := Lib.hid hx
      clear hx hLL hO1 hgi
      obtain ⟨k, tag, num, str, is, code, row, col, t, l, b, r, op, name, args⟩ := x
      obtain ⟨e0, e1, e2, e3, e4, e5, e6, e7, e8, e9, e10, e11, e12, e13, e14⟩ := node_at' (hA.below hW) HX.out
      dsimp only at e0 e1 e2 e3 e4 e5 e6 e7 e8 e9 e10 e11 e12 e13 e14
      have i0 : (0 : Int) ≤ (i : Int) := by omega
      have i1 : (i : Int) < (Ns.length : Int) := by omega
      have hk1 := blk_stores_far (g := w.heap.size + 1 + 1) (o := i * KN.size) (by omega) (KN.enc ⟨k, tag, num, str, is, code, row, col, t, l, b, r, op, name, args⟩) 0 wr k1
      have hk2 := blk_stores_far (g := w.heap.size + 1 + 1) (o := i * KN.size) (by omega) (KN.enc ⟨k, tag, num, str, is, code, row, col, t, l, b, r, op, name, args⟩) 0 wr k2
      have hbw := bel_stores (g := w.heap.size + 1 + 1) (o := i * KN.size) (by omega) (KN.enc ⟨k, tag, num, str, is, code, row, col, t, l, b, r, op, name, args⟩) 0 wr hW
      have henc : KN.enc ⟨k, tag, num, str, is, code, row, col, t, l, b, r, op, name, args⟩ = [.int .i64 k, .int .i64 tag, .int .i64 num, .string str, .bool is, .int .i64 code, .int .i64 row, .int .i64 col, .int .i64 t, .int .i64 l, .int .i64 b, .int .i64 r, .int .i64 op, .string name, .int .i64 args] := rfl
      have hks : i * KN.size = i * 15 := rfl
      rw [henc, hks, stores_15] at hSt hk1 hk2 hbw
      have HSt := Lib.hid hSt
      have HK1 := Lib.hid hk1
      have HK2 := Lib.hid hk2
      have HBW := Lib.hid hbw
      clear hSt hk1 hk2 hbw henc hks
      go_wp2_with fail
      go_roundw
      case rel => exact ⟨i + 1, by omega, by go_num, HSt.out, HK1.out, HK2.out, HBW.out⟩
      case measure => simp [intOf]; omega
    · obtain rfl : i = Ns.length := by omega
      rw [List.take_length, show Ns.length + 2 - Ns.length = 2 by omega] at hO
      have hO2 : OL KN wr w.heap.size (.slice (some ⟨w.heap.size + 1 + 1, 0, none⟩) (Ns.length + 2) (Ns.length + 2)) (Ns ++ [zNd, zNd]) := hO.low (by omega)
      clear hLL hO1
      go_wp2_with fail
      exact bodyPost_ret (v := .agg #[.slice (some ⟨w.heap.size + 1 + 1, 0, none⟩) Ns.length (Ns.length + 2)]) (by simp [results, Try.results10, go_sem, rd2]) rfl ⟨_, rfl, hO2.set (fun z hz e => by cases hz; dsimp only at e; omega) _ _, bel_set hW (by omega) _⟩

theorem spared_any (Ns : List Nd) (g : Nat) (w : World) (hA : Lies KN w (some ⟨g, 0, none⟩) (Ns ++ [zNd, zNd])) (hb : (Ns.length + 2) * 136 ≤ 281474976710656) :
    Calls Try.prog 14 #[.agg #[.slice (some ⟨g, 0, none⟩) Ns.length (Ns.length + 2)]] w fun e w' => e = .returned (.bool true) ∧ Below w.heap.size w w' := by
  go_enter Try.func14, Try.ntmps14
  go_wp2_with fail
  have k1' := Blk.new w rfl 24 #[.slice (some ⟨g, 0, none⟩) Ns.length (Ns.length + 2)]
  have hw' := bel_alloc (bel_refl w) (.cells #[.slice (some ⟨g, 0, none⟩) Ns.length (Ns.length + 2)] 24)
  go_loopw [4] (fun s4 wr => ∃ i : Nat, Ns.length ≤ i ∧ i ≤ Ns.length + 2 ∧ s4 = .int .i64 i ∧ Below w.heap.size w wr) (fun s4 _ => Ns.length + 2 - (intOf s4).toNat)
  case atStart => exact ⟨Ns.length, Nat.le_refl _, by omega, rfl, hw'⟩
  case round =>
    obtain ⟨i, hi0, hi, rfl, hW⟩ := hrel
    clear k1' hw'
    by_cases hil : i < Ns.length + 2
    · have hx : (Ns ++ [zNd, zNd])[i]? = some zNd := by
        rw [List.getElem?_append_right hi0]
        rcases (show i - Ns.length = 0 ∨ i - Ns.length = 1 by omega) with h | h <;> rw [h] <;> rfl
      obtain ⟨e0, e1, e2, e3, e4, e5, e6, e7, e8, e9, e10, e11, e12, e13, e14⟩ := node_at' (hA.below hW) hx
      clear hx
      dsimp only [zNd] at e0 e1 e2 e3 e4 e5 e6 e7 e8 e9 e10 e11 e12 e13 e14
      simp only [Nat.zero_add] at e0 e1 e2 e3 e4 e5 e6 e7 e8 e9 e10 e11 e12 e13 e14
      have heq : ∀ w, _ = Result.ok (Value.bool false) w := fun w => (neq_node w 0 0 0 ⟨#[]⟩ false 0 0 0 0 0 0 0 0 ⟨#[]⟩ 0 0 0 0 ⟨#[]⟩ false 0 0 0 0 0 0 0 0 ⟨#[]⟩ 0).trans (by rw [show eqN 0 0 0 ⟨#[]⟩ false 0 0 0 0 0 0 0 0 ⟨#[]⟩ 0 0 0 0 ⟨#[]⟩ false 0 0 0 0 0 0 0 0 ⟨#[]⟩ 0 = true from eqNd_self zNd]; rfl)
      have i0 : (0 : Int) ≤ (i : Int) := by omega
      have i1 : (i : Int) < (Ns.length : Int) + 2 := by omega
      go_wp2_with fail
      go_roundw
      case rel => exact ⟨i + 1, by omega, by omega, by go_num, hW⟩
      case measure => simp [intOf]; omega
    · obtain rfl : i = Ns.length + 2 := by omega
      go_wp2_with fail
      go_ret
      exact ⟨rfl, hW⟩

theorem formula_bytes {H : Type} {enc : TypeId × Value → H} {w : World} {base : Nat} {sp : Nat → Bool} {hd : Bool} {A : Option Addr} {len cap : Nat} {d : DataW H} {p : List MemPlace}
    (h : DataW.Trod enc Try.prog w base sp hd 24 (.agg #[.slice A len cap]) d p) {ts : List TypeId} {ds : List (DataW H)} {j : Nat} (hz : (DataW.weightsEach Try.prog ts ds).all (· ≤ reachBytes) = true)
    (hj : ts[j]? = some 24) (hdj : ds[j]? = some d) : len * 136 ≤ reachBytes := by
  obtain ⟨fuel, hf⟩ := h
  obtain ⟨xs, m, _, hx, _, hlen, hfl⟩ := DataW.trod_struct Try.underlying24 hf
  obtain ⟨y, rfl⟩ : ∃ y, xs = [y] := List.length_eq_one_iff.1 hlen
  have h0 := hfl 0 _ rfl
  obtain ⟨rfl, _⟩ := Prod.mk.inj hx
  rcases open_slice Try.underlying22 (show DataW.trod _ Try.prog w base sp hd m 22 [.slice A len cap] = some y from h0) with ⟨h1, _⟩ | ⟨a, len', cap', m', n, D, Pl, hcs, _, hl, hc, hm, hxx, hi⟩
  · simp only [List.cons.injEq, Value.slice.injEq, and_true] at h1
    obtain ⟨rfl, rfl, rfl⟩ := h1
    simp
  · simp only [List.cons.injEq, Value.slice.injEq, and_true] at hcs
    obtain ⟨rfl, rfl, rfl⟩ := hcs
    subst hxx
    have hbt : Try.prog.bytesOf 48 = 136 := by kernel_rfl
    have := List.all_eq_true.1 hz _ (DataW.weights_mem_each hj hdj _ (by
      simp only [DataW.weights, Try.underlying24, Try.underlying22, DataW.weightsEach, List.map]
      exact List.mem_append_left _ List.mem_cons_self))
    rw [hbt, Nat.add_mul] at this
    simp at this
    omega
end Go.Proofs.Ytifmfkofadhieaa

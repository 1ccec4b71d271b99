/-
  One contract of store.Put for every cell; the contract of oriellaw15.lives. Conditions: those of each theorem.
-/
import Derived.Test.YtiiiiplfcaeegaaSto4
import Derived.LaidEqlPtr
import Derived.Laws.StructEq
namespace Go.Proofs.Ytiiiiplfcaeegaa
open Go.ChangeShapes Go.WideShapes Go.ChangeAt Go.RowKit Go.Deep

/-- The contents behind a put. -/
def putG (g : Grid) (r c : Int) (x : Addr) : Grid := if mayB r c = true then gset g (r - 1).toNat (c - 1).toNat (some x) else g
def pcode (r c : Int) : Int := if mayB r c = true then 0 else 3

theorem put_any (sb : Nat) (ch rb : Nat → Option Nat) (g : Grid) (cnt : Int) (r c : Int) (x : Addr) (w : World) (h : SIs w sb ch rb g cnt) :
    Calls Try.prog 9 #[.pointer (some ⟨sb, 0, none⟩), .agg #[.int .i64 r, .int .i64 c], .pointer (some x)] w fun e w' => e = .returned (.int .i64 (pcode r c)) ∧
      ∃ ch' rb' cnt', SIs w' sb ch' rb' (putG g r c x) cnt' ∧ Frm (own sb ch rb) w w' ∧ ∀ b, own sb ch' rb' b → own sb ch rb b ∨ w.heap.size ≤ b := by
  cases hm : mayB r c with
  | false =>
    refine (put_addr sb r c x w hm).mono ?_
    rintro e w' ⟨rfl, hb⟩
    unfold putG pcode
    rw [if_neg (by simp [hm]), if_neg (by simp [hm])]
    exact ⟨rfl, ch, rb, cnt, h.below hb, (Frm.refl _ w).call hb, fun _ hb => .inl hb⟩
  | true =>
    have b1 := mayB_true hm
    obtain ⟨i, k, hk, hr⟩ : ∃ i k : Nat, k < 16 ∧ r = (i : Int) * 16 + k + 1 := ⟨((r - 1) / 16).toNat, ((r - 1) % 16).toNat, by omega, by omega⟩
    obtain ⟨d, hd⟩ : ∃ d : Nat, c = (d : Int) + 1 := ⟨(c - 1).toNat, by omega⟩
    subst hr hd
    refine (put_yes sb ch rb g cnt i k d x w h (by omega) hk (by omega)).mono ?_
    rintro e w' ⟨rfl, ch', rb', hS, hF, hO⟩
    unfold putG pcode
    rw [if_pos hm, if_pos hm, show ((i : Int) * 16 + k + 1 - 1).toNat = i * 16 + k by omega, show ((d : Int) + 1 - 1).toNat = d by omega]
    exact ⟨rfl, ch', rb', _, hS, hF, hO⟩

theorem info_content : ∃ j, Try.prog.info? 37 = some j := Option.isSome_iff_exists.1 (by kernel_rfl)
theorem eql_same (w : World) (a : Addr) : (binOp .eql 27 (.pointer (some a)) (.pointer (some a))).run Try.prog w = .ok (.bool true) w := by
  obtain ⟨j, hj⟩ := info_content
  exact run_eql_ptr_same w a Try.underlying27 hj
theorem neq_same (w : World) (a : Addr) : (binOp .neq 27 (.pointer (some a)) (.pointer (some a))).run Try.prog w = .ok (.bool false) w := by
  obtain ⟨j, hj⟩ := info_content
  have h : ∀ d : Nat, (Op.equalIn (d + 1) 27 (.pointer (some a)) (.pointer (some a))).run Try.prog w = .ok true w := fun d => by
    simp [Op.equalIn, run_underlying Try.underlying27, sizeOf, typeInfo, hj, run_sameAddr_same]
  simp only [binOp]
  simp [Op.equal, Op.maxDepth, h 9999]

set_option maxHeartbeats 1600000 in
set_option maxRecDepth 100000 in
theorem lives_any (w : World) :
    Calls Try.prog 15 #[] w fun e w' => e = .returned (.bool true) ∧ Below w.heap.size w w' := by
  have heq := eql_same
  have hpc : pcode 4000 200 = 0 := by decide
  go_enter Try.func15, Try.ntmps15
  go_wp2_with fail
  refine (snew_any _).mono ?_
  rintro e w1 ⟨sb, hsb, rfl, hS, hb1⟩
  have hw := hb1
  clear hb1
  go_wp2_with fail
  refine (put_any sb _ _ _ _ 4000 200 ⟨w1.heap.size, 0, none⟩ _ ((hS.alloc _).alloc _)).mono ?_
  rintro e w2 ⟨rfl, ch, rb, cnt, hS2, hF2, hO2⟩
  have hw2 := hF2.bel (bel_alloc (bel_alloc hw _) _) (fun b hb => by
    rcases hb with rfl | ⟨_, _, hb⟩ | ⟨_, _, hb⟩
    · exact hsb
    · cases hb
    · cases hb)
  have hlt := hS.top.lt
  have hown : ¬ own sb (fun _ => none) (fun _ => none) (w1.heap.size + 1) := by
    rintro (hb | ⟨_, _, hb⟩ | ⟨_, _, hb⟩)
    · omega
    · cases hb
    · cases hb
  have k3 := hF2.blk (Blk.new (w1.alloc _) (g := w1.heap.size + 1) (by simp) 41 #[.int .i64 4000, .int .i64 200]) hown
  have rd3 := k3.rd
  have lt3 := k3.lt
  clear hS hF2 hO2 hw hown
  generalize hG : putG (fun _ _ => none) 4000 200 ⟨w1.heap.size, 0, none⟩ = G at hS2
  have hG' : G = gset (fun _ _ => none) 3999 199 (some ⟨w1.heap.size, 0, none⟩) := by
    rw [← hG]
    unfold putG
    rw [if_pos (by decide)]
    rfl
  clear hG
  have hcnt : cnt = 1 := by
    have h1 := hS2.num
    have h2 := total_set (fun _ _ => none) 3999 199 (some ⟨w1.heap.size, 0, none⟩) (by omega) (by omega)
    rw [← hG', total_zero] at h2
    simp at h2
    rw [h1, h2]
    rfl
  subst hcnt
  have hnext : IsNext G 1 1 4096 256 1 1 (some (3999, 199)) := by
    subst hG'
    refine ⟨⟨by omega, by omega, by simp [gset], by omega, by omega⟩, fun q d hh => ?_⟩
    have h1 := hh.2.2.1
    by_cases e : q = 3999 ∧ d = 199
    · exact .inr ⟨e.1.symm, by show 199 ≤ d; omega⟩
    · rw [gset_ne _ _ _ _ e] at h1
      cases h1
  have hat : G 3999 199 = some ⟨w1.heap.size, 0, none⟩ := by rw [hG', gset_same]
  have HN : Hid (IsNext G 1 1 4096 256 1 1 (some (3999, 199))) := hnext
  have HA : Hid (G 3999 199 = some ⟨w1.heap.size, 0, none⟩) := hat
  clear hG' hnext hat
  go_wp2_with fail
  refine (next_any sb ch rb G 1 1 1 4096 256 1 1 _ hS2 (by omega) (by omega) (by omega)).mono ?_
  rintro e w3 ⟨res, hres, rfl, hb3⟩
  obtain rfl := hres.uniq HN.out
  clear hres
  have hS3 := hS2.below hb3
  clear hS2
  replace k3 := k3.below hb3
  replace hw2 := bel_call hw2 hb3
  clear hb3
  replace rd3 := k3.rd
  replace lt3 := k3.lt
  unfold nextV
  go_wp2_with fail
  refine (sget_any 4000 200 3999 199 _ (hS3.alloc _) (by omega) (by omega) (by omega) (by omega)).mono ?_
  rintro e w4 ⟨rfl, hb4⟩
  rw [HA.out]
  have hS4 := (hS3.alloc _).below hb4
  have hw4 := bel_call (bel_alloc hw2 _) hb4
  go_wp2_with fail
  refine (scount_any _ hS4).mono ?_
  rintro e w5 ⟨rfl, rfl⟩
  go_wp2_with fail
  go_ret
  exact ⟨rfl, hw4⟩
end Go.Proofs.Ytiiiiplfcaeegaa

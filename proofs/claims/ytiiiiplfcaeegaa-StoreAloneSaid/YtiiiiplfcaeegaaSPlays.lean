/-
  The walk of oriellaw15.StorePlays: it returns true. Conditions: the deeds lie as said.
-/
import Derived.Test.YtiiiiplfcaeegaaSBegin
import Derived.Test.YtiiiiplfcaeegaaSOrd
import Derived.Test.YtiiiiplfcaeegaaQb
import Derived.Deep.QuietTactic
import Derived.BigQuiet
namespace Go.Proofs.Ytiiiiplfcaeegaa
open Go.ChangeShapes Go.WideShapes Go.ChangeAt Go.RowKit Go.Deep

/-- A 64-bit integer. -/
def R64 (z : Int) : Prop := -9223372036854775808 ≤ z ∧ z ≤ 9223372036854775807
/-- Deeds: eight numbers each. -/
def DeedsAt (w : World) (A : Option Addr) (len : Nat) : Prop :=
  ∀ k, k < len → ∃ b off d0 d1 d2 d3 d4 d5 d6 d7, A = some ⟨b, off, none⟩ ∧ b < w.heap.size ∧ (w.cell? ⟨b, off + k * 8, none⟩ = some (.int .i64 d0) ∧ w.cell? ⟨b, off + k * 8 + 1, none⟩ = some (.int .i64 d1) ∧ w.cell? ⟨b, off + k * 8 + 2, none⟩ = some (.int .i64 d2) ∧ w.cell? ⟨b, off + k * 8 + 3, none⟩ = some (.int .i64 d3) ∧
    w.cell? ⟨b, off + k * 8 + 4, none⟩ = some (.int .i64 d4) ∧ w.cell? ⟨b, off + k * 8 + 5, none⟩ = some (.int .i64 d5) ∧ w.cell? ⟨b, off + k * 8 + 6, none⟩ = some (.int .i64 d6) ∧ w.cell? ⟨b, off + k * 8 + 7, none⟩ = some (.int .i64 d7)) ∧ R64 d0 ∧ R64 d1 ∧ R64 d2 ∧ R64 d3 ∧ R64 d7

/-- Both stores, in memory of their own. -/
def OwnB (B : Nat) (sb yb : Nat) (ch rb : Nat → Option Nat) : Prop := ∀ z, own sb ch rb z ∨ z = yb → B ≤ z

theorem OwnB.next {B : Nat} {sb yb : Nat} {ch rb ch' rb' : Nat → Option Nat} (h : OwnB B sb yb ch rb) {n : Nat} (hn : B ≤ n) (hO : ∀ z, own sb ch' rb' z → own sb ch rb z ∨ n ≤ z) : OwnB B sb yb ch' rb' := by
  rintro z (hz | rfl)
  · rcases hO z hz with h1 | h1
    · exact h z (.inl h1)
    · omega
  · exact h z (.inr rfl)
theorem OwnB.start {B sb yb : Nat} (h1 : B ≤ sb) (h2 : B ≤ yb) : OwnB B sb yb (fun _ => none) (fun _ => none) := by
  rintro z (hz | rfl)
  · rw [own_none hz]; exact h1
  · exact h2

theorem BIs.drewN {w : World} {bb sb yb lb lc : Nat} {Xs : List Addr} {ch rb : Nat → Option Nat} {cnt : Int} {L : List Itm} {A : Option Addr} {cap : Nat} (h : BIs w bb sb yb lb lc Xs ch rb cnt L A cap) (n : Nat) : BIs (w.drewN n) bb sb yb lb lc Xs ch rb cnt L A cap :=
  h.below (bel_drewN (bel_refl w) n)

set_option maxHeartbeats 3200000 in
set_option maxRecDepth 100000 in
theorem splays_walk (A : Option Addr) (len cap : Nat) (w : World) (hC : DeedsAt w A len) (hlen : len ≤ 9223372036854775807) :
    Calls Try.prog 5 #[.slice A len cap] w fun e w' => e = .returned (.bool true) ∧ Below w.heap.size w w' := by
  go_enter Try.func5, Try.ntmps5
  go_wp2_with fail
  refine (begin_any _).mono ?_
  rintro e w1 ⟨bb, sb, yb, lb, lc, Xs, rfl, hB, ⟨hsb, hyb, hbb, hlb⟩, hb1⟩
  have hw := hb1
  have hO := OwnB.start hsb hyb
  have rdb := hB.top.rd
  have ltb := hB.top.lt
  clear hb1
  go_wp2_with fail
  clear rdb ltb
  go_loopw [4] (fun s4 wr => ∃ (k : Nat) (ch rb : Nat → Option Nat) (cnt : Int) (L : List Itm) (A' : Option Addr) (cap' : Nat), k ≤ len ∧ s4 = .int .i64 k ∧ BIs wr bb sb yb lb lc Xs ch rb cnt L A' cap' ∧ OwnB w.heap.size sb yb ch rb ∧ Below w.heap.size w wr)
    (fun s4 _ => len - (intOf s4).toNat)
  case atStart => exact ⟨0, _, _, _, _, _, _, Nat.zero_le _, rfl, hB, hO, hw⟩
  case round =>
    obtain ⟨k, ch, rb, cnt, L, A', cap', hk, rfl, hB, hO, hW⟩ := hrel
    by_cases hkl : k < len
    · obtain ⟨b1, o1, d0, d1, d2, d3, d4, d5, d6, d7, hA1, hb1, ⟨c0, c1, c2, c3, c4, c5, c6, c7⟩, r0, r1, r2, r3, r7⟩ := hC k hkl
      subst hA1
      have e0 := (hW.cell hb1).trans c0
      have e1 := (hW.cell hb1).trans c1
      have e2 := (hW.cell hb1).trans c2
      have e3 := (hW.cell hb1).trans c3
      have e4 := (hW.cell hb1).trans c4
      have e5 := (hW.cell hb1).trans c5
      have e6 := (hW.cell hb1).trans c6
      have e7 := (hW.cell hb1).trans c7
      clear c0 c1 c2 c3 c4 c5 c6 c7
      go_wp2_with fail
      refine (does_any hB d0 d1 d2 d3 d4 d5 d6 d7 r0 r7 r3.2 r1.2 r2.1).mono ?_
      rintro e w3 ⟨rfl, ch', rb', cnt', L', A2, cap2, hB', hF, hO'⟩
      have hOx := hO.next hW.size hO'
      have hWx := hF.bel hW (fun z hz => hO z hz)
      obtain rfl := hB'.cnt_is
      clear e0 e1 e2 e3 e4 e5 e6 e7 hB hO hO' hF hW
      have rdb := hB'.top.rd
      have ltb := hB'.top.lt
      have rdy := hB'.ref.top.rd
      have lty := hB'.ref.top.lt
      have hL := hB'.cap
      go_wp2_with fail
      go_quiet ((go_at_call 16; exact quiet_eq (scount_any _ (hB'.sto.drewN _))))
      go_wp2_with fail
      go_roundw
      case rel => exact ⟨k + 1, ch', rb', _, L', A2, cap2, by omega, by go_num, hB'.drewN _, hOx, bel_drewN hWx _⟩
      case measure => simp [intOf]; omega
    · go_wp2_with fail
      refine (walks_any hB 1 1 4096 256 (by omega)).mono ?_
      rintro e w3 ⟨rfl, hb3⟩
      have hWx := bel_call hW hb3
      go_wp2_with fail
      refine (lives_any _).mono ?_
      rintro e w4 ⟨rfl, hb4⟩
      have hWy := bel_call hWx hb4
      go_wp2_with fail
      go_ret
      exact ⟨rfl, hWy⟩
end Go.Proofs.Ytiiiiplfcaeegaa

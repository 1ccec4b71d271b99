/-
  The document's deps: what it holds, with its blocks; contracts over it. Conditions: those of each theorem.
-/
import Derived.Test.YtdionganlmnlkaaRDDir
namespace Go.Proofs.Ytdionganlmnlkaa
open Go.ChangeShapes Go.WideShapes Go.ChangeAt Go.RowKit Go.Deep

/-- The document holds the edges of Es; its blocks are among O's. -/
def RS (w : World) (yb : Nat) (O : Nat → Prop) (Es : List Ed) : Prop :=
  ∃ A cap, RD w yb 0 Es A cap ∧ O yb ∧ (∀ g off, A = some ⟨g, off, none⟩ → O g) ∧ ∀ z, O z → z < w.heap.size
section
variable {w w' : World} {yb : Nat} {O : Nat → Prop} {Es : List Ed}
theorem RS.lt (h : RS w yb O Es) : ∀ z, O z → z < w.heap.size := by
  obtain ⟨A, cap, _, _, _, h4⟩ := h
  exact h4
theorem RS.frm (h : RS w yb O Es) {S : Nat → Prop} (hF : Frm S w w') (hn : ∀ z, O z → ¬ S z) : RS w' yb O Es := by
  obtain ⟨A, cap, ⟨h1, h2⟩, h3, h4, h5⟩ := h
  refine ⟨A, cap, ⟨hF.blk h1 (hn _ h3), h2.keep (fun g hg => hF.block g (h2.lt g hg).2 (hn g ?_))⟩, h3, h4, fun z hz => Nat.lt_of_lt_of_le (h5 z hz) hF.size⟩
  cases A with
  | none => cases hg
  | some a =>
    obtain ⟨A', c', hv, _, _, _, hA⟩ := h2.see
    injection hv with hv _ _
    rcases hA with rfl | ⟨g', rfl, _⟩
    · cases hv
    · rw [hv] at hg h4
      injection hg with hg
      subst hg
      exact h4 _ 0 rfl
theorem RS.below (h : RS w yb O Es) (hb : Below w.heap.size w w') : RS w' yb O Es := h.frm (Frm.of_below (S := fun _ => False) hb) (fun _ _ => id)
theorem RS.list (h : RS w yb O Es) : ∃ A cap, Blk w yb 49 #[.slice A Es.length cap] ∧ Lies KD w A Es := by
  obtain ⟨A, cap, h1, _⟩ := h
  exact ⟨A, cap, h1.top, (rd_see h1.lst).2.1⟩
end
theorem rs_new {w : World} : RS (w.alloc (.cells #[.slice none 0 0] 49)) w.heap.size (fun z => z = w.heap.size) [] :=
  ⟨none, 0, ⟨Blk.new w rfl 49 #[.slice none 0 0], OL.nil _ _⟩, rfl, fun g off h => (by cases h), fun z hz => by simp [hz]⟩
/-- What the document's Set leaves. -/
def RsSet (w : World) (yb : Nat) (O : Nat → Prop) (Es : List Ed) (c : Cl) (L : List Rf) (e : Ending) (w' : World) : Prop :=
  ∃ O', e = .returned (.int .i64 (setE c L)) ∧ RS w' yb O' (setD c L Es) ∧ Frm O w w' ∧ ∀ z, O' z → O z ∨ w.heap.size ≤ z
theorem rs_set (yb : Nat) (O : Nat → Prop) (Es : List Ed) (row col : Int) (L2 : List Rf) (A2 : Option Addr) (cap2 : Nat) (w : World) (h : RS w yb O Es) (hs : SrtE Es) (hA2 : Lies KF w A2 L2) (hl : (Es.length + L2.length + 1) * 56 ≤ 140737488355328) :
    Calls Try.prog 27 #[.pointer (some ⟨yb, 0, none⟩), .agg #[.int .i64 row, .int .i64 col], .slice A2 L2.length cap2] w (RsSet w yb O Es ⟨row, col⟩ L2) := by
  obtain ⟨A, cap, h1, h2, h3, h4⟩ := h
  refine (rset_any yb 0 Es A cap row col L2 A2 cap2 w h1 hs (Nat.zero_le _) hA2 hl).mono ?_
  rintro e w' ⟨rfl, ⟨A', cap', hR, hA⟩, hg⟩
  have hle := hg.size
  refine ⟨fun z => z = yb ∨ (∃ off, A' = some ⟨z, off, none⟩), rfl, ⟨A', cap', hR, .inl rfl, fun g off e => .inr ⟨off, e⟩, fun z hz => ?_⟩, ⟨hg.os, hg.tape, hg.output, hle, fun k hk hn => hg.block k hk (fun e => hn (by injection e with e; rw [e]; exact h2))⟩, fun z hz => ?_⟩
  · rcases hz with rfl | ⟨off, e⟩
    · exact hR.top.lt
    · obtain ⟨A1, c1, hv, _, _, _, hA1⟩ := hR.lst.see
      injection hv with hv _ _
      subst hv
      rcases hA1 with h9 | ⟨g9, h9, _, h9'⟩
      · rw [h9] at e; cases e
      · rw [h9] at e
        injection e with e
        injection e with e _ _
        omega
  · rcases hz with rfl | ⟨off, e⟩
    · exact .inl h2
    · rcases hA with rfl | hA
      · exact .inl (h3 _ _ e)
      · exact .inr (hA _ _ e)
theorem rs_direct (yb : Nat) (O : Nat → Prop) (Es : List Ed) (row col : Int) (w : World) (h : RS w yb O Es) (hn : (Es.length + 1) * 56 ≤ 140737488355328) :
    Calls Try.prog 12 #[.pointer (some ⟨yb, 0, none⟩), .agg #[.int .i64 row, .int .i64 col]] w (RDirIs w (drs row col Es)) := by
  obtain ⟨A, cap, h1, _⟩ := h
  refine (rdirect_any yb 0 row col Es A cap w h1 hn).mono ?_
  rintro e w' ⟨v, rfl, h2, h3⟩
  exact ⟨v, rfl, h2, h3⟩
end Go.Proofs.Ytdionganlmnlkaa

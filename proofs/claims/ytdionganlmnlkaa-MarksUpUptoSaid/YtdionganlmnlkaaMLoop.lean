/-
  Marks' laws: what a loop over deeds keeps. Conditions: those of each theorem.
-/
import Derived.Test.YtdionganlmnlkaaMReach
import Derived.Test.YtdionganlmnlkaaDOpen
namespace Go.Proofs.Ytdionganlmnlkaa
open Go.ChangeShapes Go.WideShapes Go.ChangeAt Go.RowKit Go.Deep
attribute [local go_sem] Cls

theorem cb0 (T l : Nat) : 4 * T + 2 * l + 1 ≤ 4 * (T + (l + 1)) := by omega
theorem cb1 {T l : Nat} (h : T + (l + 1) ≤ 1048576) : (T * 2097154 + 1) * 24 ≤ 140737488355328 := by omega
theorem cb2 {T l e : Nat} (h : T + (l + 1) ≤ 1048576) (he : e ≤ T) : (T * 2097154 + 2 * (e + l) + 4) * 24 ≤ 140737488355328 := by omega
theorem cb3 {T l e : Nat} (he : e ≤ T + l) (h : T + (l + 1) ≤ 1048576) : T * 2097154 + 2 * e + 2 ≤ (T + (l + 1)) * 2097154 := by omega
theorem cb4 {T l e : Nat} (he : e ≤ T + l) (h : T + (l + 1) ≤ 1048576) : T * 2097154 + 2 * e + 1 ≤ (T + (l + 1)) * 2097154 := by omega
theorem cb5 {T : Nat} (h : T + 1 ≤ 2097152) : T * 2097154 < 2305843009213693952 := by omega
theorem cb6 {T e : Nat} (he : e ≤ 1048576) : T * 2097154 + 2 * e + 1 ≤ (T + 1) * 2097154 := by omega
theorem cb7 {T : Nat} (h : T ≤ 2097152) : (T * 2097154 + 1) * 24 ≤ 140737488355328 := by omega
theorem cb8 (T : Nat) : T * 2097154 ≤ (T + 1) * 2097154 := by omega
/-- Behind deeds that weigh T. -/
structure LI (w wr : World) (bb db mb sm yb rb : Nat) (T : Nat) (col : Nat → Nat) (pk : Int) (f : Cl → Option Int) (Es : List Ed) : Prop where
  bs : BS wr bb db mb sm yb rb col (4 * T) (T * 2097154) (T * 2097154) pk f Es Es
  dom : DomF f
  len : Es.length ≤ T
  low : ∀ z, col z ≠ 0 → w.heap.size ≤ z
  bel : Below w.heap.size w wr
section
variable {w wr w' : World} {bb db mb sm yb rb T T' : Nat} {col col' : Nat → Nat} {pk : Int} {f : Cl → Option Int} {Es : List Ed}
theorem LI.below (h : LI w wr bb db mb sm yb rb T col pk f Es) (hb : Below wr.heap.size wr w') : LI w w' bb db mb sm yb rb T col pk f Es := ⟨h.bs.below hb, h.dom, h.len, h.low, bel_call h.bel hb⟩
theorem LI.up (h : LI w wr bb db mb sm yb rb T col pk f Es) (hT : T ≤ T') : LI w wr bb db mb sm yb rb T' col pk f Es := ⟨h.bs.mono (by omega) (Nat.mul_le_mul_right _ hT) (Nat.mul_le_mul_right _ hT), h.dom, Nat.le_trans h.len hT, h.low, h.bel⟩
/-- The other's blocks were written. -/
theorem LI.other (h : LI w wr bb db mb sm yb rb T col pk f Es) {c c' : Nat → Nat} (x : Ext wr c w' c') (hc : ∀ z, col z ≠ 0 → c z = 0) (hl : ∀ z, c z ≠ 0 → w.heap.size ≤ z) : LI w w' bb db mb sm yb rb T col pk f Es ∧ ∀ z, col z ≠ 0 → c' z = 0 := by
  refine ⟨⟨h.bs.frm x.1 (fun z hz hz' => hz' (hc z hz)), h.dom, h.len, h.low, x.bel h.bel hl⟩, fun z hz => ?_⟩
  by_cases e : c' z = 0
  · exact e
  · rcases x.2 z e with h1 | h1
    · exact absurd (hc z hz) h1
    · have := h.bs.csz z hz; omega
theorem ln_of {α : Type} {K : Knd α} {A : Option Addr} {L : List α} (hA : Lies K w A L) (h : LI w wr bb db mb sm yb rb T col pk f Es) : LN K wr col A L :=
  ⟨hA.below h.bel, fun hL b off e => by
    have := lies_lt0 hA hL e
    by_cases hz : col b = 0
    · exact hz
    · have := h.low b hz; omega⟩
theorem step_len {c : Cl} {L : List Rf} {fm : Bool} {k : Int} {Es' : List Ed} {f' : Cl → Option Int} {pk' : Int} (hs : SrtE Es) (h : StepIs c L fm k Es Es' f f' pk pk') : Es'.length ≤ Es.length + L.length := by
  rcases h with ⟨_, rfl, _⟩ | ⟨_, rfl, _⟩ | ⟨_, rfl, _⟩ | ⟨_, rfl, _⟩
  · exact setD_le hs
  all_goals omega
/-- A deed. -/
theorem li_does (kd row cl : Int) (L : List Rf) (A : Option Addr) (cap : Nat) (fm : Bool) (h : LI w wr bb db mb sm yb rb T col pk f Es) (hA : Lies KF w A L) (hrc : rngC ⟨row, cl⟩) (hkd : i64P kd) (hT : T + (L.length + 1) ≤ 1048576) :
    Calls Try.prog 11 #[.pointer (some ⟨bb, 0, none⟩), .agg #[.int .i64 kd, .int .i64 row, .int .i64 cl, .slice A L.length cap, .bool fm]] wr fun e w' => e = .returned (.tuple #[]) ∧ ∃ col' pk' f' Es', LI w w' bb db mb sm yb rb (T + (L.length + 1)) col' pk' f' Es' ∧ Ext wr col w' col' ∧ StepIs ⟨row, cl⟩ L fm (pk4 kd) Es Es' f f' pk pk' := by
  have hl := h.len
  have hga : 4 * T + 2 * L.length + 1 ≤ 1099511627776 := by omega
  have hq0 : (Es.length + L.length + 1) * 56 ≤ 140737488355328 := by omega
  have hn0 := cb1 hT
  have hm0 := cb2 hT hl
  refine (does_any kd row cl L A cap fm h.bs h.bs.srt ⟨fun _ => rfl, fun _ => rfl⟩ h.dom (ln_of hA h) hrc hkd hga hn0 hm0 hq0 hq0).mono ?_
  rintro e w' ⟨rfl, col', f', pk', Es', h1, h2, h3, h4⟩
  have h5 := step_len h.bs.srt h3
  have h6 : Es'.length ≤ T + L.length := by omega
  exact ⟨rfl, col', pk', f', Es', ⟨h1.mono (cb0 _ _) (cb4 h6 hT) (cb3 h6 hT), h4, by omega, h2.low h.bel h.low, h2.bel h.bel h.low⟩, h2, h3⟩
/-- A touch of the program's. -/
theorem li_touch (row cl : Int) (fm : Bool) (h : LI w wr bb db mb sm yb rb T col pk f Es) (hrc : rngC ⟨row, cl⟩) (hT : T + 1 ≤ 2097152) (hE : Es.length ≤ 1048576) :
    Calls Try.prog 17 #[.pointer (some ⟨mb, 0, none⟩), .agg #[.int .i64 row, .int .i64 cl], .bool fm] wr fun e w' => e = .returned (.tuple #[]) ∧ ∃ pk' f', LI w w' bb db mb sm yb rb (T + 1) col pk' f' Es ∧ Ext wr col w' col ∧ TMay Es ⟨row, cl⟩ fm f f' pk pk' := by
  have hl := h.len
  have hga : 4 * T ≤ 1099511627776 := by omega
  have hn0 := cb5 hT
  refine (bs_touch row cl fm h.bs hrc hga hn0).mono ?_
  rintro e w' ⟨rfl, f', pk', h1, h2, h3⟩
  exact ⟨rfl, pk', f', ⟨h1.mono (by omega) (cb6 hE) (cb8 T), h.dom.touch h.bs.okE h.bs.srt h3, by omega, h.low, h2.bel h.bel h.low⟩, h2, h3⟩
theorem li_new (hb : Below w.heap.size w wr) (h : BS wr bb db mb sm yb rb col 0 0 0 0 (fun _ => none) [] []) (hl : ∀ z, col z ≠ 0 → w.heap.size ≤ z) : LI w wr bb db mb sm yb rb 0 col 0 (fun _ => none) [] := ⟨h, fun x hx => (by cases hx), Nat.zero_le _, hl, hb⟩
theorem setD_nomay {c : Cl} {L : List Rf} (h : mayB c.row c.col = false) : setD c L Es = Es := setD_no (by rw [setE_addr h]; decide)
end
end Go.Proofs.Ytdionganlmnlkaa

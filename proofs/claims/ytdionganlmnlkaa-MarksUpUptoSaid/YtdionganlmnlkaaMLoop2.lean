/-
  Marks' laws: a Set ahead of a deed; blocks of the law's own. Conditions: those of each theorem.
-/
import Derived.Test.YtdionganlmnlkaaMPlain
namespace Go.Proofs.Ytdionganlmnlkaa
open Go.ChangeShapes Go.WideShapes Go.ChangeAt Go.RowKit Go.Deep
attribute [local go_sem] Cls

/-- Behind a Set of the program's alone. -/
structure LD (w wr : World) (bb db mb sm yb rb : Nat) (T l : Nat) (col : Nat → Nat) (pk : Int) (f : Cl → Option Int) (Es Er : List Ed) : Prop where
  bs : BS wr bb db mb sm yb rb col (4 * T + 2 * l + 1) (T * 2097154) (T * 2097154) pk f Es Er
  dom : DomF f
  len : Er.length ≤ T
  low : ∀ z, col z ≠ 0 → w.heap.size ≤ z
  bel : Below w.heap.size w wr
theorem cc0 (T l : Nat) : 4 * T + 2 * l + 1 ≤ 4 * (T + (l + 1)) := by omega
theorem cc1 (T l : Nat) : 4 * T + 2 * l + 1 + 2 * l + 1 ≤ 4 * (T + (l + 1)) := by omega
theorem cc2 {T l e : Nat} (h : T + (l + 1) ≤ 1048576) (he : e ≤ T + l) : (T * 2097154 + 2 * (e + l) + 4) * 24 ≤ 140737488355328 := by omega
theorem cc4 {T l : Nat} (h : T + (l + 1) ≤ 1048576) : 4 * T + 2 * l + 1 + 2 * l + 1 ≤ 1099511627776 := by omega
theorem cc5 {T l e : Nat} (h : T + (l + 1) ≤ 1048576) (he : e ≤ T + l) : (e + l + 1) * 56 ≤ 140737488355328 := by omega
theorem cc6 {T l e : Nat} (he : e ≤ T + l) : e ≤ T + (l + 1) := by omega
theorem cc3 (T l : Nat) : T * 2097154 ≤ (T + (l + 1)) * 2097154 := by omega
section
variable {w wr w' : World} {bb db mb sm yb rb T : Nat} {col col' : Nat → Nat} {pk : Int} {f : Cl → Option Int} {Es : List Ed}
theorem LD.below {l : Nat} {Er : List Ed} (h : LD w wr bb db mb sm yb rb T l col pk f Es Er) (hb : Below wr.heap.size wr w') : LD w w' bb db mb sm yb rb T l col pk f Es Er := ⟨h.bs.below hb, h.dom, h.len, h.low, bel_call h.bel hb⟩
theorem ln_ofD {α : Type} {K : Knd α} {A : Option Addr} {L : List α} {l : Nat} {Er : List Ed} (hA : Lies K w A L) (h : LD w wr bb db mb sm yb rb T l col pk f Es Er) : LN K wr col A L :=
  ⟨hA.below h.bel, fun hL b off e => by
    have := lies_lt0 hA hL e
    by_cases hz : col b = 0
    · exact hz
    · have := h.low b hz; omega⟩
theorem li_set (row cl : Int) (L : List Rf) (A : Option Addr) (cap : Nat) (h : LI w wr bb db mb sm yb rb T col pk f Es) (hA : Lies KF w A L) (hT : T + (L.length + 1) ≤ 1048576) :
    Calls Try.prog 10 #[.pointer (some ⟨db, 0, none⟩), .agg #[.int .i64 row, .int .i64 cl], .slice A L.length cap] wr fun e w' => e = .returned (.int .i64 (setE ⟨row, cl⟩ L)) ∧ ∃ col', LD w w' bb db mb sm yb rb T L.length col' pk f (setD ⟨row, cl⟩ L Es) Es ∧ Ext wr col w' col' := by
  have hga : 4 * T + 2 * L.length + 1 ≤ 1099511627776 := by omega
  refine (bs_dset row cl L A cap h.bs (ln_of hA h) hga).mono ?_
  rintro e w' ⟨rfl, col', h1, h2⟩
  exact ⟨rfl, col', ⟨h1, h.dom, h.len, h2.low h.bel h.low, h2.bel h.bel h.low⟩, h2⟩
theorem LD.refused {c : Cl} {L : List Rf} (h : LD w wr bb db mb sm yb rb T L.length col pk f (setD c L Es) Es) (h0 : setE c L ≠ 0) : LI w wr bb db mb sm yb rb (T + (L.length + 1)) col pk f Es := by
  have hb := h.bs
  rw [setD_no h0] at hb
  have hl := h.len
  exact ⟨hb.mono (cc0 _ _) (cc3 _ _) (cc3 _ _), h.dom, by omega, h.low, h.bel⟩
theorem li_does2 (kd row cl : Int) (L : List Rf) (A : Option Addr) (cap : Nat) (fm : Bool) (h : LD w wr bb db mb sm yb rb T L.length col pk f (setD ⟨row, cl⟩ L Es) Es) (hs : SrtE Es) (hk : pk4 kd = 0) (hA : Lies KF w A L) (hrc : rngC ⟨row, cl⟩) (hkd : i64P kd) (hT : T + (L.length + 1) ≤ 1048576) :
    Calls Try.prog 11 #[.pointer (some ⟨bb, 0, none⟩), .agg #[.int .i64 kd, .int .i64 row, .int .i64 cl, .slice A L.length cap, .bool fm]] wr fun e w' => e = .returned (.tuple #[]) ∧ ∃ col' pk' f', LI w w' bb db mb sm yb rb (T + (L.length + 1)) col' pk' f' (setD ⟨row, cl⟩ L Es) ∧ Ext wr col w' col' ∧ TMay (setD ⟨row, cl⟩ L Es) ⟨row, cl⟩ fm f f' pk pk' := by
  have hl := h.len
  have hl2 : (setD ⟨row, cl⟩ L Es).length ≤ T + L.length := Nat.le_trans (setD_le hs) (Nat.add_le_add_right hl _)
  have hga := cc4 hT
  have hq0 := cc5 hT hl2
  have hq1 := cc5 hT (Nat.le_trans hl (Nat.le_add_right T L.length))
  have hn0 := cb1 hT
  have hm0 := cc2 hT hl2
  refine (does_any kd row cl L A cap fm h.bs hs ⟨fun _ => (setD_twice hs _ _).symm, fun hn => absurd hk hn⟩ h.dom (ln_ofD hA h) hrc hkd hga hn0 hm0 hq0 hq1).mono ?_
  rintro e w' ⟨rfl, col', f', pk', Es', h1, h2, h3, h4⟩
  rcases h3 with ⟨_, rfl, ht⟩ | ⟨hc, _⟩ | ⟨hc, _⟩ | ⟨hc, _⟩
  · rw [setD_twice hs] at h1 ht
    exact ⟨rfl, col', pk', f', ⟨h1.mono (cc1 _ _) (cb4 hl2 hT) (cb3 hl2 hT), h4, cc6 hl2, h2.low h.bel h.low, h2.bel h.bel h.low⟩, h2, ht⟩
  all_goals (rw [hk] at hc; cases hc)
/-- A block of the law's own is written. -/
theorem LI.poke (h : LI w wr bb db mb sm yb rb T col pk f Es) {g : Nat} (h0 : col g = 0) (hg : w.heap.size ≤ g) (o : Nat) (v : Value) : LI w (wr.setCell ⟨g, o, none⟩ v) bb db mb sm yb rb T col pk f Es := by
  have hF : Frm (fun z => z = g) wr (wr.setCell ⟨g, o, none⟩ v) := (Frm.refl (fun z => z = g) wr).set (.inl rfl) _
  exact ⟨h.bs.frm hF (fun z hz e => hz (by rw [e]; exact h0)), h.dom, h.len, h.low, hF.bel h.bel (fun z hz => by omega)⟩
theorem Bx.put {g : Nat} {t : TypeId} {cs : Array Value} (k : Bx wr col g t cs) (o : Nat) (v : Value) : Bx (wr.setCell ⟨g, o, none⟩ v) col g t (cs.setIfInBounds o v) := ⟨k.1.put o v, k.2⟩
end
end Go.Proofs.Ytdionganlmnlkaa

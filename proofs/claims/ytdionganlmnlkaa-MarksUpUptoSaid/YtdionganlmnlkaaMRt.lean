/-
  The document's marks: what is known on the way of Touch. Conditions: those of each theorem.
-/
import Derived.Test.YtdionganlmnlkaaMPut
namespace Go.Proofs.Ytdionganlmnlkaa
open Go.ChangeShapes Go.WideShapes Go.ChangeAt Go.RowKit Go.Deep

theorem RK.self {w : World} {rb yb : Nat} {pk : Int} {O : Nat → Prop} {M : List Mk} (h : RK w rb yb pk O M) : O rb := by
  obtain ⟨A, cap, _, _, h3, _⟩ := h
  exact h3
theorem RK.topb {w : World} {rb yb : Nat} {pk : Int} {O : Nat → Prop} {M : List Mk} (h : RK w rb yb pk O M) : ∃ A cap, Blk w rb 67 #[.slice A M.length cap, .pointer (some ⟨yb, 0, none⟩), .int .i64 pk] := by
  obtain ⟨A, cap, h1, _⟩ := h
  exact ⟨A, cap, h1⟩
theorem look_putp {c : Cl} {s : Int} {M : List Mk} (hs : ¬ s < 0) : look (putL c s M) = upS (look M) c (some s) := by rw [look_put, if_neg hs]
/-- On the way: the list, its blocks, the box of the cell, the references. -/
structure RT (w wr : World) (rb yb bc : Nat) (O Oy : Nat → Prop) (Es : List Ed) (row col pk : Int) (O' : Nat → Prop) (M : List Mk) : Prop where
  rk : RK wr rb yb pk O' M
  old : ∀ z, O' z → O z ∨ w.heap.size ≤ z
  nbc : ¬ O' bc
  box : Blk wr bc 32 #[.int .i64 row, .int .i64 col]
  frm : Frm O w wr
  rs : RS wr yb Oy Es
  oy : ∀ z, Oy z → z < w.heap.size ∧ ¬ O z
  bcw : w.heap.size ≤ bc
def RkTch (w : World) (rb yb : Nat) (O : Nat → Prop) (n : Nat) (w' : World) : Prop :=
  ∃ pk' O' M', RK w' rb yb pk' O' M' ∧ M'.length ≤ n ∧ Frm O w w' ∧ ∀ z, O' z → O z ∨ w.heap.size ≤ z
/-- A list of cells whose block is not the marks'. -/
def LO (w : World) (B : Nat) (v : Value) (L : List Cl) (O' : Nat → Prop) : Prop := OL KC w B v L ∧ ∀ g, v.ownBlock = some g → ¬ O' g
section
variable {w wr w5 : World} {rb yb bc : Nat} {O Oy : Nat → Prop} {Es : List Ed} {row col pk : Int} {O' O2 : Nat → Prop} {M N : List Mk} {B : Nat} {v : Value} {L : List Cl}
theorem RT.noy (h : RT w wr rb yb bc O Oy Es row col pk O' M) : ∀ z, Oy z → ¬ O' z := fun z hz hz' => by
  obtain ⟨h1, h2⟩ := h.oy z hz
  rcases h.old z hz' with h3 | h3
  · exact h2 h3
  · omega
theorem RT.fin (h : RT w wr rb yb bc O Oy Es row col pk O' M) {n : Nat} (hn : M.length ≤ n) : RkTch w rb yb O n wr := ⟨pk, O', M, h.rk, hn, h.frm, h.old⟩
theorem RT.below (h : RT w wr rb yb bc O Oy Es row col pk O' M) (hb : Below wr.heap.size wr w5) : RT w w5 rb yb bc O Oy Es row col pk O' M :=
  ⟨h.rk.below hb, h.old, h.nbc, h.box.below hb, h.frm.call hb, h.rs.below hb, h.oy, h.bcw⟩
theorem RT.step (h : RT w wr rb yb bc O Oy Es row col pk O' M) {S : Nat → Prop} (hF : Frm S wr w5) (hS : ∀ z, S z → w.heap.size ≤ z ∧ ¬ O' z ∧ z ≠ bc) : RT w w5 rb yb bc O Oy Es row col pk O' M :=
  ⟨h.rk.frm hF (fun z hz hs => (hS z hs).2.1 hz), h.old, h.nbc, hF.blk h.box (fun hs => (hS _ hs).2.2 rfl), h.frm.then_ hF (fun z hs hlt => absurd (hS z hs).1 (by omega)), h.rs.frm hF (fun z hz hs => by have := (h.oy z hz).1; have := (hS z hs).1; omega), h.oy, h.bcw⟩
theorem RT.putd (h : RT w wr rb yb bc O Oy Es row col pk O' M) (hp : RkPut wr rb yb pk O' N w5) : ∃ O2, RT w w5 rb yb bc O Oy Es row col pk O2 N ∧ Frm O' wr w5 ∧ ∀ z, O2 z → O' z ∨ wr.heap.size ≤ z := by
  obtain ⟨O2, h1, h2, h3⟩ := hp
  have hs := h.frm.size
  refine ⟨O2, ⟨h1, fun z hz => (h3 z hz).elim (h.old z) (fun h4 => .inr (by omega)), fun hz => (h3 _ hz).elim h.nbc (fun h4 => by have := h.box.lt; omega), h2.blk h.box h.nbc, h.frm.then_ h2 (fun z hz hlt => (h.old z hz).elim id (fun h4 => by omega)), h.rs.frm h2 (fun z hz hz' => h.noy z hz hz'), h.oy, h.bcw⟩, h2, h3⟩
theorem RT.peakd (h : RT w wr rb yb bc O Oy Es row col pk O' M) (p : Int) : RT w (wr.setCell ⟨rb, 2, none⟩ (.int .i64 p)) rb yb bc O Oy Es row col p O' M := by
  have hF : Frm (fun z => z = rb) wr (wr.setCell ⟨rb, 2, none⟩ (.int .i64 p)) := (Frm.refl (fun z => z = rb) wr).set (.inl rfl) _
  have hr := h.rk.self
  exact ⟨h.rk.peak p, h.old, h.nbc, hF.blk h.box (fun e => h.nbc (e ▸ hr)), h.frm.set ((h.old _ hr).imp id id) _, h.rs.frm hF (fun z hz e => h.noy z hz (e ▸ hr)), h.oy, h.bcw⟩
theorem LO.nil (w : World) (B : Nat) (O' : Nat → Prop) : LO w B (.slice none 0 0) [] O' := ⟨OL.nil _ _, fun g hg => (by cases hg)⟩
theorem LO.below (h : LO wr B v L O') (hb : Below wr.heap.size wr w5) : LO w5 B v L O' := ⟨h.1.below hb, h.2⟩
theorem LO.putd (h : LO wr B v L O') (hF : Frm O' wr w5) (hz : ∀ z, O2 z → O' z ∨ wr.heap.size ≤ z) : LO w5 B v L O2 :=
  ⟨h.1.keep (fun g hg => hF.block g (h.1.lt g hg).2 (h.2 g hg)), fun g hg hz' => (hz g hz').elim (h.2 g hg) (fun h4 => by have := (h.1.lt g hg).2; omega)⟩
theorem LO.peakd (h : LO wr B v L O') (hr : O' rb) (u : Value) : LO (wr.setCell ⟨rb, 2, none⟩ u) B v L O' := ⟨h.1.set (fun g hg e => h.2 g hg (e ▸ hr)) 2 u, h.2⟩
theorem LO.grown {r : Option Nat} (h : LO wr B v L O') (hg : wr.grownBy w5 r) (hr : ∀ g, v.ownBlock = some g → r ≠ some g) : LO w5 B v L O' := ⟨h.1.grown hg hr, h.2⟩
theorem LO.cells {n c g k : Nat} {x : Cl} (h : LO wr B (.slice (some ⟨g, 0, none⟩) n c) L O') (hx : L[k]? = some x) : g < wr.heap.size ∧ wr.cell? ⟨g, k * 2, none⟩ = some (.int .i64 x.row) ∧ wr.cell? ⟨g, k * 2 + 1, none⟩ = some (.int .i64 x.col) := by
  obtain ⟨g2, o2, h1, h2, h3, h4⟩ := cl_at (ol_lies h.1) hx
  injection h1 with h1
  injection h1 with h5 h6 _
  subst h5 h6
  rw [Nat.zero_add] at h3 h4
  exact ⟨h2, h3, h4⟩
theorem LO.addr {n c k : Nat} {A : Option Addr} {x : Cl} (h : LO wr B (.slice A n c) L O') (hx : L[k]? = some x) : ∃ g, A = some ⟨g, 0, none⟩ := by
  obtain ⟨A', c', hv, _, _, _, hA⟩ := h.1.see
  injection hv with hv _ _
  obtain ⟨g2, o2, h1, _⟩ := cl_at (ol_lies h.1) hx
  rcases hA with h5 | ⟨g, h5, _⟩
  · rw [hv, h5] at h1; cases h1
  · exact ⟨g, by rw [hv, h5]⟩
/-- Behind an append to the stack. -/
theorem LO.app {w7 : World} {v7 : Value} {L2 : List Cl} (h : LO wr B v L O') (hO' : ∀ z, O' z → z < wr.heap.size) (h7 : OL KC w7 B v7 L2) (hn : ∀ g, v7.ownBlock = some g → v.ownBlock = some g ∨ wr.heap.size ≤ g) : LO w7 B v7 L2 O' :=
  ⟨h7, fun g hg hz => (hn g hg).elim (fun h1 => h.2 g h1 hz) (fun h1 => by have := hO' g hz; omega)⟩
/-- Who is on the stack or was there. -/
structure PI (Es : List Ed) (f : Cl → Option Int) (P : List Cl) : Prop where
  nod : P.Nodup
  mem : ∀ p, p ∈ P → p ∈ Es.map eCl
  ncl : ∀ p, p ∈ P → ¬ cln (f p)
theorem PI.nil (Es : List Ed) (f : Cl → Option Int) : PI Es f [] := ⟨List.nodup_nil, fun p h => (by cases h), fun p h => (by cases h)⟩
theorem PI.len {f : Cl → Option Int} {P : List Cl} (h : PI Es f P) : P.length ≤ Es.length := by
  have := nodup_len h.nod h.mem
  rwa [List.length_map] at this
theorem PI.set {f : Cl → Option Int} {P : List Cl} (h : PI Es f P) {x : Cl} {s : Int} (hs : ¬ cln (some s)) : PI Es (upS f x (some s)) P := by
  refine ⟨h.nod, h.mem, fun p hp => ?_⟩
  by_cases e : p = x
  · rw [e, upS_same]; exact hs
  · rw [upS_other _ _ e]; exact h.ncl p hp
theorem PI.push {f : Cl → Option Int} {P : List Cl} (h : PI Es f P) {x : Cl} {s : Int} (hx : x ∈ Es.map eCl) (hc : cln (f x)) (hs : ¬ cln (some s)) : PI Es (upS f x (some s)) (P ++ [x]) := by
  have h1 := h.set (x := x) hs
  have h2 : x ∉ P := fun hp => h.ncl x hp hc
  refine ⟨?_, fun p hp => ?_, fun p hp => ?_⟩
  · rw [List.nodup_append]
    refine ⟨h.nod, by simp, fun a ha b hb e => ?_⟩
    rw [List.mem_singleton.1 hb] at e
    exact h2 (by rw [← e]; exact ha)
  · rcases List.mem_append.1 hp with h4 | h4
    · exact h.mem p h4
    · rw [List.mem_singleton.1 h4]; exact hx
  · rcases List.mem_append.1 hp with h4 | h4
    · exact h1.ncl p h4
    · rw [List.mem_singleton.1 h4, upS_same]; exact hs
end
end Go.Proofs.Ytdionganlmnlkaa

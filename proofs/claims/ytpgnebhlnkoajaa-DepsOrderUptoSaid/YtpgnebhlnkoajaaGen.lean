/-
  Generic words: frames by sets of blocks; append of one list to another at a step of a region that draws. Over any program. Conditions: those of each theorem.
-/
import Derived.Test.YtpgnebhlnkoajaaOlPut
import Derived.Test.YtpgnebhlnkoajaaQb
import Derived.Deep.AppendLies
import Derived.Deep.RegionLaw
import Derived.StillTailTactics
import Derived.IntWalk
import Derived.Lib.Hide
namespace Go.Proofs.Ytpgnebhlnkoajaa
open Go.ChangeShapes Go.WideShapes Go.ChangeAt Go.RowKit Go.Deep

/-- Outside S nothing has turned. -/
structure Frm (S : Nat → Prop) (w w' : World) : Prop where
  os : w'.os = w.os
  tape : w'.tape = w.tape
  output : w'.output = w.output
  size : w.heap.size ≤ w'.heap.size
  block : ∀ k, k < w.heap.size → ¬ S k → w'.heap[k]? = w.heap[k]?

section
variable {S : Nat → Prop} {a w w' : World}
theorem Frm.refl (S : Nat → Prop) (w : World) : Frm S w w := ⟨rfl, rfl, rfl, Nat.le_refl _, fun _ _ _ => rfl⟩
theorem Frm.call (h : Frm S a w) (hb : Below w.heap.size w w') : Frm S a w' :=
  ⟨hb.os.trans h.os, hb.tape.trans h.tape, hb.output.trans h.output, Nat.le_trans h.size hb.size, fun k hk hn => (hb.block k (Nat.lt_of_lt_of_le hk h.size)).trans (h.block k hk hn)⟩
theorem Frm.alloc (h : Frm S a w) (o : Obj) : Frm S a (w.alloc o) := h.call (bel_alloc (bel_refl w) o)
theorem Frm.drew (h : Frm S a w) : Frm S a w.drew := ⟨h.os, h.tape, h.output, h.size, h.block⟩
theorem Frm.drewN (h : Frm S a w) (n : Nat) : Frm S a (w.drewN n) := ⟨h.os, h.tape, h.output, h.size, h.block⟩
theorem Frm.set (h : Frm S a w) {b o : Nat} (hb : S b ∨ a.heap.size ≤ b) (u : Value) : Frm S a (w.setCell ⟨b, o, none⟩ u) :=
  ⟨h.os, h.tape, h.output, by simpa [World.setCell] using h.size, fun k hk hn => (Below.heap_setCell w ⟨b, o, none⟩ u k (by
    rintro rfl
    rcases hb with hb | hb
    · exact hn hb
    · omega)).trans (h.block k hk hn)⟩
theorem Frm.below (h : Frm S a w) (hS : ∀ k, S k → a.heap.size ≤ k) : Below a.heap.size a w :=
  ⟨h.os, h.tape, h.output, h.size, fun k hk => h.block k hk (fun hk' => by have := hS k hk'; omega)⟩
theorem Frm.then_ {S' : Nat → Prop} (h : Frm S a w) (k : Frm S' w w') (hS : ∀ x, S' x → x < a.heap.size → S x) : Frm S a w' :=
  ⟨k.os.trans h.os, k.tape.trans h.tape, k.output.trans h.output, Nat.le_trans h.size k.size, fun i hi hn => (k.block i (Nat.lt_of_lt_of_le hi h.size) (fun hs => hn (hS i hs hi))).trans (h.block i hi hn)⟩
theorem Frm.row {b t n : Nat} {f : Nat → Value} (h : Frm S w w') (hr : w.rowIs b t n f) (hn : ¬ S b) : w'.rowIs b t n f := hr.of_block (h.block b hr.lt hn)
theorem Frm.blk {g : Nat} {t : TypeId} {cs : Array Value} (h : Frm S w w') (hr : Blk w g t cs) (hn : ¬ S g) : Blk w' g t cs := (h.block g hr.lt hn).trans hr
/-- Below B. -/
theorem Frm.bel (h : Frm S w w') {a : World} (hw : Below a.heap.size a w) (hS : ∀ k, S k → a.heap.size ≤ k) : Below a.heap.size a w' :=
  hw.trans ⟨h.os, h.tape, h.output, h.size, fun k hk => h.block k (Nat.lt_of_lt_of_le hk hw.size) (fun hs => by have := hS k hs; omega)⟩
end


theorem Frm.cell {S : Nat → Prop} {w w' : World} (h : Frm S w w') {b : Nat} (hlt : b < w.heap.size) (hn : ¬ S b) (o : Nat) : w'.cell? ⟨b, o, none⟩ = w.cell? ⟨b, o, none⟩ := by
  unfold World.cell?
  rw [h.block b hlt hn]
theorem bel_grown {a w w' : World} {row : Option Nat} (h : Below a.heap.size a w) (hg : w.grownBy w' row) (hr : ∀ z, row = some z → a.heap.size ≤ z) : Below a.heap.size a w' :=
  ⟨hg.os.trans h.os, hg.tape.trans h.tape, hg.output.trans h.output, Nat.le_trans h.size hg.size, fun k hk => (hg.block k (Nat.lt_of_lt_of_le hk h.size) (fun e => by have := hr k e.symm; omega)).trans (h.block k hk)⟩
theorem below_of_grown' {w w' : World} (h : w.grownBy w' none) : Below w.heap.size w w' := ⟨h.os, h.tape, h.output, h.size, fun k hk => h.block k hk (by simp)⟩
theorem Frm.grown {S : Nat → Prop} {a w w' : World} {row : Option Nat} (h : Frm S a w) (hg : w.grownBy w' row) (hr : ∀ g, row = some g → S g ∨ a.heap.size ≤ g) : Frm S a w' :=
  ⟨hg.os.trans h.os, hg.tape.trans h.tape, hg.output.trans h.output, Nat.le_trans h.size hg.size, fun k hk hn => (hg.block k (Nat.lt_of_lt_of_le hk h.size) (fun e => by
    rcases hr k e.symm with h1 | h1
    · exact hn h1
    · omega)).trans (h.block k hk hn)⟩
theorem Frm.of_below {S : Nat → Prop} {w w' : World} (h : Below w.heap.size w w') : Frm S w w' := (Frm.refl S w).call h
theorem Blk.grownX {w w' : World} {g : Nat} {t : TypeId} {cs : Array Value} {row : Option Nat} (h : Blk w g t cs) (hb : w.grownBy w' row) (hne : some g ≠ row) : Blk w' g t cs := (hb.block g h.lt hne).trans h
theorem ty_ne {w : World} {a b t u : Nat} {cs ds : Array Value} (ha : w.heap[a]? = some (.cells cs t (0, 0))) (hb : w.heap[b]? = some (.cells ds u (0, 0))) (hne : t ≠ u) : a ≠ b := by
  rintro rfl
  rw [ha] at hb
  injection hb with e
  injection e with _ e
  exact hne e
theorem size1 {w : World} {B : Nat} (h : B ≤ w.heap.size) (o : Obj) : B ≤ (w.alloc o).heap.size := by
  show B ≤ (w.heap.push o).size
  simp
  omega

theorem step_ol_append {α : Type} {K : Knd α} {w : World} {B : Nat} {v : Value} {L : List α} {P : Program} {z : Value} {T : TypeId} (hinfo : (P.info? K.t).map (fun i => (i.zero, i.size, i.bytes)) = some (some z, K.size, K.bytes)) (hz : z.cells.size = K.size) (hT : P.underlying T = some (.slice K.t))
    {ops : Array Oper} {o : Oper} {a : Act} {K' : Act → World → Prop} {Q : Exit → Act → World → Prop} {E : Prop} (hgd : o.guard = none) (s x : Operand)
    (ho : o.op = .call { callee := .builtin .append, args := #[s, x], argTypes := #[T, T] }) (hs : a.eval s = v)
    (hL : OL K w B v L) {A : Option Addr} {M : List α} {c m : Nat} (hx : a.eval x = .slice A m c) (hm : M.length = m) (hM : Lies K w A M) (h63 : L.length + m ≤ maxLen) (hl : (L.length + m) * K.bytes ≤ 140737488355328) (hB : B ≤ w.heap.size)
    (h : ∀ v' w', OL K w' B v' (L ++ M) → w.grownBy w' v.ownBlock → K' (a.put o.dst v') w') : if Region.wanted o (yielded ops a.tmps) = true then Oper.wp P o a w K' Q else E := by
  have hw : Region.wanted o (yielded ops a.tmps) = true := by simp [Region.wanted, hgd]
  rw [if_pos hw]
  subst hm
  obtain ⟨v', w', hr, h2, h3⟩ := run_ol_append (ty := o.type) hinfo hz hT hL hM (c := c) h63 hl hB
  unfold Oper.wp execOp
  simp only [ho, resolve, invoke, builtin, Sem.run_bind, Sem.run_pure, Result.andThen_ok, List.map_toArray, List.map_cons, List.map_nil, hs, hx, hr]
  exact h v' w' h2 h3


end Go.Proofs.Ytpgnebhlnkoajaa

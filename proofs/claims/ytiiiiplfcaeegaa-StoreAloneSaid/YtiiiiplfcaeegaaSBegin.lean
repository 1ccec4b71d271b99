/-
  Contract of begin: both stores, empty. Conditions: none.
-/
import Derived.Test.YtiiiiplfcaeegaaSDoes
import Derived.Deep.AppendLies
import Derived.Deep.RegionLaw
import Derived.IntWalk
import Derived.Lib.Hide
namespace Go.Proofs.Ytiiiiplfcaeegaa
open Go.ChangeShapes Go.WideShapes Go.ChangeAt Go.RowKit Go.Deep

theorem step_ol_append {α : Type} {K : Knd α} {w : World} {B : Nat} {v : Value} {L : List α} {P : Program} {z : Value} {T : TypeId} (hinfo : (P.info? K.t).map (fun i => (i.zero, i.size, i.bytes)) = some (some z, K.size, K.bytes)) (hz : z.cells.size = K.size) (hT : P.underlying T = some (.slice K.t))
    {ops : Array Oper} {o : Oper} {a : Act} {K' : Act → World → Prop} {Q : Exit → Act → World → Prop} {E : Prop} (hgd : o.guard = none) (s x : Operand)
    (ho : o.op = .call { callee := .builtin .append, args := #[s, x], argTypes := #[T, T] }) (hs : a.eval s = v)
    (hL : OL K w B v L) {A : Option Addr} {M : List α} {c m : Nat} (hx : a.eval x = .slice A m c) (hm : M.length = m) (hM : Lies K w A M) (h63 : L.length + m ≤ maxLen) (hl : (L.length + m) * K.bytes ≤ 140737488355328) (hB : B ≤ w.heap.size)
    (h : ∀ v' w', OL K w' B v' (L ++ M) → w.grownBy w' v.ownBlock → K' (a.put o.dst v') w') : if Region.wanted o (yielded ops a.tmps) = true then Oper.wp P o a w K' Q else E := by
  have hw : Region.wanted o (yielded ops a.tmps) = true := by simp [Region.wanted, hgd]
  rw [if_pos hw]
  subst hm
  obtain ⟨v', w', hr, h2, h3⟩ := run_ol_append (ty := o.type) hinfo hz hT hL hM (c := c) h63 hl hB
  unfold Oper.wp execOp
  simp only [ho, resolve, invoke, builtin, Sem.run_bind, Sem.run_pure, Result.andThen_ok, List.map_toArray, List.map_cons, List.map_nil, hs, hx, hr]
  exact h v' w' h2 h3

theorem sz2 {w : World} {B : Nat} (h : B ≤ w.heap.size) (o p : Obj) : B ≤ ((w.drew.alloc o).alloc p).heap.size := by
  show B ≤ ((w.heap.push o).push p).size
  simp
  omega
theorem round_frm {wr w7 : World} {o p : Obj} {row : Option Nat} {H i : Nat} {u : Value} (hg : ((wr.drew.alloc o).alloc p).grownBy w7 row) (hr : ∀ g, row = some g → H ≤ g) : Frm (fun z => H ≤ z) wr (w7.setCell ⟨H, i, none⟩ u) := by
  have h0 : Frm (fun z => H ≤ z) wr ((wr.drew.alloc o).alloc p) := (((Frm.refl _ wr).drew).alloc o).alloc p
  have h1 : Frm (fun z => H ≤ z) ((wr.drew.alloc o).alloc p) w7 := ⟨hg.os, hg.tape, hg.output, hg.size, fun k hk hn => hg.block k hk (fun e => hn (hr k e.symm))⟩
  exact (h0.then_ h1 (fun x hx _ => hx)).set (.inl (Nat.le_refl _)) u
theorem own_none {sb z : Nat} (h : own sb (fun _ => none) (fun _ => none) z) : z = sb := by
  rcases h with h | ⟨_, _, h⟩ | ⟨_, _, h⟩
  · exact h
  · cases h
  · cases h
theorem Blk.grownX {w w' : World} {g : Nat} {t : TypeId} {cs : Array Value} {row : Option Nat} (h : Blk w g t cs) (hb : w.grownBy w' row) (hne : some g ≠ row) : Blk w' g t cs := (hb.block g h.lt hne).trans h

def Begun (w : World) (e : Ending) (w' : World) : Prop := ∃ bb sb yb lb lc Xs, e = .returned (.pointer (some ⟨bb, 0, none⟩)) ∧
    BIs w' bb sb yb lb lc Xs (fun _ => none) (fun _ => none) 0 [] none 0 ∧ (w.heap.size ≤ sb ∧ w.heap.size ≤ yb ∧ w.heap.size ≤ bb ∧ w.heap.size ≤ lb) ∧ Below w.heap.size w w'

set_option maxHeartbeats 3200000 in
set_option maxRecDepth 100000 in
theorem begin_any (w : World) : Calls Try.prog 17 #[] w (Begun w) := by
  go_enter Try.func17, Try.ntmps17
  go_wp2_with fail
  refine (snew_any _).mono ?_
  rintro e w1 ⟨sb, hsb, rfl, hS, hb1⟩
  have hw := hb1
  clear hb1
  have hlts := hS.top.lt
  go_wp2_with fail
  have kY := (Blk.new w1 rfl 63 #[.slice none 0 0]).alloc (.cells #[.pointer (some ⟨sb, 0, none⟩), .pointer (some ⟨w1.heap.size, 0, none⟩), .slice none 0 0] 57)
  have kB := Blk.new (w1.alloc (.cells #[.slice none 0 0] 63)) (g := w1.heap.size + 1) (by simp) 57 #[.pointer (some ⟨sb, 0, none⟩), .pointer (some ⟨w1.heap.size, 0, none⟩), .slice none 0 0]
  have hS' := (hS.alloc (.cells #[.slice none 0 0] 63)).alloc (.cells #[.pointer (some ⟨sb, 0, none⟩), .pointer (some ⟨w1.heap.size, 0, none⟩), .slice none 0 0] 57)
  have hw' := bel_alloc (bel_alloc hw (.cells #[.slice none 0 0] 63)) (.cells #[.pointer (some ⟨sb, 0, none⟩), .pointer (some ⟨w1.heap.size, 0, none⟩), .slice none 0 0] 57)
  go_loopw [2] (fun s2 wx => ∃ (v : Value) (Xs : List Addr), Xs.length ≤ 8 ∧ s2 = .int .i64 Xs.length ∧ Blk wx (w1.heap.size + 1) 57 #[.pointer (some ⟨sb, 0, none⟩), .pointer (some ⟨w1.heap.size, 0, none⟩), v] ∧
      OL KP wx (w1.heap.size + 2) v Xs ∧ Blk wx w1.heap.size 63 #[.slice none 0 0] ∧ SIs wx sb (fun _ => none) (fun _ => none) (fun _ _ => none) 0 ∧ Below w.heap.size w wx)
    (fun s2 _ => 8 - (intOf s2).toNat)
  case atStart => exact ⟨_, [], by simp, rfl, kB, OL.nil _ _, kY, hS', hw'⟩
  case round =>
    obtain ⟨v, Xs, hi, rfl, kB, hO, kY, hS, hW⟩ := hrel
    clear hS' hw'
    by_cases hi8 : Xs.length < 8
    · obtain ⟨A, c, rfl, hc1, hc2, hli, hA⟩ := hO.see
      have rdB := kB.rd
      have ltB := kB.lt
      have fzB := kB.fz
      have hB2 : w1.heap.size + 2 ≤ wr.heap.size := ltB
      have hfar : ∀ g, (Value.slice A Xs.length c).ownBlock = some g → g ≠ w1.heap.size + 1 := fun g hg => by have := (hO.lt g hg).1; omega
      have n1 : ¬ w1.heap.size + 1 = wr.heap.size := by omega
      have n2 : ¬ wr.heap.size = w1.heap.size + 1 := by omega
      have n3 : ¬ w1.heap.size = wr.heap.size := by omega
      have n4 : ¬ wr.heap.size = w1.heap.size := by omega
      have q1 := fun o => (kB.alloc o).rd 2
      have q2 := fun o p => ((kB.alloc o).alloc p).rd 2
      have hwi : IntKind.i64.wrap ((Xs.length : Int) + 1) = (Xs.length : Int) + 1 := IntWalk.i64_in _ (by omega)
      have hi0 : (0 : Int) ≤ (Xs.length : Int) := by omega
      have hi1 : (0 : Int) ≤ (Xs.length : Int) + 1 := by omega
      have hi2 : (Xs.length : Int) ≤ (Xs.length : Int) + 1 := by omega
      have hi3 : (Xs.length : Int) + 1 ≤ 8 := by omega
      have hlt8 : (Xs.length : Int) < 8 := by omega
      · go_wp2_with fail
        go_region_law
          ((refine step_ol_append info_ptr rfl Try.underlying55 rfl (.tmp 16) (.tmp 23) (by rfl) (by rfl) (L := Xs) (m := 1) ((hO.drew.alloc _).alloc _) (M := [⟨wr.heap.size, 0, none⟩]) (A := some ⟨wr.heap.size + 1, 0, none⟩) (c := 1) (by rfl) rfl (Lies.blk (Blk.new (wr.drew.alloc _) (g := wr.heap.size + 1) (by simp) 27 #[.pointer (some ⟨wr.heap.size, 0, none⟩)]) rfl) (by unfold maxLen; omega) (by show (_ + _) * 8 ≤ _; omega) (sz2 hB2 _ _) ?_; intro v7 w7 hO7 hg7; have k7 := Blk.grownX ((kB.drew.alloc _).alloc _) hg7 (fun e => hfar _ e.symm rfl); have rd7 := k7.rd; have fz7 := k7.fz; have lt7 := k7.lt; obtain ⟨A7, c7, hv7, _, _, _, _⟩ := hO7.see; rw [List.length_append] at hv7; subst hv7; have HG7 := Lib.hid hg7; clear hg7))
        all_goals go_wp2_with fail
        all_goals
          have hF := round_frm (H := w1.heap.size + 1) (i := 2) (u := .slice A7 (Xs.length + 1) c7) HG7.out (fun g hg => by have := (hO.lt g hg).1; omega)
          go_roundw
          case measure => simp [intOf]; omega
          case rel => exact ⟨_, Xs ++ [⟨wr.heap.size, 0, none⟩], by simp; omega, by simp, k7.put 2 (.slice A7 (Xs.length + 1) c7), hO7.set (fun g hg => by have := (hO7.lt g hg).1; omega) 2 _, hF.blk kY (by omega), hS.frm hF (fun b hb => by have := own_none hb; omega), hF.bel hW (fun k hk => by have := hw.size; omega)⟩
    · have h8 : Xs.length = 8 := by omega
      obtain ⟨A, c, rfl, hc1, hc2, hli, hA⟩ := hO.see
      rw [h8] at kB hO
      have H8 := Lib.hid h8
      clear h8
      obtain ⟨lb, rfl, hl1, hl2⟩ : ∃ lb, A = some ⟨lb, 0, none⟩ ∧ w1.heap.size + 2 ≤ lb ∧ lb < wr.heap.size := by
        rcases hA with rfl | ⟨g, rfl, h1, h2⟩
        · obtain ⟨x, hx⟩ : ∃ x, Xs[0]? = some x := ⟨_, List.getElem?_eq_getElem (by omega)⟩
          obtain ⟨b, off, e, _⟩ := hli 0 x hx
          cases e
        · exact ⟨g, rfl, h1, h2⟩
      go_wp2_with fail
      go_ret
      have hz := hw.size
      refine ⟨_, sb, _, lb, c, Xs, rfl, ⟨kB, hO.low (by omega), H8.out, hS, ⟨kY, OL.nil _ _⟩, ⟨fun x hx => by simp at hx, List.Pairwise.nil⟩, fun hb => by have := own_none hb; omega, by simp⟩, ⟨hsb, by omega, by omega, by omega⟩, hW⟩
end Go.Proofs.Ytiiiiplfcaeegaa

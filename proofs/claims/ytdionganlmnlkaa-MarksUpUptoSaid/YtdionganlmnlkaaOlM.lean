/-
  Lists built by appends: where the list lies behind an append of a list. Over any program. Conditions: those of each theorem.
-/
import Derived.Test.YtdionganlmnlkaaOlF
namespace Go.Proofs.Ytdionganlmnlkaa
open Go.ChangeShapes Go.WideShapes Go.ChangeAt Go.RowKit Go.Deep

section
variable {α : Type} {K : Knd α} {w : World} {B : Nat} {v : Value} {L : List α}
theorem run_ol_append_m {P : Program} {z : Value} {T ty : TypeId} (hinfo : (P.info? K.t).map (fun i => (i.zero, i.size, i.bytes)) = some (some z, K.size, K.bytes)) (hz : z.cells.size = K.size) (hT : P.underlying T = some (.slice K.t))
    (hL : OL K w B v L) {A : Option Addr} {M : List α} {c : Nat} (hM : Lies K w A M) (h63 : L.length + M.length ≤ maxLen) (hl : (L.length + M.length) * K.bytes ≤ 140737488355328) (hB : B ≤ w.heap.size) :
    ∃ v' w', (Builtin.append_ #[T, T] ty #[v, .slice A M.length c]).run P w = .ok v' w' ∧ OL K w' B v' (L ++ M) ∧ w.grownBy w' v.ownBlock ∧ ∀ g, v'.ownBlock = some g → v.ownBlock = some g ∨ w.heap.size ≤ g := by
  obtain ⟨i0, hi0, hz0, hz1, hz2⟩ := info_parts hinfo
  cases M with
  | nil =>
    obtain ⟨A', cap, rfl, hcap, _, _, _⟩ := hL.see
    have hsrc : Src P i0.size T (.slice A 0 c) 0 [] w := by
      cases A with
      | none => exact Src.ofNil w hT c
      | some ad => exact Src.ofSlice w hT ad 0 c [] (by simp) (by simp) (by simp)
    exact ⟨_, w, run_append_nothing w T T ty K.t i0 hT hi0 A' L.length cap hcap _ hsrc, by rw [List.append_nil]; exact hL, ⟨rfl, rfl, rfl, Nat.le_refl _, fun _ _ _ => rfl⟩, fun g hg => .inl hg⟩
  | cons x M =>
    obtain ⟨v', w', hr, h1, h2⟩ := run_ol_append (ty := ty) (c := c) hinfo hz hT hL hM h63 hl hB
    refine ⟨v', w', hr, h1, h2, fun g hg => ?_⟩
    obtain ⟨b, off, rfl, hb, hcx⟩ := hM 0 x rfl
    have hnews : ∀ j u, (cellsK K (x :: M))[j]? = some u → w.cell? ((⟨b, off, none⟩ : Addr).add j) = some u := fun j u hu => by
      obtain ⟨i, y, r, e1, e2, rfl⟩ := cellsK_inv K _ j u hu
      obtain ⟨b', off', e3, _, e4⟩ := hM i y e1
      cases e3
      rw [addr_add, show off + (i * K.size + r) = off + i * K.size + r by omega]
      exact e4 r u e2
    have hlen : (cellsK K (x :: M)).length = (x :: M).length * K.size := cellsK_len K _
    rcases hL.2 with ⟨rfl, h0⟩ | ⟨g0, cap, cur, rfl, hbg, hg0, hnc, hcm, hcs, htake⟩
    · obtain ⟨v2, w2, hr2, k1, _⟩ := run_ol_append (ty := ty) (c := c) hinfo hz hT (B := w.heap.size) (L := L) (v := .slice none 0 0) (by
        have : L = [] := List.length_eq_zero_iff.1 h0
        subst this
        exact OL.nil _ _) hM h63 hl (Nat.le_refl _)
      have hr' : Result.ok v' w' = Result.ok v2 w2 := hr.symm.trans hr2
      injection hr' with e1 _
      subst e1
      exact .inr (k1.lt g hg).1
    · by_cases hroom : L.length + (x :: M).length ≤ cap
      · have hr2 := run_append_room (P := P) w T ty K.t i0 hT hi0 g0 L.length cap cur hg0 ⟨b, off, none⟩ (x :: M).length c (cellsK K (x :: M)) (by rw [hlen, hz1]) hnews (cellsK_one K _) hroom (by rw [hlen, hcs, hz1, ← Nat.add_mul]; exact Nat.mul_le_mul_right _ hroom)
        have hr' := hr.symm.trans hr2
        injection hr' with e1 _
        subst e1
        exact .inl hg
      · obtain ⟨v2, w2, hr2, k1, _⟩ := run_append_arg_grows (P := P) w T ty K.t i0 z K.size K.bytes hT hi0 hz0 hz1 hz2 hz K.pos ⟨g0, 0, none⟩ L.length cap (cellsK K L) (cellsK_len K L) (fun j u hu => World.ownsRow.cells (g := g0) hL rfl j u hu) ⟨b, off, none⟩ (x :: M).length c (cellsK K (x :: M)) hlen hnews (by omega) h63 hl
        have hr' := hr.symm.trans hr2
        injection hr' with e1 _
        subst e1
        exact .inr (World.ownsRow.lt k1 g hg).1
theorem op_ol_append_m {P : Program} {z : Value} {T : TypeId} (hinfo : (P.info? K.t).map (fun i => (i.zero, i.size, i.bytes)) = some (some z, K.size, K.bytes)) (hz : z.cells.size = K.size) (hT : P.underlying T = some (.slice K.t))
    {o : Oper} {a : Act} {K' : Act → World → Prop} {Q : Exit → Act → World → Prop} (s x : Operand)
    (ho : o.op = .call { callee := .builtin .append, args := #[s, x], argTypes := #[T, T] }) (hs : a.eval s = v)
    (hL : OL K w B v L) {A : Option Addr} {M : List α} {c m : Nat} (hx : a.eval x = .slice A m c) (hm : M.length = m) (hM : Lies K w A M) (h63 : L.length + m ≤ maxLen) (hl : (L.length + m) * K.bytes ≤ 140737488355328) (hB : B ≤ w.heap.size)
    (h : ∀ v' w', OL K w' B v' (L ++ M) → w.grownBy w' v.ownBlock → (∀ g, v'.ownBlock = some g → v.ownBlock = some g ∨ w.heap.size ≤ g) → K' (a.put o.dst v') w') : Oper.wp P o a w K' Q := by
  subst hm
  obtain ⟨v', w', hr, h2, h3, h4⟩ := run_ol_append_m (ty := o.type) hinfo hz hT hL hM (c := c) h63 hl hB
  unfold Oper.wp execOp
  simp only [ho, resolve, invoke, builtin, Sem.run_bind, Sem.run_pure, Result.andThen_ok, List.map_toArray, List.map_cons, List.map_nil, hs, hx, hr]
  exact h v' w' h2 h3 h4
end
end Go.Proofs.Ytdionganlmnlkaa

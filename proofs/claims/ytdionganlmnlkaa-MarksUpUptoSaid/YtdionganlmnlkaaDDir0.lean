/-
  Deps: words for the walks over its maps: the next entry of a set; lists that are full or of their own; whom Direct tells, plain. Conditions: those of each theorem.
-/
import Derived.Test.YtdionganlmnlkaaDComp2
import Derived.Test.YtdionganlmnlkaaDSet
import Derived.Laws.IdiomRangeMap
namespace Go.Proofs.Ytdionganlmnlkaa
open Go.ChangeShapes Go.WideShapes Go.ChangeAt Go.RowKit Go.Deep
open Go.Maps (Keyed)

section
variable {P : Program} {w : World} {ops : Array Oper} {rest : List Oper} {o : Oper} {a : Act} {Q : Exit → Act → World → Prop}
/-- The next of an own set. -/
theorem wp_mset_next {α : Type} {k : TypeId} {V : α → Value} {Rg : α → Prop} (hg : o.guard = none) (it : Operand) (hop : o.op = Op.next it false) (K : Keyed P k) (b r n cnt : Nat) (D : DataW Unit) (left : Lit → Bool)
    (hk : ∀ l, Maps.has D l = true → ∃ x, Rg x ∧ keyOf P k (V x) = some l) (hsub : ∀ l, left l = true → Maps.has D l = true)
    (hit : a.eval it = .pointer (some ⟨r, 0, none⟩)) (h : w.ranges P k unitElem b r n D left cnt)
    (hDone : cnt = 0 → (∀ kl, left kl = false) → wpList P ops Q rest (a.put o.dst (.tuple #[.bool false])) w)
    (hMore : ∀ (x : α) (kl : Lit) (w' : World) (cnt' : Nat), Rg x → keyOf P k (V x) = some kl → left kl = true → w'.ranges P k unitElem b r n D (fun z => left z && !z.sameKey kl) cnt' → cnt' < cnt →
      w.grownBy w' (some r) → w'.heap.size = w.heap.size → (Instr.entry (.pointer (some ⟨r, 0, none⟩))).run P w' = .ok (.tuple #[V x, .agg #[]]) w' →
      wpList P ops Q rest (a.put o.dst (.tuple #[.bool true, V x, .agg #[]])) w') :
    wpList P ops Q (o :: rest) a w := by
  refine wpList_next_ranges w hg it hop k K unitElem (fun v : Value => v) (fun v : Value => v) (fun key kl _ => ⟨key, rfl⟩) (fun v y _ => ⟨v, rfl⟩) b r n D left cnt hit h hDone ?_
  intro x c kl y w' cnt' hkx hlk hRc _ hrg hlt hgr hsz hen
  obtain ⟨p, hp0, hp⟩ := hk kl (hsub kl hlk)
  have hxp : x = V p := K.inj hkx hp
  subst hxp
  obtain ⟨rfl, _⟩ := unitElem_inv hRc
  exact hMore p kl w' cnt' hp0 hp hlk hrg hlt hgr hsz hen
end
section
variable {α : Type} (K : Knd α)
/-- A list that is full, or one that appends have built. -/
def AP (w : World) (B : Nat) (v : Value) (L : List α) : Prop := (∃ A, v = .slice A L.length L.length ∧ OW K w B v L) ∨ OL K w B v L
end
section
variable {α : Type} {K : Knd α} {w w' : World} {B : Nat} {v : Value} {L : List α}
theorem AP.ow (h : AP K w B v L) : OW K w B v L := h.elim (fun ⟨_, _, h⟩ => h) OW.of_ol
theorem AP.keep (h : AP K w B v L) (hk : ∀ g, v.ownBlock = some g → w'.heap[g]? = w.heap[g]?) : AP K w' B v L := h.elim (fun ⟨A, e, h⟩ => .inl ⟨A, e, h.keep hk⟩) (fun h => .inr (h.keep hk))
theorem AP.lt (h : AP K w B v L) : ∀ g, v.ownBlock = some g → B ≤ g ∧ g < w.heap.size := h.ow.lt
theorem AP.below (h : AP K w B v L) (hb : Below w.heap.size w w') : AP K w' B v L := h.keep fun g hg => hb.block g (h.lt g hg).2
theorem AP.alloc (h : AP K w B v L) (o : Obj) : AP K (w.alloc o) B v L := h.below (bel_alloc (bel_refl w) o)
theorem AP.grown {row : Option Nat} (h : AP K w B v L) (hg : w.grownBy w' row) (hr : ∀ g, v.ownBlock = some g → row ≠ some g) : AP K w' B v L := h.keep fun g hg' => hg.block g (h.lt g hg').2 (fun e => hr g hg' e.symm)
theorem AP.ne_iter (h : AP K w B v L) {P : Program} {k : TypeId} {H : Type} {R : Value → Option (DataW H × List MemPlace)} {b r n cnt : Nat} {D : DataW H} {left : Lit → Bool} (hr : w.ranges P k R b r n D left cnt) : ∀ g, v.ownBlock = some g → g ≠ r := by
  rintro g hg rfl
  obtain ⟨cur, e1⟩ := h.ow.type g hg
  obtain ⟨_, _, _, _, _, _, _, _, _, e2, _⟩ := hr
  have e1' : w.heap[g]? = some (.cells cur K.t (0, 0)) := e1
  rw [e1'] at e2
  injection e2 with e2
  cases e2
theorem AP.ne_map (h : AP K w B v L) {z : Nat} (hm : IsMp w z) : ∀ g, v.ownBlock = some g → g ≠ z := fun g hg => by
  obtain ⟨cur, e1⟩ := h.ow.type g hg
  exact hm.ne e1
theorem wp_ap_append {P : Program} {z : Value} {T : TypeId} (hinfo : (P.info? K.t).map (fun i => (i.zero, i.size, i.bytes)) = some (some z, K.size, K.bytes)) (hz : z.cells.size = K.size) (hT : P.underlying T = some (.slice K.t))
    {ops : Array Oper} {rest : List Oper} {o : Oper} {a : Act} {Q : Exit → Act → World → Prop} (hgd : o.guard = none) (s x : Operand)
    (ho : o.op = .call { callee := .builtin .append, args := #[s, x], argTypes := #[T, T] }) (hs : a.eval s = v)
    (hL : AP K w B v L) {b off : Nat} {y : α} {c : Nat} (hx : a.eval x = .slice (some ⟨b, off, none⟩) 1 c) (hM : Lies K w (some ⟨b, off, none⟩) [y]) (h63 : L.length + 1 ≤ maxLen) (hl : (L.length + 1) * K.bytes ≤ 140737488355328) (hB : B ≤ w.heap.size)
    (h : ∀ v' w', OL K w' B v' (L ++ [y]) → w.grownBy w' v.ownBlock → wpList P ops Q rest (a.put o.dst v') w') : wpList P ops Q (o :: rest) a w := by
  have hrun : ∃ v' w', (Builtin.append_ #[T, T] o.type #[v, .slice (some ⟨b, off, none⟩) 1 c]).run P w = .ok v' w' ∧ OL K w' B v' (L ++ [y]) ∧ w.grownBy w' v.ownBlock := by
    rcases hL with ⟨A, rfl, hL⟩ | hL
    · obtain ⟨v', w', hr, h2, h3⟩ := run_full_append (ty := o.type) (c := c) hinfo hz hT hL hM h63 hl hB
      exact ⟨v', w', hr, h2, ⟨h3.os, h3.tape, h3.output, h3.size, fun k hk _ => h3.block k hk (by simp)⟩⟩
    · exact run_ol_append (ty := o.type) (M := [y]) (c := c) hinfo hz hT hL hM h63 hl hB
  obtain ⟨v', w', hr, h2, h3⟩ := hrun
  refine wpList_plain hgd fun K' hK => ?_
  unfold Oper.wp execOp
  simp only [ho, resolve, invoke, builtin, Sem.run_bind, Sem.run_pure, Result.andThen_ok, List.map_toArray, List.map_cons, List.map_nil, hs, hx, hr]
  exact hK _ _ (h v' w' h2 h3)
end
theorem PB.len {w : World} {bb N : Nat} {O : Nat → Prop} {Ls : List Pr} (h : PB w bb N O Ls) : Ls.length ≤ N := by
  have hs := h.srt
  obtain ⟨ma, mb, nb, L, F, _, _, _, h2, _, h4⟩ := h
  refine Nat.le_trans (pick_le (fun x => some x) (fun p => p) Ls L (hs.imp fun {a b} (h : ltP a b) (e : a = b) => ltP_irrefl a (by subst e; exact h)) (fun p hp => ⟨p, (h4 p).1 hp, rfl⟩)) h2
theorem ovs_len (row col : Int) : ∀ (L : List Pr) (out : List Cl), (L.foldl (ovS row col) out).length ≤ out.length + L.length
  | [], out => by simp
  | p :: L, out => by
    have h := ovs_len row col L (ovS row col out p)
    have h2 : (ovS row col out p).length ≤ out.length + 1 := by
      unfold ovS
      split
      · simp
      · omega
    rw [List.foldl_cons, List.length_cons]
    omega
/-- Does a cell refer to this one? -/
def refs (E : Cl → List Rf) (row col : Int) (x : Cl) : Prop := ∃ r, r ∈ E x ∧ inB r.t r.l r.b r.r row col = true
theorem refs_is {Ps : List Pr} {Wh : Cl → List Cl} {E : Cl → List Rf} (h : DRel Ps Wh E) (hs : SrtP Ps) (row col : Int) (x : Cl) : refs E row col x ↔ x ∈ ovs row col Ps ∨ x ∈ Wh ⟨row, col⟩ := by
  rw [(ovs_spec row col hs).2 x, h.wh]
  constructor
  · rintro ⟨r, hr, hi⟩
    cases hm : r.m with
    | true =>
      refine .inl ⟨mkP x r, (h.pr _).2 ?_, hi, rfl⟩
      obtain ⟨m, t, l, b, r'⟩ := r
      dsimp only at hm
      subst hm
      exact hr
    | false =>
      have e := okR_one (h.ok x r hr).1 hm
      rw [e] at hi hr
      have := inB_true hi
      dsimp only at this
      refine .inr ?_
      rw [show row = r.t by omega, show col = r.l by omega]
      exact hr
  · rintro (⟨p, hp, hi, rfl⟩ | hx)
    · exact ⟨_, (h.pr p).1 hp, hi⟩
    · exact ⟨_, hx, inB_mk ⟨Int.le_refl _, Int.le_refl _, Int.le_refl _, Int.le_refl _⟩⟩
end Go.Proofs.Ytdionganlmnlkaa

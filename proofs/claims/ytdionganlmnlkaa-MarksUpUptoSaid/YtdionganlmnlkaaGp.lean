/-
  Generic texts: flat reading, lists, plans of regions, maps. Conditions: those of each theorem.
-/
import Derived.WalkKit
import Derived.ProofKit
import Derived.OpenShut
import Derived.Deep.Slices
import Derived.Carry
import Derived.ChangeSame
import Derived.Deep.OwnRows
import Derived.Deep.Draws
import Derived.OwnWalk
import Derived.Deep.Upon
import Derived.Laws.MakeOwn
import Derived.Shelf.SlSortCmp.NoneTotal
import Derived.ArgAppend
import Derived.Lib.QuietBelow
import Derived.Deep.QuietTactic
import Derived.BigQuiet
import Derived.Deep.AppendLies
import Derived.Deep.RegionLaw
import Derived.StillTailTactics
import Derived.IntWalk
import Derived.Lib.Hide
import Derived.OrdersHeld
import Derived.StillTail
import Derived.Deep.Quiet
import Derived.Deep.RegionHeld3
import Derived.Maps.OwnSet
import Derived.Maps.OwnOps
import Derived.Maps.RangeWalk
namespace Go.Proofs.Ytdionganlmnlkaa
open Go.ChangeShapes Go.WideShapes Go.ChangeAt Go.RowKit Go.Deep

/-- The leaves of a type that is built of structs alone: each leaf's place among the cells, and its type. -/
def leaves (P : Program) : Nat → TypeId → List (Nat × TypeId)
  | 0, _ => []
  | n + 1, t => match P.underlying t with
    | some (.struct fs) => fs.toList.flatMap fun f => (leaves P n f.type).map fun x => (f.offset + x.1, x.2)
    | some (.array _ _) => []
    | _ => [(0, t)]

section
variable {H : Type} {enc : TypeId × Value → H} {P : Program} {w : World} {base : Nat} {spare : Nat → Bool} {held : Bool}

theorem trod_leaves : ∀ (n : Nat) (t : TypeId) (fuel : Nat) (cs : List Value) (x : DataW H × List MemPlace), DataW.trod enc P w base spare held fuel t cs = some x →
    ∀ p ∈ leaves P n t, ∃ v fuel' y, cs[p.1]? = some v ∧ DataW.trod enc P w base spare held fuel' p.2 [v] = some y := by
  intro n
  induction n with
  | zero => intro t fuel cs x _ p hp; simp [leaves] at hp
  | succ n ih =>
    intro t fuel cs x h p hp
    unfold leaves at hp
    split at hp
    · rename_i fs hu
      obtain ⟨xs, m, _, _, _, hlen, hf⟩ := DataW.trod_struct hu h
      obtain ⟨f, hfm, hp⟩ := List.mem_flatMap.1 hp
      obtain ⟨q, hq, rfl⟩ := List.mem_map.1 hp
      obtain ⟨i, hi, hfi⟩ := List.getElem_of_mem hfm
      have hfs : fs[i]? = some f := by
        rw [Array.getElem?_eq_getElem (by simpa using hi)]
        simpa using hfi
      have hg := hf i f hfs
      have hix : i < xs.length := by rw [hlen]; simpa using hi
      rw [List.getElem?_eq_getElem hix] at hg
      obtain ⟨v, fuel', y, hv, ht⟩ := ih f.type m _ _ hg q hq
      refine ⟨v, fuel', y, ?_, ht⟩
      have h1 : ((cs.drop f.offset).take (P.cellsOf f.type))[q.1]? = some v := hv
      rw [List.getElem?_take] at h1
      split at h1
      · rw [List.getElem?_drop] at h1
        exact h1
      · cases h1
    · simp at hp
    · rename_i hs ha
      simp only [List.mem_singleton] at hp
      subst hp
      cases fuel with
      | zero => simp [DataW.trod] at h
      | succ k =>
        have h0 := h
        have : ∃ v, cs = [v] := by
          unfold DataW.trod at h
          split at h
          all_goals first
            | exact ⟨_, rfl⟩
            | (rename_i hu _; exact absurd hu (by intro e; exact hs _ e))
            | (rename_i hu _; exact absurd hu (by intro e; exact ha _ _ e))
            | (simp at h)
            | skip
          all_goals first
            | (rename_i hu; exact absurd hu (by intro e; exact hs _ e))
            | (rename_i hu; exact absurd hu (by intro e; exact ha _ _ e))
        obtain ⟨v, rfl⟩ := this
        exact ⟨v, _, _, rfl, h0⟩

/-- An integer leaf. -/
theorem leaf_int {n : Nat} {t : TypeId} {fuel : Nat} {cs : List Value} {x : DataW H × List MemPlace} (h : DataW.trod enc P w base spare held fuel t cs = some x) {o : Nat} {t' : TypeId} {k : IntKind}
    (hm : (leaves P n t).contains (o, t') = true) (hk : P.underlying t' = some (.int k)) : ∃ z : Int, cs[o]? = some (.int k z) ∧ (Lit.int k z).wf = true := by
  obtain ⟨v, fuel', y, hv, ht⟩ := trod_leaves n t fuel cs x h (o, t') (by simpa using hm)
  obtain ⟨z, hz, _, hw⟩ := DataW.trod_int hk ht
  simp only [List.cons.injEq, and_true] at hz
  exact ⟨z, by rw [hv, hz], hw⟩
theorem leaf_bool {n : Nat} {t : TypeId} {fuel : Nat} {cs : List Value} {x : DataW H × List MemPlace} (h : DataW.trod enc P w base spare held fuel t cs = some x) {o : Nat} {t' : TypeId}
    (hm : (leaves P n t).contains (o, t') = true) (hk : P.underlying t' = some .bool) : ∃ z : Bool, cs[o]? = some (.bool z) := by
  obtain ⟨v, fuel', y, hv, ht⟩ := trod_leaves n t fuel cs x h (o, t') (by simpa using hm)
  obtain ⟨z, hz, _⟩ := DataW.trod_bool hk ht
  simp only [List.cons.injEq, and_true] at hz
  exact ⟨z, by rw [hv, hz]⟩

/-- Is this an int's type? -/
def intT (P : Program) (t : TypeId) : Bool := match P.underlying t with
  | some (.int .i64) => true
  | _ => false
theorem intT_of {P : Program} {t : TypeId} (h : intT P t = true) : P.underlying t = some (.int .i64) := by
  unfold intT at h
  split at h
  · assumption
  · cases h

theorem i64_of_wf {z : Int} (h : (Lit.int .i64 z).wf = true) : -9223372036854775808 ≤ z ∧ z ≤ 9223372036854775807 := by
  simpa [Lit.wf, IntKind.min, IntKind.max, IntKind.signed, IntKind.bits] using h

theorem addr_of_cell {w : World} {a : Addr} {v : Value} (h : w.cell? a = some v) : a = ⟨a.block, a.off, none⟩ ∧ a.block < w.heap.size := by
  have hlt := World.block_lt_of_cell? _ _ h
  refine ⟨?_, hlt⟩
  obtain ⟨b, o, s⟩ := a
  cases s with
  | none => rfl
  | some x =>
    unfold World.cell? at h
    split at h
    · simp at h
    · cases h
theorem addr_add (b o n : Nat) : (⟨b, o, none⟩ : Addr).add n = ⟨b, o + n, none⟩ := by
  unfold Addr.add
  split
  · rename_i h
    rw [h, Nat.add_zero]
  · rfl

/-- A slice of structs of ints alone: where its cells lie, and what they hold. -/
theorem open_flat {t e : TypeId} {N fuel len cap : Nat} {A : Option Addr} {x : DataW H × List MemPlace} (hN0 : 0 < N) (ht : P.underlying t = some (.slice e)) (hN : P.cellsOf e = N)
    (hall : ((List.range N).all fun j => (leaves P 5 e).any fun y => y.1 == j && intT P y.2) = true) (h : DataW.trod enc P w base spare held fuel t [.slice A len cap] = some x) :
    len ≤ cap ∧ cap ≤ maxLen ∧ ∃ f : Nat → Nat → Int, ∀ i, i < len → ∃ b off, A = some ⟨b, off, none⟩ ∧ b < w.heap.size ∧ ∀ j, j < N → w.cell? ⟨b, off + i * N + j, none⟩ = some (.int .i64 (f i j)) ∧ (Lit.int .i64 (f i j)).wf = true := by
  rcases open_slice ht h with ⟨h0, _⟩ | ⟨a, len', cap', m, n, D, Pl, hcs, _, hl, hc, hm, _, hi⟩
  · simp only [List.cons.injEq, Value.slice.injEq, and_true] at h0
    obtain ⟨rfl, rfl, rfl⟩ := h0
    exact ⟨Nat.le_refl _, by simp [maxLen], fun _ _ => 0, fun i hi => absurd hi (by omega)⟩
  · simp only [List.cons.injEq, Value.slice.injEq, and_true] at hcs
    obtain ⟨rfl, rfl, rfl⟩ := hcs
    refine ⟨hl, hc, ?_⟩
    have hlm : len ≤ m := by rw [hm]; split <;> omega
    have key : ∀ i, i < len → ∃ g : Nat → Int, ∀ j, j < N → w.cell? ((a.add (i * N)).add j) = some (.int .i64 (g j)) ∧ (Lit.int .i64 (g j)).wf = true := by
      intro i hil
      obtain ⟨cs', hcs', ht'⟩ := hi i (by omega)
      rw [hN] at hcs'
      obtain ⟨_, _, hat⟩ := World.cells?_some hcs'
      refine choose_lt (α := Int) (p := fun j x => w.cell? ((a.add (i * N)).add j) = some (.int .i64 x) ∧ (Lit.int .i64 x).wf = true) fun j hj => ?_
      have hj' := List.all_eq_true.1 hall j (by simpa using hj)
      obtain ⟨⟨o, t'⟩, hy, hyj⟩ := List.any_eq_true.1 hj'
      simp only [Bool.and_eq_true, beq_iff_eq] at hyj
      obtain ⟨rfl, hit⟩ := hyj
      obtain ⟨z, hz, hwz⟩ := leaf_int (n := 5) ht' (o := o) (t' := t') (by simpa using hy) (intT_of hit)
      exact ⟨z, (hat o hj).trans hz, hwz⟩
    have key2 : ∃ f : Nat → Nat → Int, ∀ i, i < len → ∀ j, j < N → w.cell? ((a.add (i * N)).add j) = some (.int .i64 (f i j)) ∧ (Lit.int .i64 (f i j)).wf = true :=
      choose_lt (α := Nat → Int) (p := fun i g => ∀ j, j < N → w.cell? ((a.add (i * N)).add j) = some (.int .i64 (g j)) ∧ (Lit.int .i64 (g j)).wf = true) key
    obtain ⟨f, hf⟩ := key2
    refine ⟨f, fun i hil => ?_⟩
    have h00 := (hf 0 (by omega) 0 hN0).1
    rw [Nat.zero_mul] at h00
    have ha0 : a = ⟨a.block, a.off, none⟩ ∧ a.block < w.heap.size := addr_of_cell (by simpa [Addr.add] using h00)
    refine ⟨a.block, a.off, by rw [← ha0.1], ha0.2, fun j hj => ?_⟩
    have hc := hf i hil j hj
    rw [ha0.1, addr_add, addr_add] at hc
    exact hc

/-- All arguments read as they did, where below the old heap nothing has turned. -/
theorem trodAll_below (hl : laidOutB P = true) {W W' : World} (hb : Below W.heap.size W W') : ∀ (ts : List TypeId) (vs : List Value) (ds : List (DataW H)) (ps : List MemPlace),
    (ts.all fun t => P.readableRec t && decide (t < P.types.size)) = true →
    DataW.TrodAll enc P W 0 (fun _ => true) true ts vs ds ps → (∀ x ∈ ps, x.block < W.heap.size) → ∀ sp : Nat → Bool, (∀ p ∈ ps, sp p.block = true) → DataW.TrodAll enc P W' 0 sp true ts vs ds ps := by
  intro ts
  induction ts with
  | nil =>
    intro vs ds ps _ h _ sp _
    cases vs <;> cases ds <;> simp only [DataW.TrodAll] at h ⊢
    exact h
  | cons t ts ih =>
    intro vs ds ps hok h hlt sp hsp
    cases vs with
    | nil => simp only [DataW.TrodAll] at h
    | cons v vs =>
      cases ds with
      | nil => simp only [DataW.TrodAll] at h
      | cons d ds =>
        obtain ⟨p, q, h1, h2, rfl⟩ := h
        simp only [List.all_cons, Bool.and_eq_true, decide_eq_true_eq] at hok
        refine ⟨p, q, ?_, ih vs ds q (by simpa using hok.2) h2 (fun x hx => hlt x (by simp [hx])) sp (fun x hx => hsp x (by simp [hx])), rfl⟩
        exact WideElems.Trod_stays hl hok.1.1 hok.1.2 h1 (fun x hx => hb.same (hlt x (by simp [hx]))) (fun x hx => by simpa using hsp x (by simp [hx]))

/-- What a law owes at its end. -/
theorem post_true (hl : laidOutB P = true) {f : Func} {s : ChangeSpec} {apart fresh handsOn : Bool} {W W' : World} {args : Array Value} {ds gs : List (DataW H)} {before : List MemPlace} {tb : TypeId}
    (hvars : s.vars = []) (hts : (f.params.toList.all fun t => P.readableRec t && decide (t < P.types.size)) = true) (hr : f.resultTypes = #[tb]) (htb : P.underlying tb = some .bool)
    (hW : DataW.Whole enc P f.params.toList s.vars apart W args.toList ds gs before) (hfn : (s.fn H ds).results = [.lit (.bool true)] ∧ (s.fn H ds).args = ds ∧ (s.fn H ds).vars = [])
    (hb : Below W.heap.size W W') : s.post enc P f apart fresh handsOn false W args (.bool true) W' := by
  have hlt : ∀ p ∈ before, p.block < W.heap.size := fun p hp => hW.lt p hp
  have hW' := hW
  obtain ⟨p, q, hA, hV, rfl, hfz, hnd⟩ := hW
  rw [hvars] at hV
  obtain ⟨rfl, rfl⟩ := trodVars_none hV
  simp only [List.append_nil] at hW' hlt
  have hold : ∀ x ∈ p, (fun b => decide (b < W.heap.size)) x.block = true := fun x hx => by simpa using hlt x hx
  refine ⟨ds, [], p, [], p, [], hW', ?_, ?_, ?_, ?_, fun h => by cases h⟩
  · simp only [List.append_nil, hfn.1, hr]
    exact trodAll_mk1 (shut_bool htb true)
  · simp only [List.append_nil, hfn.2.1]
    exact trodAll_below hl hb _ _ _ _ hts hA hlt _ hold
  · rw [hvars]
    simp only [List.append_nil, hfn.2.2]
    exact rfl
  · exact hb.frame _
end

/-! Blocks whose cells are known. -/
def Blk (w : World) (g : Nat) (t : TypeId) (cs : Array Value) : Prop := w.heap[g]? = some (.cells cs t (0, 0))

section
variable {w w' : World} {g : Nat} {t : TypeId} {cs : Array Value}
theorem Blk.lt (h : Blk w g t cs) : g < w.heap.size := (Array.getElem?_eq_some_iff.1 h).1
theorem Blk.rd (h : Blk w g t cs) : ∀ i, w.cell? ⟨g, i, none⟩ = cs[i]? := fun i => by
  unfold Blk at h
  simp [World.cell?, h]
theorem Blk.fz (h : Blk w g t cs) : ∀ i, w.frozen? ⟨g, i, none⟩ = false := fun i => by
  unfold Blk at h
  simp [World.frozen?, h]
theorem Blk.new (w : World) {g : Nat} (hg : g = w.heap.size) (t : TypeId) (cs : Array Value) : Blk (w.alloc (.cells cs t)) g t cs := by
  subst hg
  show (w.heap.push _)[w.heap.size]? = _
  simp
theorem Blk.alloc (h : Blk w g t cs) (o : Obj) : Blk (w.alloc o) g t cs := (Below.heap_alloc w o g h.lt).trans h
theorem Blk.drewN (h : Blk w g t cs) (n : Nat) : Blk (w.drewN n) g t cs := h
theorem Blk.drew (h : Blk w g t cs) : Blk w.drew g t cs := h
theorem Blk.put (h : Blk w g t cs) (i : Nat) (u : Value) : Blk (w.setCell ⟨g, i, none⟩ u) g t (cs.setIfInBounds i u) := by
  unfold Blk at h ⊢
  simp [World.setCell, Array.getElem?_modify, h]
theorem Blk.far (h : Blk w g t cs) {b o : Nat} (hp : g ≠ b) (u : Value) : Blk (w.setCell ⟨b, o, none⟩ u) g t cs := (Below.heap_setCell w ⟨b, o, none⟩ u g hp).trans h
theorem Blk.below (h : Blk w g t cs) (hb : Below w.heap.size w w') : Blk w' g t cs := (hb.block g h.lt).trans h
theorem Blk.grown {b : Nat} (h : Blk w g t cs) (hb : w.grownBy w' (some b)) (hne : g ≠ b) : Blk w' g t cs := (hb.block g h.lt (by simpa using hne)).trans h
theorem Blk.row (h : Blk w g t cs) : w.rowIs g t cs.size (fun i => cs.getD i undef) := ⟨cs, h, rfl, fun i hi => by simp [hi]⟩

theorem bel_refl (w : World) : Below w.heap.size w w := Below.refl _ _
theorem bel_alloc {a : World} (h : Below a.heap.size a w) (o : Obj) : Below a.heap.size a (w.alloc o) := h.alloc h.size o
theorem bel_drew {a : World} (h : Below a.heap.size a w) : Below a.heap.size a w.drew := h.drew
theorem bel_drewN {a : World} (h : Below a.heap.size a w) (n : Nat) : Below a.heap.size a (w.drewN n) := ⟨h.os, h.tape, h.output, h.size, h.block⟩
theorem bel_set {a : World} (h : Below a.heap.size a w) {b o : Nat} (hp : a.heap.size ≤ b) (u : Value) : Below a.heap.size a (w.setCell ⟨b, o, none⟩ u) := h.setCell (p := ⟨b, o, none⟩) hp u
theorem bel_call {a : World} (h : Below a.heap.size a w) (hb : Below w.heap.size w w') : Below a.heap.size a w' := h.trans (hb.mono h.size)

theorem row_below {b n : Nat} {f : Nat → Value} (h : w.rowIs b t n f) (hb : Below w.heap.size w w') : w'.rowIs b t n f := h.of_block (hb.block b h.lt)
theorem row_grown {b c n : Nat} {f : Nat → Value} (h : w.rowIs b t n f) (hb : w.grownBy w' (some c)) (hne : b ≠ c) : w'.rowIs b t n f := h.of_block (hb.block b h.lt (by simpa using hne))
theorem grown_refl (w : World) (b : Option Nat) : w.grownBy w b := ⟨rfl, rfl, rfl, Nat.le_refl _, fun _ _ _ => rfl⟩
theorem grown_below {b : Option Nat} {a : World} (h : a.grownBy w b) (hb : Below w.heap.size w w') : a.grownBy w' b :=
  ⟨hb.os.trans h.os, hb.tape.trans h.tape, hb.output.trans h.output, Nat.le_trans h.size hb.size, fun i hi hn => (hb.block i (Nat.lt_of_lt_of_le hi h.size)).trans (h.block i hi hn)⟩
theorem grown_alloc {b : Option Nat} {a : World} (h : a.grownBy w b) (o : Obj) : a.grownBy (w.alloc o) b :=
  grown_below h ((Below.refl _ _).alloc (Nat.le_refl _) o)
theorem grown_drew {b : Option Nat} {a : World} (h : a.grownBy w b) : a.grownBy w.drew b := ⟨h.os, h.tape, h.output, h.size, h.block⟩
theorem grown_set {b : Nat} {a : World} (h : a.grownBy w (some b)) {c o : Nat} (hp : c = b ∨ a.heap.size ≤ c) (u : Value) : a.grownBy (w.setCell ⟨c, o, none⟩ u) (some b) :=
  ⟨h.os, h.tape, h.output, by simpa [World.setCell] using h.size, fun i hi hne => (Below.heap_setCell w ⟨c, o, none⟩ u i (by
    rintro rfl
    rcases hp with hp | hp
    · exact hne (by simp [hp])
    · omega)).trans (h.block i hi hne)⟩
theorem grown_trans {b : Option Nat} {a c : World} (h : a.grownBy w b) (k : w.grownBy c b) : a.grownBy c b :=
  ⟨k.os.trans h.os, k.tape.trans h.tape, k.output.trans h.output, Nat.le_trans h.size k.size, fun i hi hn => (k.block i (Nat.lt_of_lt_of_le hi h.size) hn).trans (h.block i hi hn)⟩
theorem grown_of_below {a : World} (h : Below a.heap.size a w) (b : Option Nat) : a.grownBy w b := ⟨h.os, h.tape, h.output, h.size, fun i hi _ => h.block i hi⟩
theorem below_of_grown {B b : Nat} {a : World} (h : a.grownBy w (some b)) (hB : B ≤ a.heap.size) (hb : B ≤ b) : Below B a w :=
  (Below.refl B a).grown h hB (fun k hk => by cases hk; exact hb)
end
end Go.Proofs.Ytdionganlmnlkaa
namespace Go.Proofs.Ytdionganlmnlkaa
open Go.ChangeShapes Go.WideShapes Go.ChangeAt Go.RowKit Go.Deep

/-- A kind of element: its type, its cells, its bytes, how it lies. -/
structure Knd (α : Type) where
  t : TypeId
  size : Nat
  bytes : Nat
  enc : α → List Value
  len : ∀ x, (enc x).length = size
  one : ∀ x, ∀ u ∈ enc x, u.oneCell' = true
  pos : 0 < size

section
variable {α : Type} (K : Knd α)
def cellsK (L : List α) : List Value := L.flatMap K.enc
theorem cellsK_len (L : List α) : (cellsK K L).length = L.length * K.size := by
  induction L with
  | nil => simp [cellsK]
  | cons x L ih =>
    show (K.enc x ++ cellsK K L).length = _
    rw [List.length_append, ih, K.len, List.length_cons, Nat.add_mul]
    omega
theorem cellsK_add (L M : List α) : cellsK K (L ++ M) = cellsK K L ++ cellsK K M := by simp [cellsK]
theorem cellsK_at : ∀ (L : List α) (i : Nat) (x : α) (j : Nat) (u : Value), L[i]? = some x → (K.enc x)[j]? = some u → (cellsK K L)[i * K.size + j]? = some u
  | [], i, x, _, _, h, _ => by simp at h
  | y :: L, 0, x, j, u, h, hu => by
    simp at h
    subst h
    show (K.enc y ++ cellsK K L)[_]? = _
    rw [Nat.zero_mul, Nat.zero_add, List.getElem?_append_left (by
      obtain ⟨h, _⟩ := List.getElem?_eq_some_iff.1 hu
      exact h)]
    exact hu
  | y :: L, i + 1, x, j, u, h, hu => by
    have := cellsK_at L i x j u (by simpa using h) hu
    show (K.enc y ++ cellsK K L)[_]? = _
    rw [List.getElem?_append_right (by rw [K.len, Nat.add_mul]; omega), K.len, show (i + 1) * K.size + j - K.size = i * K.size + j by rw [Nat.add_mul]; omega]
    exact this
theorem cellsK_inv : ∀ (L : List α) (k : Nat) (u : Value), (cellsK K L)[k]? = some u → ∃ i x j, L[i]? = some x ∧ (K.enc x)[j]? = some u ∧ k = i * K.size + j
  | [], k, u, h => by simp [cellsK] at h
  | y :: L, k, u, h => by
    have h' : (K.enc y ++ cellsK K L)[k]? = some u := h
    by_cases hk : k < (K.enc y).length
    · rw [List.getElem?_append_left hk] at h'
      exact ⟨0, y, k, rfl, h', by omega⟩
    · rw [List.getElem?_append_right (by omega), K.len] at h'
      rw [K.len] at hk
      obtain ⟨i, x, j, h1, h2, h3⟩ := cellsK_inv L _ u h'
      exact ⟨i + 1, x, j, by simpa using h1, h2, by rw [Nat.add_mul]; omega⟩
theorem cellsK_one (L : List α) : ∀ u ∈ cellsK K L, u.oneCell' = true := by
  intro u hu
  obtain ⟨x, _, hx⟩ := List.mem_flatMap.1 hu
  exact K.one x u hx

/-- These elements lie so in memory, one behind the other. -/
def Lies (w : World) (A : Option Addr) (L : List α) : Prop := ∀ i x, L[i]? = some x → ∃ b off, A = some ⟨b, off, none⟩ ∧ b < w.heap.size ∧ ∀ j u, (K.enc x)[j]? = some u → w.cell? ⟨b, off + i * K.size + j, none⟩ = some u
/-- The value is a list that this call has built, of these elements, in blocks from B on. -/
def OL (w : World) (B : Nat) (v : Value) (L : List α) : Prop := w.ownsRow B K.t K.size v L.length (cellsK K L)
end

section
variable {α : Type} {K : Knd α} {w w' : World} {B : Nat} {v : Value} {L : List α}
theorem Lies.nil (w : World) (A : Option Addr) : Lies K w A [] := fun i x h => by simp at h
theorem Lies.below {A : Option Addr} (h : Lies K w A L) (hb : Below w.heap.size w w') : Lies K w' A L := fun i x hx => by
  obtain ⟨b, off, h1, h2, h3⟩ := h i x hx
  exact ⟨b, off, h1, Nat.lt_of_lt_of_le h2 hb.size, fun j u hu => (hb.cell (p := ⟨b, off + i * K.size + j, none⟩) h2).trans (h3 j u hu)⟩
theorem Lies.take {A : Option Addr} (h : Lies K w A L) (n : Nat) : Lies K w A (L.take n) := fun i x hx => h i x (by
  rw [List.getElem?_take] at hx
  split at hx
  · exact hx
  · cases hx)
theorem Lies.drop {b off : Nat} (h : Lies K w (some ⟨b, off, none⟩) L) (n : Nat) : Lies K w (some ⟨b, off + n * K.size, none⟩) (L.drop n) := fun i x hx => by
  rw [List.getElem?_drop] at hx
  obtain ⟨b', off', h1, h2, h3⟩ := h _ x hx
  cases h1
  refine ⟨b, off + n * K.size, rfl, h2, fun j u hu => ?_⟩
  rw [show off + n * K.size + i * K.size + j = off + (n + i) * K.size + j by rw [Nat.add_mul]; omega]
  exact h3 j u hu
theorem Lies.cut {g cap a : Nat} (h : Lies K w (some ⟨g, 0, none⟩) L) (hcap : L.length ≤ cap) : Lies K w (if cap = a then some ⟨g, 0, none⟩ else some ⟨g, a * K.size, none⟩) (L.drop a) := by
  split
  · rename_i e
    rw [List.drop_eq_nil_of_le (by omega)]
    exact Lies.nil _ _
  · have := h.drop a
    rwa [Nat.zero_add] at this
theorem Lies.skip {g a : Nat} (h : Lies K w (some ⟨g, 0, none⟩) L) : Lies K w (some ⟨g, a * K.size, none⟩) (L.drop a) := by
  have := h.drop a
  rwa [Nat.zero_add] at this
theorem Lies.one {b off : Nat} {x : α} (hb : b < w.heap.size) (h : ∀ j u, (K.enc x)[j]? = some u → w.cell? ⟨b, off + j, none⟩ = some u) : Lies K w (some ⟨b, off, none⟩) [x] := fun i y hy => by
  match i, hy with
  | 0, hy =>
    simp at hy
    subst hy
    exact ⟨b, off, rfl, hb, fun j u hu => by rw [Nat.zero_mul, Nat.add_zero]; exact h j u hu⟩
  | i + 1, hy => simp at hy

theorem Lies.blk {g : Nat} {t : TypeId} {cs : Array Value} {x : α} (h : Blk w g t cs) (e : cs.toList = K.enc x) : Lies K w (some ⟨g, 0, none⟩) [x] := Lies.one h.lt fun j u hu => by
  rw [Nat.zero_add, h.rd, ← Array.getElem?_toList, e]
  exact hu

theorem OL.nil (w : World) (B : Nat) : OL K w B (.slice none 0 0) [] := World.ownsRow_nil _ _ _ _
theorem OL.see (h : OL K w B v L) : ∃ A cap, v = .slice A L.length cap ∧ L.length ≤ cap ∧ cap ≤ maxLen ∧ Lies K w A L ∧ (A = none ∨ ∃ g, A = some ⟨g, 0, none⟩ ∧ B ≤ g ∧ g < w.heap.size) := by
  have hc := fun g => World.ownsRow.cells (g := g) h
  have hl := h.lt
  rcases h.2 with ⟨h1, h2⟩ | ⟨g, cap, cur, rfl, hb, hg, hn, hm, hs, ht⟩
  · have hL := List.length_eq_zero_iff.1 h2
    subst hL
    exact ⟨none, 0, h1, Nat.le_refl _, by simp [maxLen], Lies.nil _ _, .inl rfl⟩
  · refine ⟨_, cap, rfl, hn, hm, fun i x hx => ⟨g, 0, rfl, (hl g rfl).2, fun j u hu => ?_⟩, .inr ⟨g, rfl, hb, (hl g rfl).2⟩⟩
    have := hc g rfl _ _ (cellsK_at K L i x j u hx hu)
    rw [addr_add] at this
    rw [show 0 + i * K.size + j = 0 + (i * K.size + j) by omega]
    exact this
theorem OL.keep (h : OL K w B v L) (hk : ∀ g, v.ownBlock = some g → w'.heap[g]? = w.heap[g]?) : OL K w' B v L := by
  refine ⟨h.1, ?_⟩
  rcases h.2 with h1 | ⟨g, cap, cur, rfl, hB, hg, rest⟩
  · exact .inl h1
  · exact .inr ⟨g, cap, cur, rfl, hB, (hk g rfl).trans hg, rest⟩
theorem OL.below (h : OL K w B v L) (hb : Below w.heap.size w w') : OL K w' B v L := h.keep fun g hg => hb.block g (h.lt g hg).2
theorem OL.alloc (h : OL K w B v L) (o : Obj) : OL K (w.alloc o) B v L := h.below (bel_alloc (bel_refl w) o)
theorem OL.drew (h : OL K w B v L) : OL K w.drew B v L := h.keep fun _ _ => rfl
theorem OL.drewN (h : OL K w B v L) (n : Nat) : OL K (w.drewN n) B v L := h.keep fun _ _ => rfl
theorem OL.set (h : OL K w B v L) {b : Nat} (hb : ∀ g, v.ownBlock = some g → g ≠ b) (o : Nat) (u : Value) : OL K (w.setCell ⟨b, o, none⟩ u) B v L :=
  h.keep fun g hg => Below.heap_setCell w ⟨b, o, none⟩ u g (hb g hg)
theorem OL.grown {row : Option Nat} (h : OL K w B v L) (hg : w.grownBy w' row) (hr : ∀ g, v.ownBlock = some g → row ≠ some g) : OL K w' B v L :=
  h.keep fun g hg' => hg.block g (h.lt g hg').2 (fun e => hr g hg' e.symm)
/-- Its block's type. -/
theorem OL.type (h : OL K w B v L) : ∀ g, v.ownBlock = some g → ∃ cur, w.heap[g]? = some (.cells cur K.t (0, 0)) := by
  intro g hg
  rcases h.2 with ⟨rfl, _⟩ | ⟨g', cap, cur, rfl, hB, hc, rest⟩
  · cases hg
  · cases hg
    exact ⟨cur, hc⟩
theorem OL.low {B' : Nat} (h : OL K w B v L) (hB : B' ≤ B) : OL K w B' v L := by
  refine ⟨h.1, ?_⟩
  rcases h.2 with h1 | ⟨g, cap, cur, rfl, hb, rest⟩
  · exact .inl h1
  · exact .inr ⟨g, cap, cur, rfl, Nat.le_trans hB hb, rest⟩

theorem run_ol_append {P : Program} {z : Value} {T ty : TypeId} (hinfo : (P.info? K.t).map (fun i => (i.zero, i.size, i.bytes)) = some (some z, K.size, K.bytes)) (hz : z.cells.size = K.size) (hT : P.underlying T = some (.slice K.t))
    (hL : OL K w B v L) {A : Option Addr} {M : List α} {c : Nat} (hM : Lies K w A M) (h63 : L.length + M.length ≤ maxLen) (hl : (L.length + M.length) * K.bytes ≤ 140737488355328) (hB : B ≤ w.heap.size) :
    ∃ v' w', (Builtin.append_ #[T, T] ty #[v, .slice A M.length c]).run P w = .ok v' w' ∧ OL K w' B v' (L ++ M) ∧ w.grownBy w' v.ownBlock := by
  obtain ⟨i0, hi0, hz0, hz1, hz2⟩ := info_parts hinfo
  cases M with
  | nil =>
    obtain ⟨A', cap, rfl, hcap, _, _, _⟩ := hL.see
    have hsrc : Src P i0.size T (.slice A 0 c) 0 [] w := by
      cases A with
      | none => exact Src.ofNil w hT c
      | some ad => exact Src.ofSlice w hT ad 0 c [] (by simp) (by simp) (by simp)
    exact ⟨_, w, run_append_nothing w T T ty K.t i0 hT hi0 A' L.length cap hcap _ hsrc, by rw [List.append_nil]; exact hL, ⟨rfl, rfl, rfl, Nat.le_refl _, fun _ _ _ => rfl⟩⟩
  | cons x M =>
    obtain ⟨b, off, rfl, hb, _⟩ := hM 0 x rfl
    obtain ⟨v', w', h1, h2, h3, _⟩ := run_append_own (P := P) w B T ty K.t i0 z K.size K.bytes hT hi0 hz0 hz1 hz2 hz K.pos v L.length (cellsK K L) hL ⟨b, off, none⟩ (x :: M).length c (cellsK K (x :: M)) (cellsK_len K _) (fun j u hu => by
      obtain ⟨i, y, r, e1, e2, rfl⟩ := cellsK_inv K _ j u hu
      obtain ⟨b', off', e3, _, e4⟩ := hM i y e1
      cases e3
      rw [addr_add, show off + (i * K.size + r) = off + i * K.size + r by omega]
      exact e4 r u e2) (cellsK_one K _) h63 hl hB
    exact ⟨v', w', h1, by unfold OL; rw [cellsK_add, List.length_append]; exact h2, h3⟩

theorem wp_ol_append {P : Program} {z : Value} {T : TypeId} (hinfo : (P.info? K.t).map (fun i => (i.zero, i.size, i.bytes)) = some (some z, K.size, K.bytes)) (hz : z.cells.size = K.size) (hT : P.underlying T = some (.slice K.t))
    {ops : Array Oper} {rest : List Oper} {o : Oper} {a : Act} {Q : Exit → Act → World → Prop} (hgd : o.guard = none) (s x : Operand)
    (ho : o.op = .call { callee := .builtin .append, args := #[s, x], argTypes := #[T, T] }) (hs : a.eval s = v)
    (hL : OL K w B v L) {A : Option Addr} {M : List α} {c m : Nat} (hx : a.eval x = .slice A m c) (hm : M.length = m) (hM : Lies K w A M) (h63 : L.length + m ≤ maxLen) (hl : (L.length + m) * K.bytes ≤ 140737488355328) (hB : B ≤ w.heap.size)
    (h : ∀ v' w', OL K w' B v' (L ++ M) → w.grownBy w' v.ownBlock → wpList P ops Q rest (a.put o.dst v') w') : wpList P ops Q (o :: rest) a w := by
  subst hm
  obtain ⟨v', w', hr, h2, h3⟩ := run_ol_append (ty := o.type) hinfo hz hT hL hM (c := c) h63 hl hB
  refine wpList_plain hgd fun K' hK => ?_
  unfold Oper.wp execOp
  simp only [ho, resolve, invoke, builtin, Sem.run_bind, Sem.run_pure, Result.andThen_ok, List.map_toArray, List.map_cons, List.map_nil, hs, hx, hr]
  exact hK _ _ (h v' w' h2 h3)
end
end Go.Proofs.Ytdionganlmnlkaa
namespace Go.Proofs.Ytdionganlmnlkaa
open Go.ChangeShapes Go.WideShapes Go.ChangeAt Go.RowKit Go.Deep

section
variable {α : Type} {K : Knd α}
theorem cellsK_put : ∀ (L : List α) (i : Nat) (x x' : α) (j : Nat) (u : Value), L[i]? = some x → j < K.size → K.enc x' = (K.enc x).set j u → cellsK K (L.set i x') = (cellsK K L).set (i * K.size + j) u
  | [], i, x, x', j, u, h, _, _ => by simp at h
  | y :: L, 0, x, x', j, u, h, hj, he => by
    simp at h
    subst h
    show K.enc x' ++ cellsK K L = (K.enc y ++ cellsK K L).set _ u
    rw [he, Nat.zero_mul, Nat.zero_add, List.set_append_left _ _ (by rw [K.len]; exact hj)]
  | y :: L, i + 1, x, x', j, u, h, hj, he => by
    have ih := cellsK_put L i x x' j u (by simpa using h) hj he
    show K.enc y ++ cellsK K (L.set i x') = (K.enc y ++ cellsK K L).set _ u
    rw [ih, List.set_append_right _ _ (by rw [K.len, Nat.add_mul]; omega), K.len, show (i + 1) * K.size + j - K.size = i * K.size + j by rw [Nat.add_mul]; omega]

variable {w : World} {B g c : Nat} {L : List α}
theorem OL.fz (h : OL K w B (.slice (some ⟨g, 0, none⟩) L.length c) L) : ∀ i, w.frozen? ⟨g, i, none⟩ = false := fun i => by
  obtain ⟨cur, e⟩ := h.type g rfl
  exact Blk.fz (t := K.t) (cs := cur) e i
theorem OL.put (h : OL K w B (.slice (some ⟨g, 0, none⟩) L.length c) L) {i j : Nat} {x x' : α} {u : Value} (hx : L[i]? = some x) (hj : j < K.size) (he : K.enc x' = (K.enc x).set j u) :
    OL K (w.setCell ⟨g, i * K.size + j, none⟩ u) B (.slice (some ⟨g, 0, none⟩) L.length c) (L.set i x') := by
  obtain ⟨h1, h2⟩ := h
  have hil : i < L.length := (List.getElem?_eq_some_iff.1 hx).1
  have hk : i * K.size + j < L.length * K.size := by
    have := Nat.mul_le_mul_right K.size (show i + 1 ≤ L.length from hil)
    rw [Nat.add_mul] at this
    omega
  rcases h2 with ⟨h2, _⟩ | ⟨g', cap, cur, hv, hB, hg, hn, hm, hs, ht⟩
  · cases h2
  · injection hv with e1 e2 e3
    injection e1 with e1
    injection e1 with e1
    subst e1 e3
    refine ⟨by rw [cellsK_len], .inr ⟨g, c, cur.setIfInBounds (i * K.size + j) u, by rw [List.length_set], hB, ?_, by rw [List.length_set]; exact hn, hm, by simpa using hs, ?_⟩⟩
    · exact Blk.put (t := K.t) (cs := cur) hg _ u
    · rw [cellsK_put L i x x' j u hx hj he, ← ht, List.length_set, Array.toList_setIfInBounds, List.take_set]
theorem OL.at_ (h : OL K w B (.slice (some ⟨g, 0, none⟩) L.length c) L) {i : Nat} {x : α} (hx : L[i]? = some x) {j : Nat} {u : Value} (hu : (K.enc x)[j]? = some u) : w.cell? ⟨g, i * K.size + j, none⟩ = some u := by
  have := World.ownsRow.cells (g := g) h rfl _ _ (cellsK_at K L i x j u hx hu)
  rw [addr_add, Nat.zero_add] at this
  exact this
end
end Go.Proofs.Ytdionganlmnlkaa
namespace Go.Proofs.Ytdionganlmnlkaa
open Go.ChangeShapes Go.WideShapes Go.ChangeAt Go.RowKit Go.Deep

/-- Some cells are written one behind the other. -/
def stores (w : World) (g o : Nat) : Nat → List Value → World
  | _, [] => w
  | k, u :: us => stores (w.setCell ⟨g, o + k, none⟩ u) g o (k + 1) us
theorem bel_stores {a : World} {g o : Nat} (hg : a.heap.size ≤ g) : ∀ (us : List Value) (k : Nat) (w : World), Below a.heap.size a w → Below a.heap.size a (stores w g o k us)
  | [], _, _, h => h
  | u :: us, k, _, h => bel_stores hg us (k + 1) _ (bel_set h hg u)
theorem blk_stores {g o : Nat} {t : TypeId} : ∀ (us : List Value) (k : Nat) (w : World) (cur : Array Value), Blk w g t cur → o + k + us.length ≤ cur.size →
    ∃ cur', Blk (stores w g o k us) g t cur' ∧ cur'.size = cur.size ∧ ∀ j, cur'[j]? = if o + k ≤ j ∧ j < o + k + us.length then us[j - (o + k)]? else cur[j]?
  | [], k, w, cur, h, _ => ⟨cur, h, rfl, fun j => by rw [if_neg (by simp)]⟩
  | u :: us, k, w, cur, h, hl => by
    simp only [List.length_cons] at hl
    obtain ⟨cur', h1, h2, h3⟩ := blk_stores (g := g) (o := o) (t := t) us (k + 1) (w.setCell ⟨g, o + k, none⟩ u) (cur.setIfInBounds (o + k) u) (h.put (o + k) u) (by simp; omega)
    refine ⟨cur', h1, by rw [h2]; simp, fun j => ?_⟩
    rw [h3 j]
    by_cases hj : j = o + k
    · subst hj
      rw [if_neg (by omega), if_pos ⟨Nat.le_refl _, by simp⟩, Nat.sub_self]
      rw [Array.getElem?_setIfInBounds_self_of_lt (by omega)]
      rfl
    · by_cases hin : o + (k + 1) ≤ j ∧ j < o + (k + 1) + us.length
      · rw [if_pos hin, if_pos ⟨by omega, by simp; omega⟩, show j - (o + k) = (j - (o + (k + 1))) + 1 by omega, List.getElem?_cons_succ]
      · rw [if_neg hin, if_neg (by simp; omega), Array.getElem?_setIfInBounds_ne (by omega)]
theorem blk_stores_far {g o b : Nat} {t : TypeId} {cs : Array Value} (hne : b ≠ g) : ∀ (us : List Value) (k : Nat) (w : World), Blk w b t cs → Blk (stores w g o k us) b t cs
  | [], _, _, h => h
  | u :: us, k, _, h => blk_stores_far hne us (k + 1) _ (h.far hne u)

section
variable {α : Type} {K : Knd α}
theorem cellsK_out {L : List α} {j : Nat} (h : L.length * K.size ≤ j) : (cellsK K L)[j]? = none := List.getElem?_eq_none (by rw [cellsK_len]; exact h)
theorem cellsK_get (L : List α) (j : Nat) : (cellsK K L)[j]? = (L[j / K.size]?).bind fun x => (K.enc x)[j % K.size]? := by
  have hp := K.pos
  by_cases hj : j < L.length * K.size
  · have hq : j / K.size < L.length := (Nat.div_lt_iff_lt_mul hp).2 hj
    have hx := List.getElem?_eq_getElem hq
    rw [hx]
    have hr : j % K.size < (K.enc L[j / K.size]).length := by rw [K.len]; exact Nat.mod_lt _ hp
    have hu := List.getElem?_eq_getElem hr
    have := cellsK_at K L _ _ _ _ hx hu
    rw [Nat.div_add_mod' j K.size] at this
    rw [this]
    exact hu.symm
  · rw [cellsK_out (by omega), List.getElem?_eq_none (by
      have : ¬ j / K.size < L.length := fun h => hj ((Nat.div_lt_iff_lt_mul hp).1 h)
      omega)]
    rfl
theorem cellsK_set {L : List α} {i : Nat} {y : α} (hi : i < L.length) (j : Nat) : (cellsK K (L.set i y))[j]? = if i * K.size ≤ j ∧ j < i * K.size + K.size then (K.enc y)[j - i * K.size]? else (cellsK K L)[j]? := by
  have hp := K.pos
  rw [cellsK_get, cellsK_get, List.getElem?_set]
  by_cases hq : i = j / K.size
  · have hj := Nat.div_add_mod' j K.size
    have hm := Nat.mod_lt j hp
    rw [if_pos hq, if_pos hi, if_pos (by rw [hq]; omega)]
    rw [hq, show j - j / K.size * K.size = j % K.size by omega]
    rfl
  · rw [if_neg hq, if_neg]
    intro h
    apply hq
    refine (Nat.div_eq_of_lt_le (by omega) ?_).symm
    rw [Nat.add_mul]
    omega
variable {w : World} {B g c : Nat} {L : List α}
theorem OL.store (h : OL K w B (.slice (some ⟨g, 0, none⟩) L.length c) L) {i : Nat} (hi : i < L.length) (y : α) : OL K (stores w g (i * K.size) 0 (K.enc y)) B (.slice (some ⟨g, 0, none⟩) L.length c) (L.set i y) := by
  obtain ⟨h1, h2⟩ := h
  have hk : i * K.size + K.size ≤ L.length * K.size := by
    have := Nat.mul_le_mul_right K.size (show i + 1 ≤ L.length from hi)
    rw [Nat.add_mul] at this
    omega
  rcases h2 with ⟨h2, _⟩ | ⟨g', cap, cur, hv, hB, hg, hn, hm, hs, ht⟩
  · cases h2
  · injection hv with e1 e2 e3
    injection e1 with e1
    injection e1 with e1
    subst e1 e3
    have hcs : cur.size = c * K.size := by simpa using hs
    have hc : L.length * K.size ≤ c * K.size := Nat.mul_le_mul_right _ hn
    obtain ⟨cur', b1, b2, b3⟩ := blk_stores (t := K.t) (g := g) (o := i * K.size) (K.enc y) 0 w cur hg (by rw [K.len, Nat.add_zero]; omega)
    refine ⟨by rw [cellsK_len], .inr ⟨g, c, cur', by rw [List.length_set], hB, b1, by rw [List.length_set]; exact hn, hm, by rw [b2]; exact hs, ?_⟩⟩
    rw [List.length_set]
    apply List.ext_getElem?
    intro j
    rw [cellsK_set hi]
    by_cases hj : j < L.length * K.size
    · rw [List.getElem?_take, if_pos hj, Array.getElem?_toList, b3 j, K.len, Nat.add_zero]
      by_cases hin : i * K.size ≤ j ∧ j < i * K.size + K.size
      · rw [if_pos hin, if_pos hin]
      · rw [if_neg hin, if_neg hin, ← ht, List.getElem?_take, if_pos hj, Array.getElem?_toList]
    · rw [List.getElem?_take, if_neg hj, if_neg (by omega), cellsK_out (by omega)]
theorem ol_made (w : World) (z : α) (n : Nat) (hn : n ≤ maxLen) : OL K (w.alloc (.cells (madeCells (K.enc z).toArray (n * K.size)) K.t)) w.heap.size (.slice (some ⟨w.heap.size, 0, none⟩) n n) (List.replicate n z) := by
  have hp := K.pos
  refine ⟨by rw [cellsK_len], .inr ⟨w.heap.size, n, _, by simp, Nat.le_refl _, Blk.new w rfl K.t _, by simp, hn, by simp [size_madeCells], ?_⟩⟩
  apply List.ext_getElem?
  intro j
  rw [cellsK_get, List.length_replicate, List.getElem?_take]
  by_cases hj : j < n * K.size
  · have hq : j / K.size < n := (Nat.div_lt_iff_lt_mul hp).2 hj
    have hr : j % K.size < (K.enc z).length := by rw [K.len]; exact Nat.mod_lt _ hp
    rw [if_pos hj, Array.getElem?_toList, List.getElem?_replicate, if_pos hq]
    show _ = (K.enc z)[j % K.size]?
    have hsz : (K.enc z).toArray.size = K.size := by simp [K.len]
    unfold madeCells
    rw [Array.getElem?_map, Array.getElem?_range]
    simp only [hj, if_true, Option.map_some, hsz]
    rw [List.getElem?_eq_getElem hr]
    simp [hr]
  · have hq : ¬ j / K.size < n := fun h => hj ((Nat.div_lt_iff_lt_mul hp).1 h)
    rw [if_neg hj, List.getElem?_replicate, if_neg hq]
    rfl
/-- A block that holds just these. -/
theorem Lies.of_blk {t : TypeId} {cs : Array Value} (h : Blk w g t cs) (e : cs.toList = cellsK K L) : Lies K w (some ⟨g, 0, none⟩) L := fun i x hx => ⟨g, 0, rfl, h.lt, fun j u hu => by
  rw [Nat.zero_add, h.rd, ← Array.getElem?_toList, e]
  exact cellsK_at K L i x j u hx hu⟩
end
end Go.Proofs.Ytdionganlmnlkaa
namespace Go.Proofs.Ytdionganlmnlkaa
open Go.ChangeShapes Go.WideShapes Go.ChangeAt Go.RowKit Go.Deep

section
variable {α : Type} {K : Knd α}
theorem cellsK_take (L : List α) (n : Nat) : cellsK K (L.take n) = (cellsK K L).take (n * K.size) := by
  induction L generalizing n with
  | nil => simp [cellsK]
  | cons x L ih =>
    cases n with
    | zero => simp [cellsK]
    | succ n =>
      show K.enc x ++ cellsK K (L.take n) = (K.enc x ++ cellsK K L).take _
      rw [ih, List.take_append, K.len, show (n + 1) * K.size - K.size = n * K.size by rw [Nat.add_mul]; omega, List.take_of_length_le (l := K.enc x) (by rw [K.len, Nat.add_mul]; omega)]
variable {w : World} {B c : Nat} {A : Option Addr} {L : List α}
theorem OL.take (h : OL K w B (.slice A L.length c) L) (n : Nat) (hn : n ≤ L.length) : OL K w B (.slice A n c) (L.take n) := by
  have hl : (L.take n).length = n := by simp; omega
  obtain ⟨h1, h2⟩ := h
  refine ⟨by rw [cellsK_len], ?_⟩
  rw [hl]
  rcases h2 with ⟨h2, h3⟩ | ⟨g', cap, cur, hv, hB, hg, hle, hm, hs, ht⟩
  · injection h2 with e1 e2 e3
    have : n = 0 := by omega
    exact .inl ⟨by rw [e1, e3, this], this⟩
  · injection hv with e1 e2 e3
    subst e1 e3
    refine .inr ⟨g', c, cur, rfl, hB, hg, by omega, hm, hs, ?_⟩
    rw [cellsK_take, ← ht, List.take_take]
    congr 1
    exact (Nat.min_eq_left (Nat.mul_le_mul_right _ hn)).symm
theorem ol_none (h : OL K w B (.slice none L.length c) L) : L.length = 0 ∧ c = 0 := by
  rcases h.2 with ⟨h2, h3⟩ | ⟨g', cap, cur, hv, _⟩
  · injection h2 with e1 e2 e3
    exact ⟨h3, e3⟩
  · injection hv with e1 _ _
    cases e1
end
end Go.Proofs.Ytdionganlmnlkaa
namespace Go.Proofs.Ytdionganlmnlkaa
open Go.ChangeShapes Go.WideShapes Go.ChangeAt Go.RowKit Go.Deep Go.Sort

section
variable {α : Type} [Inhabited α] {K : Knd α} {w : World} {B g c n : Nat} {L M : List α} {os : Array Obj}
theorem flat_list (L : List α) : (flatK K.enc K.size L.toArray).toList = cellsK K L := by
  apply List.ext_getElem?
  intro j
  rw [cellsK_get, Array.getElem?_toList]
  have hp := K.pos
  by_cases hj : j < L.length * K.size
  · have hq : j / K.size < L.length := (Nat.div_lt_iff_lt_mul hp).2 hj
    have hr : j % K.size < (K.enc L[j / K.size]).length := by rw [K.len]; exact Nat.mod_lt _ hp
    rw [List.getElem?_eq_getElem hq]
    show _ = (K.enc L[j / K.size])[j % K.size]?
    rw [List.getElem?_eq_getElem hr]
    unfold flatK
    rw [Array.getElem?_map, Array.getElem?_range]
    simp [hj, hq, hr]
  · rw [Array.getElem?_eq_none (by simp; omega), List.getElem?_eq_none (by
      have : ¬ j / K.size < L.length := fun h => hj ((Nat.div_lt_iff_lt_mul hp).1 h)
      omega)]
    rfl
theorem ol_holds (h : OL K w B (.slice (some ⟨g, 0, none⟩) L.length c) L) : HoldsK K.enc K.size w g 0 L.toArray := by
  intro j hj
  have hc := World.ownsRow.cells (g := g) h rfl j
  have hf : (flatK K.enc K.size L.toArray)[j]? = some (flatK K.enc K.size L.toArray)[j]! := by rw [getElem!_pos _ j hj]; exact Array.getElem?_eq_getElem hj
  rw [← Array.getElem?_toList, flat_list] at hf
  have h1 := hc _ hf
  rw [addr_add] at h1
  obtain ⟨cur, e⟩ := h.type g rfl
  exact ⟨h1, by simp [World.frozen?, e]⟩
theorem ol_sorted (h : OL K w B (.slice (some ⟨g, 0, none⟩) L.length c) L) (hl : M.length = L.length) :
    OL K (sortWorldK K.enc K.size w g 0 n M.toArray os) B (.slice (some ⟨g, 0, none⟩) L.length c) M ∧ w.grownBy (sortWorldK K.enc K.size w g 0 n M.toArray os) (some g) := by
  obtain ⟨h1, h2⟩ := h
  rcases h2 with ⟨h2, _⟩ | ⟨g', cap, cur, hv, hB, hg, hn, hm, hs, ht⟩
  · cases h2
  · injection hv with e1 e2 e3
    injection e1 with e1
    injection e1 with e1
    subst e1 e3
    have hlt : g < w.heap.size := (Array.getElem?_eq_some_iff.1 hg).1
    have hcs : cur.size = c * K.size := by simpa using hs
    have hle : L.length * K.size ≤ c * K.size := Nat.mul_le_mul_right _ hn
    have hb : (sortWorldK K.enc K.size w g 0 n M.toArray os).heap[g]? = some (.cells (putCells id 0 (flatK K.enc K.size M.toArray) cur) K.t (0, 0)) := by
      unfold sortWorldK putRowK
      rw [heap_grow_old _ _ (by simpa [Sort.ahead] using hlt)]
      simp [putRow, mapBlock, Sort.ahead, Array.getElem?_modify, hg, onCells]
    refine ⟨⟨by rw [cellsK_len], .inr ⟨g, c, _, by rw [hl], hB, hb, by rw [hl]; exact hn, hm, by simp [putCells, hcs], ?_⟩⟩, ⟨rfl, rfl, rfl, ?_, fun k hk hne => ?_⟩⟩
    · apply List.ext_getElem?
      intro j
      rw [hl]
      by_cases hj : j < L.length * K.size
      · rw [List.getElem?_take_of_lt hj, Array.getElem?_toList, ← flat_list, Array.getElem?_toList]
        have hf : j < (flatK K.enc K.size M.toArray).size := by simp [hl]; exact hj
        rw [Array.getElem?_eq_getElem hf]
        have hjc : j < cur.size := by omega
        simp [putCells, hjc, hl, hj]
      · rw [List.getElem?_take_eq_none (by omega), cellsK_out (by rw [hl]; omega)]
    · unfold sortWorldK putRowK
      simp [Sort.ahead]
    · unfold sortWorldK putRowK
      rw [heap_grow_old _ _ (by simpa [Sort.ahead] using hk)]
      have : g ≠ k := fun e => hne (by rw [e])
      simp [putRow, mapBlock, Sort.ahead, Array.getElem?_modify, this]
end
end Go.Proofs.Ytdionganlmnlkaa
namespace Go.Proofs.Ytdionganlmnlkaa
open Go.ChangeShapes Go.WideShapes Go.ChangeAt Go.RowKit Go.Deep Go.Sort

section
variable {α : Type} (K : Knd α)
def OW (w : World) (B : Nat) (v : Value) (L : List α) : Prop :=
  (v = .slice none 0 0 ∧ L = []) ∨ ∃ g c cur, v = .slice (some ⟨g, 0, none⟩) L.length c ∧ B ≤ g ∧ Blk w g K.t cur ∧ L.length ≤ c ∧ c ≤ maxLen ∧ c * K.size ≤ cur.size ∧ cur.toList.take (L.length * K.size) = cellsK K L
end
section
variable {α : Type} {K : Knd α} {w w' : World} {B : Nat} {v : Value} {L : List α}
theorem OW.of_ol (h : OL K w B v L) : OW K w B v L := by
  obtain ⟨h1, h2⟩ := h
  rcases h2 with ⟨h2, h3⟩ | ⟨g, cap, cur, hv, hB, hg, hn, hm, hs, ht⟩
  · exact .inl ⟨h2, List.length_eq_zero_iff.1 h3⟩
  · exact .inr ⟨g, cap, cur, hv, hB, hg, hn, hm, by omega, ht⟩
theorem OW.nil (w : World) (B : Nat) : OW K w B (.slice none 0 0) [] := .inl ⟨rfl, rfl⟩
theorem take_of_lies {g : Nat} {t : TypeId} {cur : Array Value} (h : Lies K w (some ⟨g, 0, none⟩) L) (hb : Blk w g t cur) : cur.toList.take (L.length * K.size) = cellsK K L := by
  apply List.ext_getElem?
  intro j
  have hp := K.pos
  by_cases hj : j < L.length * K.size
  · have hq : j / K.size < L.length := (Nat.div_lt_iff_lt_mul hp).2 hj
    have hr : j % K.size < (K.enc L[j / K.size]).length := by rw [K.len]; exact Nat.mod_lt _ hp
    have e : j / K.size * K.size + j % K.size = j := by rw [Nat.mul_comm]; exact Nat.div_add_mod j K.size
    have h1 := cellsK_at K L (j / K.size) _ (j % K.size) _ (List.getElem?_eq_getElem hq) (List.getElem?_eq_getElem hr)
    obtain ⟨b', off', hA, _, hc⟩ := h (j / K.size) _ (List.getElem?_eq_getElem hq)
    injection hA with hA
    injection hA with hA1 hA2 _
    subst hA1 hA2
    have h2 := hc (j % K.size) _ (List.getElem?_eq_getElem hr)
    rw [Nat.zero_add, e, hb.rd] at h2
    rw [e] at h1
    rw [List.getElem?_take_of_lt hj, Array.getElem?_toList, h1]
    exact h2
  · rw [List.getElem?_take_eq_none (by omega), cellsK_out (by omega)]
theorem OW.of_own {A : Option Addr} (h : Lies K w A L) (hA : A = none ∨ ∃ (g : Nat) (cur : Array Value), A = some ⟨g, 0, none⟩ ∧ B ≤ g ∧ Blk w g K.t cur ∧ L.length * K.size ≤ cur.size) (hm : L.length ≤ maxLen) : OW K w B (.slice A L.length L.length) L := by
  rcases hA with rfl | ⟨g, cur, rfl, h1, h2, h3⟩
  · have h0 : L = [] := by
      cases L with
      | nil => rfl
      | cons x L =>
        obtain ⟨_, _, h, _⟩ := h 0 x rfl
        cases h
    subst h0
    exact .inl ⟨rfl, rfl⟩
  · exact .inr ⟨g, _, cur, rfl, h1, h2, Nat.le_refl _, hm, h3, take_of_lies h h2⟩
theorem OW.see (h : OW K w B v L) : ∃ A c, v = .slice A L.length c ∧ L.length ≤ c ∧ c ≤ maxLen ∧ Lies K w A L ∧ (A = none ∧ L = [] ∧ c = 0 ∨ ∃ g cur, A = some ⟨g, 0, none⟩ ∧ B ≤ g ∧ Blk w g K.t cur ∧ c * K.size ≤ cur.size) := by
  rcases h with ⟨rfl, rfl⟩ | ⟨g, c, cur, rfl, h1, h2, h3, h4, h5, h6⟩
  · exact ⟨none, 0, rfl, Nat.le_refl _, Nat.zero_le _, Lies.nil w none, .inl ⟨rfl, rfl, rfl⟩⟩
  · refine ⟨_, c, rfl, h3, h4, fun i x hx => ⟨g, 0, rfl, h2.lt, fun j u hu => ?_⟩, .inr ⟨g, cur, rfl, h1, h2, h5⟩⟩
    have e1 := cellsK_at K L i x j u hx hu
    have hj : i * K.size + j < L.length * K.size := by
      have := (List.getElem?_eq_some_iff.1 e1).1
      rwa [cellsK_len] at this
    rw [← h6, List.getElem?_take_of_lt hj, Array.getElem?_toList] at e1
    rw [Nat.zero_add, h2.rd]
    exact e1
theorem OW.lt (h : OW K w B v L) : ∀ g, v.ownBlock = some g → B ≤ g ∧ g < w.heap.size := fun g hg => by
  rcases h with ⟨rfl, rfl⟩ | ⟨g', c, cur, rfl, h1, h2, _⟩
  · cases hg
  · injection hg with hg
    subst hg
    exact ⟨h1, h2.lt⟩
theorem OW.type (h : OW K w B v L) : ∀ g, v.ownBlock = some g → ∃ cur, Blk w g K.t cur := fun g hg => by
  rcases h with ⟨rfl, rfl⟩ | ⟨g', c, cur, rfl, h1, h2, _⟩
  · cases hg
  · injection hg with hg
    subst hg
    exact ⟨cur, h2⟩
theorem OW.keep (h : OW K w B v L) (hk : ∀ g, v.ownBlock = some g → w'.heap[g]? = w.heap[g]?) : OW K w' B v L := by
  rcases h with h | ⟨g', c, cur, rfl, h1, h2, h3⟩
  · exact .inl h
  · exact .inr ⟨g', c, cur, rfl, h1, (hk g' rfl).trans h2, h3⟩
theorem OW.below (h : OW K w B v L) (hb : Below w.heap.size w w') : OW K w' B v L := h.keep fun g hg => hb.block g (h.lt g hg).2
theorem OW.drew (h : OW K w B v L) : OW K w.drew B v L := h.keep fun _ _ => rfl
theorem OW.grown {row : Option Nat} (h : OW K w B v L) (hg : w.grownBy w' row) (hr : ∀ g, v.ownBlock = some g → row ≠ some g) : OW K w' B v L := h.keep fun g hg' => hg.block g (h.lt g hg').2 (fun e => hr g hg' e.symm)
theorem OW.low (h : OW K w B v L) {B' : Nat} (hB : B' ≤ B) : OW K w B' v L := by
  rcases h with h | ⟨g', c, cur, rfl, h1, h2⟩
  · exact .inl h
  · exact .inr ⟨g', c, cur, rfl, by omega, h2⟩
variable {P : Program} {z : Value} {T : TypeId}
/-- A list whose room is full is appended to. -/
theorem run_full_append {ty : TypeId} {A : Option Addr} (hinfo : (P.info? K.t).map (fun i => (i.zero, i.size, i.bytes)) = some (some z, K.size, K.bytes)) (hz : z.cells.size = K.size) (hT : P.underlying T = some (.slice K.t))
    (hL : OW K w B (.slice A L.length L.length) L) {x : α} {b off c : Nat} (hM : Lies K w (some ⟨b, off, none⟩) [x]) (h63 : L.length + 1 ≤ maxLen) (hl : (L.length + 1) * K.bytes ≤ 140737488355328) (hB : B ≤ w.heap.size) :
    ∃ v' w', (Builtin.append_ #[T, T] ty #[.slice A L.length L.length, .slice (some ⟨b, off, none⟩) 1 c]).run P w = .ok v' w' ∧ OL K w' B v' (L ++ [x]) ∧ w.grownBy w' none := by
  obtain ⟨A', c', hv, _, _, hLi, hA⟩ := hL.see
  injection hv with e1 _ _
  subst e1
  rcases hA with ⟨rfl, rfl, _⟩ | ⟨g, cur, rfl, h1, h2, h3⟩
  · obtain ⟨v', w', hr, h4, h5⟩ := run_ol_append (ty := ty) (c := c) hinfo hz hT (OL.nil w B) hM (by simpa using h63) (by simpa using hl) hB
    exact ⟨v', w', hr, h4, h5⟩
  · obtain ⟨i0, hi0, hz0, hz1, hz2⟩ := info_parts hinfo
    obtain ⟨v', w', hr, h4, h5⟩ := run_append_arg_grows (P := P) w T ty K.t i0 z K.size K.bytes hT hi0 hz0 hz1 hz2 hz K.pos ⟨g, 0, none⟩ L.length L.length (cellsK K L) (cellsK_len K L) (fun j u hu => by
      obtain ⟨i, y, r, e1, e2, rfl⟩ := cellsK_inv K _ j u hu
      obtain ⟨b', off', e3, _, e4⟩ := hLi i y e1
      cases e3
      rw [addr_add, show 0 + (i * K.size + r) = 0 + i * K.size + r by omega]
      exact e4 r u e2) ⟨b, off, none⟩ 1 c (cellsK K [x]) (by rw [cellsK_len]; rfl) (fun j u hu => by
      obtain ⟨i, y, r, e1, e2, rfl⟩ := cellsK_inv K _ j u hu
      obtain ⟨b', off', e3, _, e4⟩ := hM i y e1
      cases e3
      rw [addr_add, show off + (i * K.size + r) = off + i * K.size + r by omega]
      exact e4 r u e2) (Nat.lt_succ_self _) h63 hl
    refine ⟨v', w', hr, ?_, h5⟩
    have : OL K w' w.heap.size v' (L ++ [x]) := by unfold OL; rw [cellsK_add, List.length_append]; exact h4
    exact this.low hB
end
section
variable {α : Type} [Inhabited α] {K : Knd α} {w : World} {B g c n : Nat} {L M : List α} {os : Array Obj}
theorem ow_holds (h : OW K w B (.slice (some ⟨g, 0, none⟩) L.length c) L) : HoldsK K.enc K.size w g 0 L.toArray := by
  rcases h with ⟨h, _⟩ | ⟨g', c', cur, hv, h1, h2, h3, h4, h5, h6⟩
  · cases h
  injection hv with e1 _ e3
  injection e1 with e1
  injection e1 with e1
  subst e1 e3
  intro j hj
  have hf : (flatK K.enc K.size L.toArray)[j]? = some (flatK K.enc K.size L.toArray)[j]! := by rw [getElem!_pos _ j hj]; exact Array.getElem?_eq_getElem hj
  rw [← Array.getElem?_toList, flat_list, ← h6, List.getElem?_take_of_lt (by simpa using hj), Array.getElem?_toList] at hf
  exact ⟨by rw [Nat.zero_add, h2.rd]; exact hf, h2.fz _⟩
theorem ow_sorted (h : OW K w B (.slice (some ⟨g, 0, none⟩) L.length c) L) (hl : M.length = L.length) :
    OW K (sortWorldK K.enc K.size w g 0 n M.toArray os) B (.slice (some ⟨g, 0, none⟩) L.length c) M ∧ w.grownBy (sortWorldK K.enc K.size w g 0 n M.toArray os) (some g) := by
  rcases h with ⟨h, _⟩ | ⟨g', c', cur, hv, hB, hg, hn, hm, hs, ht⟩
  · cases h
  · injection hv with e1 e2 e3
    injection e1 with e1
    injection e1 with e1
    subst e1 e3
    have hlt : g < w.heap.size := hg.lt
    have hg' : w.heap[g]? = some (.cells cur K.t (0, 0)) := hg
    have hle : L.length * K.size ≤ c * K.size := Nat.mul_le_mul_right _ hn
    have hb : (sortWorldK K.enc K.size w g 0 n M.toArray os).heap[g]? = some (.cells (putCells id 0 (flatK K.enc K.size M.toArray) cur) K.t (0, 0)) := by
      unfold sortWorldK putRowK
      rw [heap_grow_old _ _ (by simpa [Sort.ahead] using hlt)]
      simp [putRow, mapBlock, Sort.ahead, Array.getElem?_modify, hg', onCells]
    refine ⟨.inr ⟨g, c, _, by rw [hl], hB, hb, by rw [hl]; exact hn, hm, by simp [putCells]; exact hs, ?_⟩, ⟨rfl, rfl, rfl, ?_, fun k hk hne => ?_⟩⟩
    · apply List.ext_getElem?
      intro j
      rw [hl]
      by_cases hj : j < L.length * K.size
      · rw [List.getElem?_take_of_lt hj, Array.getElem?_toList, ← flat_list, Array.getElem?_toList]
        have hf : j < (flatK K.enc K.size M.toArray).size := by simp [hl]; exact hj
        rw [Array.getElem?_eq_getElem hf]
        have hjc : j < cur.size := by omega
        simp [putCells, hjc, hl, hj]
      · rw [List.getElem?_take_eq_none (by omega), cellsK_out (by rw [hl]; omega)]
    · unfold sortWorldK putRowK
      simp [Sort.ahead]
    · unfold sortWorldK putRowK
      rw [heap_grow_old _ _ (by simpa [Sort.ahead] using hk)]
      have : g ≠ k := fun e => hne (by rw [e])
      simp [putRow, mapBlock, Sort.ahead, Array.getElem?_modify, this]
end
end Go.Proofs.Ytdionganlmnlkaa
namespace Go.Proofs.Ytdionganlmnlkaa
open Go.ChangeShapes Go.WideShapes Go.ChangeAt Go.RowKit Go.Deep Go.Sort

theorem quiet_eq {P : Program} {f : FuncId} {args : Array Value} {w : World} {n : Nat} {v : Value} (h : Calls P f args (w.drewN n) fun e w' => e = .returned v ∧ w.drewN n = w') : Calls P f args (w.drewN n) fun e w'' => e = .returned v ∧ ∃ m, w'' = w.drewN m :=
  h.mono fun _ _ ⟨he, hm⟩ => ⟨he, n, hm.symm⟩
/-- A contract that leaves the world alone, in the class. -/
theorem regrown_eq {P : Program} {f : FuncId} {args : Array Value} {w : World} {d : Nat} {os : Array Obj} {v : Value}
    (h : Calls P f args (grow (redrawn w d) os) fun e w' => e = .returned v ∧ grow (redrawn w d) os = w') : Calls P f args (grow (redrawn w d) os) fun e w'' => e = .returned v ∧ ∃ p : Regrown, w'' = grow (redrawn w p.d) p.os :=
  h.mono fun _ _ ⟨he, hb⟩ => ⟨he, ⟨d, os⟩, hb.symm⟩
theorem Blk.gr {w : World} {g : Nat} {t : TypeId} {cs : Array Value} (h : Blk w g t cs) (d : Nat) (os : Array Obj) (i : Nat) : (grow (redrawn w d) os).cell? ⟨g, i, none⟩ = cs[i]? := (h.below (below_regrown w d os)).rd i
theorem class_below {w w' : World} (h : ∃ p : Regrown, w' = grow (redrawn w p.d) p.os) : Below w.heap.size w w' := by
  obtain ⟨p, rfl⟩ := h
  exact below_regrown w p.d p.os
end Go.Proofs.Ytdionganlmnlkaa
namespace Go.Proofs.Ytdionganlmnlkaa
open Go.ChangeShapes Go.WideShapes Go.ChangeAt Go.RowKit Go.Deep

/-- Outside S nothing has turned. -/
structure Frm (S : Nat → Prop) (w w' : World) : Prop where
  os : w'.os = w.os
  tape : w'.tape = w.tape
  output : w'.output = w.output
  size : w.heap.size ≤ w'.heap.size
  block : ∀ k, k < w.heap.size → ¬ S k → w'.heap[k]? = w.heap[k]?

section
variable {S : Nat → Prop} {a w w' : World}
theorem Frm.refl (S : Nat → Prop) (w : World) : Frm S w w := ⟨rfl, rfl, rfl, Nat.le_refl _, fun _ _ _ => rfl⟩
theorem Frm.call (h : Frm S a w) (hb : Below w.heap.size w w') : Frm S a w' :=
  ⟨hb.os.trans h.os, hb.tape.trans h.tape, hb.output.trans h.output, Nat.le_trans h.size hb.size, fun k hk hn => (hb.block k (Nat.lt_of_lt_of_le hk h.size)).trans (h.block k hk hn)⟩
theorem Frm.alloc (h : Frm S a w) (o : Obj) : Frm S a (w.alloc o) := h.call (bel_alloc (bel_refl w) o)
theorem Frm.drew (h : Frm S a w) : Frm S a w.drew := ⟨h.os, h.tape, h.output, h.size, h.block⟩
theorem Frm.drewN (h : Frm S a w) (n : Nat) : Frm S a (w.drewN n) := ⟨h.os, h.tape, h.output, h.size, h.block⟩
theorem Frm.set (h : Frm S a w) {b o : Nat} (hb : S b ∨ a.heap.size ≤ b) (u : Value) : Frm S a (w.setCell ⟨b, o, none⟩ u) :=
  ⟨h.os, h.tape, h.output, by simpa [World.setCell] using h.size, fun k hk hn => (Below.heap_setCell w ⟨b, o, none⟩ u k (by
    rintro rfl
    rcases hb with hb | hb
    · exact hn hb
    · omega)).trans (h.block k hk hn)⟩
theorem Frm.below (h : Frm S a w) (hS : ∀ k, S k → a.heap.size ≤ k) : Below a.heap.size a w :=
  ⟨h.os, h.tape, h.output, h.size, fun k hk => h.block k hk (fun hk' => by have := hS k hk'; omega)⟩
theorem Frm.then_ {S' : Nat → Prop} (h : Frm S a w) (k : Frm S' w w') (hS : ∀ x, S' x → x < a.heap.size → S x) : Frm S a w' :=
  ⟨k.os.trans h.os, k.tape.trans h.tape, k.output.trans h.output, Nat.le_trans h.size k.size, fun i hi hn => (k.block i (Nat.lt_of_lt_of_le hi h.size) (fun hs => hn (hS i hs hi))).trans (h.block i hi hn)⟩
theorem Frm.row {b t n : Nat} {f : Nat → Value} (h : Frm S w w') (hr : w.rowIs b t n f) (hn : ¬ S b) : w'.rowIs b t n f := hr.of_block (h.block b hr.lt hn)
theorem Frm.blk {g : Nat} {t : TypeId} {cs : Array Value} (h : Frm S w w') (hr : Blk w g t cs) (hn : ¬ S g) : Blk w' g t cs := (h.block g hr.lt hn).trans hr
/-- Below B. -/
theorem Frm.bel (h : Frm S w w') {a : World} (hw : Below a.heap.size a w) (hS : ∀ k, S k → a.heap.size ≤ k) : Below a.heap.size a w' :=
  hw.trans ⟨h.os, h.tape, h.output, h.size, fun k hk => h.block k (Nat.lt_of_lt_of_le hk hw.size) (fun hs => by have := hS k hs; omega)⟩
end


theorem Frm.cell {S : Nat → Prop} {w w' : World} (h : Frm S w w') {b : Nat} (hlt : b < w.heap.size) (hn : ¬ S b) (o : Nat) : w'.cell? ⟨b, o, none⟩ = w.cell? ⟨b, o, none⟩ := by
  unfold World.cell?
  rw [h.block b hlt hn]
theorem bel_grown {a w w' : World} {row : Option Nat} (h : Below a.heap.size a w) (hg : w.grownBy w' row) (hr : ∀ z, row = some z → a.heap.size ≤ z) : Below a.heap.size a w' :=
  ⟨hg.os.trans h.os, hg.tape.trans h.tape, hg.output.trans h.output, Nat.le_trans h.size hg.size, fun k hk => (hg.block k (Nat.lt_of_lt_of_le hk h.size) (fun e => by have := hr k e.symm; omega)).trans (h.block k hk)⟩
theorem below_of_grown' {w w' : World} (h : w.grownBy w' none) : Below w.heap.size w w' := ⟨h.os, h.tape, h.output, h.size, fun k hk => h.block k hk (by simp)⟩
theorem Frm.grown {S : Nat → Prop} {a w w' : World} {row : Option Nat} (h : Frm S a w) (hg : w.grownBy w' row) (hr : ∀ g, row = some g → S g ∨ a.heap.size ≤ g) : Frm S a w' :=
  ⟨hg.os.trans h.os, hg.tape.trans h.tape, hg.output.trans h.output, Nat.le_trans h.size hg.size, fun k hk hn => (hg.block k (Nat.lt_of_lt_of_le hk h.size) (fun e => by
    rcases hr k e.symm with h1 | h1
    · exact hn h1
    · omega)).trans (h.block k hk hn)⟩
theorem Frm.of_below {S : Nat → Prop} {w w' : World} (h : Below w.heap.size w w') : Frm S w w' := (Frm.refl S w).call h
theorem Blk.grownX {w w' : World} {g : Nat} {t : TypeId} {cs : Array Value} {row : Option Nat} (h : Blk w g t cs) (hb : w.grownBy w' row) (hne : some g ≠ row) : Blk w' g t cs := (hb.block g h.lt hne).trans h
theorem ty_ne {w : World} {a b t u : Nat} {cs ds : Array Value} (ha : w.heap[a]? = some (.cells cs t (0, 0))) (hb : w.heap[b]? = some (.cells ds u (0, 0))) (hne : t ≠ u) : a ≠ b := by
  rintro rfl
  rw [ha] at hb
  injection hb with e
  injection e with _ e
  exact hne e
theorem size1 {w : World} {B : Nat} (h : B ≤ w.heap.size) (o : Obj) : B ≤ (w.alloc o).heap.size := by
  show B ≤ (w.heap.push o).size
  simp
  omega

theorem step_ol_append {α : Type} {K : Knd α} {w : World} {B : Nat} {v : Value} {L : List α} {P : Program} {z : Value} {T : TypeId} (hinfo : (P.info? K.t).map (fun i => (i.zero, i.size, i.bytes)) = some (some z, K.size, K.bytes)) (hz : z.cells.size = K.size) (hT : P.underlying T = some (.slice K.t))
    {ops : Array Oper} {o : Oper} {a : Act} {K' : Act → World → Prop} {Q : Exit → Act → World → Prop} {E : Prop} (hgd : o.guard = none) (s x : Operand)
    (ho : o.op = .call { callee := .builtin .append, args := #[s, x], argTypes := #[T, T] }) (hs : a.eval s = v)
    (hL : OL K w B v L) {A : Option Addr} {M : List α} {c m : Nat} (hx : a.eval x = .slice A m c) (hm : M.length = m) (hM : Lies K w A M) (h63 : L.length + m ≤ maxLen) (hl : (L.length + m) * K.bytes ≤ 140737488355328) (hB : B ≤ w.heap.size)
    (h : ∀ v' w', OL K w' B v' (L ++ M) → w.grownBy w' v.ownBlock → K' (a.put o.dst v') w') : if Region.wanted o (yielded ops a.tmps) = true then Oper.wp P o a w K' Q else E := by
  have hw : Region.wanted o (yielded ops a.tmps) = true := by simp [Region.wanted, hgd]
  rw [if_pos hw]
  subst hm
  obtain ⟨v', w', hr, h2, h3⟩ := run_ol_append (ty := o.type) hinfo hz hT hL hM (c := c) h63 hl hB
  unfold Oper.wp execOp
  simp only [ho, resolve, invoke, builtin, Sem.run_bind, Sem.run_pure, Result.andThen_ok, List.map_toArray, List.map_cons, List.map_nil, hs, hx, hr]
  exact h v' w' h2 h3


end Go.Proofs.Ytdionganlmnlkaa
namespace Go.Proofs.Ytdionganlmnlkaa
open Go.ChangeShapes Go.WideShapes Go.ChangeAt Go.RowKit Go.Deep

/-- A world that meets S. -/
structure Held (S : World → Prop) where
  w : World
  h : S w
theorem held_of {S S' : World → Prop} (h : S = S') (x : Held S) : S' x.w := by
  subst h
  exact x.h
theorem held_in {S S' : World → Prop} {w : World} (h : S = S') (h' : S' w) : S w := by
  subst h
  exact h'
/-- The class of these. -/
def Cls (S : World → Prop) (w : World) : Prop := ∃ x : Held S, w = x.w
theorem Cls.of {S : World → Prop} {w : World} (h : S w) : Cls S w := ⟨⟨w, h⟩, rfl⟩
theorem Cls.out {S : World → Prop} {w : World} (h : Cls S w) : S w := by
  obtain ⟨x, rfl⟩ := h
  exact x.h

/-- What only reads: it yields a value or halts. -/
def reader (o : Oper) : Bool := match o.op with
  | .move _ | .assign _ | .pick _ _ _ | .build _ _ | .load _ _ | .nilCheck _ | .binOp _ _ _ _ _ | .unOp _ _ _ | .slice _ _ _ _ _ | .fieldAddr _ _ _ | .field _ _ _ | .indexAddr _ _ _ | .index _ _ _ | .lookup _ _ _ _ | .extract _ _ => true
  | .call c => match c.callee with
    | .builtin .len | .builtin .cap | .builtin .min | .builtin .max => true
    | _ => false
  | _ => false

section
variable {P : Program} {ops : Array Oper} {Q : Exit → Act → World → Prop} {md : Region.Mode} {C : World → Prop} {n : Nat}

def OnlyV (s : Sem Next) : Prop := ∀ (P : Program) (w : World) (x : Next) (w' : World), s.run P w = .ok x w' → ∃ u, x = .value u
theorem OnlyV.value (v : Value) : OnlyV (pure (.value v)) := fun P w x w' h => by
  simp only [Sem.run_pure] at h
  injection h with h _
  exact ⟨v, h.symm⟩
theorem OnlyV.bind {α : Type} (s : Sem α) {f : α → Sem Next} (hf : ∀ x, OnlyV (f x)) : OnlyV (s >>= f) := fun P w x w' h => by
  rw [Sem.run_bind] at h
  cases hs : s.run P w with
  | ok y w1 =>
    rw [hs] at h
    exact hf y P w1 x w' h
  | halt y w1 =>
    rw [hs] at h
    cases h
theorem OnlyV.v (s : Sem Value) : OnlyV (do pure (.value (← s))) := OnlyV.bind s fun _ => OnlyV.value _
theorem OnlyV.nil : OnlyV (runtimePanic .nilDeref) := by
  intro P w x w' h
  simp [runtimePanic, goPanic] at h
theorem OnlyV.unsupported (e : Unsupported) : OnlyV (Go.unsupported e) := fun P w x w' h => by simp [Go.unsupported] at h

theorem reader_value {o : Oper} (hr : reader o = true) (ρ : Operand → Value) : OnlyV (execOp ρ o) := by
  unfold reader at hr
  unfold execOp
  split at hr
  all_goals rename_i e
  all_goals simp only [e]
  all_goals first
    | exact OnlyV.v _
    | exact OnlyV.value _
    | (cases hr; done)
    | skip
  · exact OnlyV.bind _ fun _ => OnlyV.value _
  · split
    · exact OnlyV.nil
    · exact OnlyV.nil
    · exact OnlyV.nil
    · split
      · exact OnlyV.nil
      · refine OnlyV.bind _ fun p => OnlyV.bind _ fun b => ?_
        split
        · exact OnlyV.bind _ fun _ => OnlyV.value _
        · exact OnlyV.value _
      · exact OnlyV.value _
    · exact OnlyV.value _
  · rename_i c
    have hb : ∃ b, c.callee = .builtin b ∧ (b = .len ∨ b = .cap ∨ b = .min ∨ b = .max) := by
      revert hr
      cases hc : c.callee with
      | builtin b => cases b <;> simp
      | value f => simp
      | invoke r m => simp
    obtain ⟨b, hc, hb⟩ := hb
    intro P w x w' h
    simp only [resolve, hc, Sem.run_bind, Sem.run_pure, Result.andThen_ok, invoke] at h
    rcases hb with rfl | rfl | rfl | rfl <;> simp only [builtin] at h <;> exact OnlyV.v _ P w x w' h

theorem quiet_runs {o : Oper} {a : Act} {v : Value} (hr : reader o = true) (h : ∀ w, C w → o.quietAt P a C w v) (w : World) (hw : C w) : (execOp a.eval o).run P w = .ok (.value v) w := by
  have h1 := h w hw
  unfold Oper.quietAt at h1
  cases hx : (execOp a.eval o).run P w with
  | ok x w' =>
    rw [hx] at h1
    obtain ⟨u, rfl⟩ := reader_value hr a.eval P w x w' hx
    obtain ⟨e1, e2⟩ := h1
    rw [e1, e2]
  | halt x w' =>
    rw [hx] at h1
    exact h1.elim

/-- Whatever order is picked; the class holds behind each operation ahead of the tail. -/
def wpAnyT (P : Program) (md : Region.Mode) (ops : Array Oper) (Q : Exit → Act → World → Prop) (C : World → Prop) (n : Nat) : Nat → Array Bool → Act → World → Prop
  | 0, listed, a, w => Region.ready md ops listed = [] ∧ Q .normal a w
  | f + 1, listed, a, w => (Region.ready md ops listed = [] → Q .normal a w) ∧
      ∀ i ∈ Region.ready md ops listed, wpOp P ops Q i (fun a' w' => (i < n → C w') ∧ wpAnyT P md ops Q C n f (listed.setIfInBounds i true) a' w') a w
theorem wpAny_of_T : ∀ (f : Nat) (listed : Array Bool) (a : Act) (w : World), wpAnyT P md ops Q C n f listed a w → wpAny P md ops Q f listed a w
  | 0, _, _, _, h => h
  | f + 1, _, _, _, h => ⟨h.1, fun i hi => wpOp_mono (fun a' w' h' => wpAny_of_T f _ a' w' h'.2) (h.2 i hi)⟩

/-- No tail, or a tail that waits for all. -/
def tailB (md : Region.Mode) (ops : Array Oper) (n : Nat) : Bool := decide (n = ops.size) || (decide (n < ops.size) && Region.sinkB md ops n && Region.chainB md ops n)
theorem tail_last {listed : Array Bool} (ht : tailB md ops n = true) (inv : HeadInv md ops n listed) {i : Nat} (hi : i < n) (hun : listed.getD i true = false) {j : Nat} (hj : j ∈ Region.ready md ops listed) : j < n := by
  simp only [tailB, Bool.or_eq_true, Bool.and_eq_true, decide_eq_true_eq] at ht
  rcases ht with rfl | ⟨⟨h1, h2⟩, h3⟩
  · obtain ⟨_, oj, hoj, _⟩ := mem_ready.1 hj
    exact (Array.getElem?_eq_some_iff.1 hoj).1
  · rcases Nat.lt_or_ge j n with h | h
    · exact h
    · exact absurd hj (tail_waits h2 h3 h1 inv (n - i) i rfl hi hun j h)

theorem wpAnyT_first {i : Nat} {oi : Oper} {v : Value} (hi : ops[i]? = some oi) (hsel : ∀ (j : Nat) (o : Oper) cs b, ops[j]? = some o → o.op ≠ .select cs b)
    (hQ : ∀ c a w, Q (.panic c) (a.put oi.dst v) w → Q (.panic c) a w) (ht : tailB md ops n = true) (hin : i < n) :
    ∀ (fuel : Nat) (listed : Array Bool) (a : Act) (w : World), HeadInv md ops n listed →
      (∀ j oj, ops[j]? = some oj → j ≠ i → listed.getD j true = false → (∀ e ∈ oj.after, Region.binds md e = true → e.on ≠ i) → oi.apart ops oj = true) →
      i ∈ Region.ready md ops listed → YieldsIf P ops C oi v a → C w →
      wpAnyT P md ops Q C n fuel (listed.setIfInBounds i true) (a.put oi.dst v) w → wpAnyT P md ops Q C n (fuel + 1) listed a w := by
  intro fuel
  induction fuel with
  | zero =>
    intro listed a w inv _ hr hy hS H
    refine ⟨fun h => (by rw [h] at hr; cases hr), fun j hj => ?_⟩
    by_cases hji : j = i
    · subst hji; exact hy.wpOp hi hS ⟨fun _ => hS, H⟩
    · have := ready_mono hj hji
      rw [H.1] at this
      cases this
  | succ fuel ih =>
    intro listed a w inv hfree hr hy hS H
    refine ⟨fun h => (by rw [h] at hr; cases hr), fun j hj => ?_⟩
    by_cases hji : j = i
    · subst hji; exact hy.wpOp hi hS ⟨fun _ => hS, H⟩
    · have hjn : j < n := tail_last ht inv hin (mem_ready.1 hr).1 hj
      have h1 := H.2 j (ready_mono hj hji)
      obtain ⟨hjun, oj, hoj, hall⟩ := mem_ready.1 hj
      have hnot : ∀ e ∈ oj.after, Region.binds md e = true → e.on ≠ i := fun e he hb heq => by
        have h1 := hall e he hb
        have h0 := (mem_ready.1 hr).1
        rw [heq] at h1
        rcases Nat.lt_or_ge i listed.size with h' | h'
        · simp [h'] at h0 h1; rw [h0] at h1; cases h1
        · simp [Array.getElem?_eq_none h'] at h1
      have h2 := wpOp_putIf hoj (hfree j oj hoj hji hjun hnot) (fun cs b => hsel i oi cs b hi) (fun cs b => hsel j oj cs b hoj) hQ hy h1
      have hfree' : ∀ k ok, ops[k]? = some ok → k ≠ i → (listed.setIfInBounds j true).getD k true = false →
          (∀ e ∈ ok.after, Region.binds md e = true → e.on ≠ i) → oi.apart ops ok = true := fun k ok hk hki hun hno => by
        refine hfree k ok hk hki ?_ hno
        by_cases hjk : j = k
        · subst hjk; exact hjun
        · rw [getD_set_ne true hjk] at hun; exact hun
      refine wpOp_mono (fun a' w' h3 => ⟨h3.2.1, ih (listed.setIfInBounds j true) a' w' (inv.set hj hjn) hfree' (ready_mono hr (Ne.symm hji)) h3.1 (h3.2.1 hjn) ?_⟩) h2
      rw [Array.setIfInBounds_comm _ _ hji]
      exact h3.2.2

/-- The tail: one behind the other. -/
def tailSeq (md : Region.Mode) (ops : Array Oper) : List Nat → Array Bool → Bool
  | [], listed => (Region.ready md ops listed).isEmpty
  | i :: r, listed => decide (Region.ready md ops listed = [i]) && tailSeq md ops r (listed.setIfInBounds i true)
/-- The plan fits the region: each reader may come up and is free of what may come ahead of it; what acts is the one that may come up. -/
def planB (md : Region.Mode) (ops : Array Oper) (n : Nat) (tail : List Nat) : List (Nat × Bool) → Array Bool → Bool
  | [], listed => tailSeq md ops tail listed
  | (i, true) :: r, listed => decide (i < n) && ((ops[i]?).map reader).getD false && (Region.ready md ops listed).contains i && Region.free md ops listed i && planB md ops n tail r (listed.setIfInBounds i true)
  | (i, false) :: r, listed => decide (i < n) && decide (Region.ready md ops listed = [i]) && planB md ops n tail r (listed.setIfInBounds i true)

def wpTail (P : Program) (ops : Array Oper) (Q : Exit → Act → World → Prop) : List Nat → Act → World → Prop
  | [], a, w => Q .normal a w
  | i :: r, a, w => wpOp P ops Q i (wpTail P ops Q r) a w
def wpPlan (P : Program) (ops : Array Oper) (Q : Exit → Act → World → Prop) (C : World → Prop) (tail : List Nat) : List (Nat × Bool) → Act → World → Prop
  | [], a, w => wpTail P ops Q tail a w
  | (i, true) :: r, a, w => qOp P ops C i (fun a' => wpPlan P ops Q C tail r a' w) a
  | (i, false) :: r, a, w => wpOp P ops Q i (fun a' w' => C w' ∧ wpPlan P ops Q C tail r a' w') a w

theorem tail_sound : ∀ (tail : List Nat) (listed : Array Bool) (a : Act) (w : World), (∀ i ∈ tail, n ≤ i) → tailSeq md ops tail listed = true → wpTail P ops Q tail a w → wpAnyT P md ops Q C n tail.length listed a w
  | [], _, _, _, _, hB, h => ⟨by simpa [tailSeq] using hB, h⟩
  | i :: r, listed, a, w, hn, hB, h => by
    simp only [tailSeq, Bool.and_eq_true, decide_eq_true_eq] at hB
    refine ⟨fun h0 => (by rw [hB.1] at h0; cases h0), fun j hj => ?_⟩
    rw [hB.1] at hj
    obtain rfl : j = i := by simpa using hj
    exact wpOp_mono (fun a' w' h' => ⟨fun hlt => absurd hlt (by have := hn j (by simp); omega), tail_sound r _ a' w' (fun k hk => hn k (by simp [hk])) hB.2 h'⟩) h

theorem plan_sound (hs : Region.noSelect ops = true) (hQ : ∀ c a d v w, Q (.panic c) (Act.put a d v) w → Q (.panic c) a w) (ht : tailB md ops n = true) {tail : List Nat} (hn : ∀ i ∈ tail, n ≤ i) :
    ∀ (r : List (Nat × Bool)) (listed : Array Bool) (a : Act) (w : World), HeadInv md ops n listed → C w → planB md ops n tail r listed = true → wpPlan P ops Q C tail r a w → wpAnyT P md ops Q C n (r.length + tail.length) listed a w
  | [], listed, a, w, _, _, hB, h => by
    rw [List.length_nil, Nat.zero_add]
    exact tail_sound tail listed a w hn hB h
  | (i, true) :: r, listed, a, w, inv, hC, hB, h => by
    simp only [planB, Bool.and_eq_true, decide_eq_true_eq] at hB
    obtain ⟨⟨⟨⟨h1, h2⟩, h3⟩, h4⟩, h5⟩ := hB
    cases ho : ops[i]? with
    | none => rw [ho] at h2; cases h2
    | some o =>
      rw [ho] at h2
      have h2' : reader o = true := h2
      obtain ⟨v, hy, hK⟩ := yieldsIn_of_qOp ho h
      have hy' : YieldsIf P ops C o v a := hy.imp (fun ⟨hw, hv⟩ => ⟨hw, fun w' hw' => quiet_runs h2' hv w' hw'⟩) id
      rw [List.length_cons, Nat.add_right_comm]
      have h3' : i ∈ Region.ready md ops listed := by simpa using h3
      exact wpAnyT_first ho (Region.noSelect_spec hs) (fun c a w => hQ c a _ _ w) ht h1 _ listed a w inv (Region.free_spec ho h4) h3' hy' hC
        (plan_sound hs hQ ht hn r _ _ w (inv.set h3' h1) hC h5 hK)
  | (i, false) :: r, listed, a, w, inv, hC, hB, h => by
    simp only [planB, Bool.and_eq_true, decide_eq_true_eq] at hB
    obtain ⟨⟨h1, h2⟩, h3⟩ := hB
    rw [List.length_cons, Nat.add_right_comm]
    refine ⟨fun h0 => (by rw [h2] at h0; cases h0), fun j hj => ?_⟩
    have hj' := hj
    rw [h2] at hj
    obtain rfl : j = i := by simpa using hj
    exact wpOp_mono (fun a' w' h' => ⟨fun _ => h'.1, plan_sound hs hQ ht hn r _ a' w' (inv.set hj' h1) h'.1 h3 h'.2⟩) h

/-- What is asked of a region's text: one Bool. -/
def planOK (ops : Array Oper) (n : Nat) (r : List (Nat × Bool)) (tail : List Nat) : Bool :=
  Region.noSelect ops && tailB .any ops n && decide (r.length + tail.length = ops.size) && (tail.all fun i => decide (n ≤ i)) && planB .any ops n tail r (Array.replicate ops.size false)

/-- **A REGION BY A PLAN.** -/
theorem wp_region_plan {S : World → Prop} {id : Nat} {a : Act} {w : World} {l : List Oper} (n : Nat) (r : List (Nat × Bool)) (tail : List Nat) (hm : P.follows .mixedOrders = true) (hB : planOK l.toArray n r tail = true)
    (hS : S w.drew) (h : wpPlan P l.toArray (NoPanic Q) (Cls S) tail r a w.drew) : (Code.region id l.toArray true).wp P Q a w := by
  refine wp_region_noPanic ?_
  simp only [planOK, Bool.and_eq_true, decide_eq_true_eq] at hB
  obtain ⟨⟨⟨⟨h1, h2⟩, h3⟩, h4⟩, h5⟩ := hB
  have inv0 : HeadInv .any l.toArray n (Array.replicate l.toArray.size false) :=
    ⟨by simp, fun j oj _ hl => (by rw [getD_replicate_false] at hl; cases hl), fun t _ ht => getD_in (by simpa using ht) (getD_replicate_false _ _)⟩
  refine wp_region_any hm (wpAny_of_T (C := Cls S) (n := n) _ _ _ _ ?_)
  have := plan_sound (Q := NoPanic Q) (C := Cls S) h1 (fun _ _ _ _ _ h => h) h2 (tail := tail) (fun i hi => by have := List.all_eq_true.1 h4 i hi; simpa using this) r _ a w.drew inv0 (Cls.of hS) h5 h
  rw [h3] at this
  exact this

/-! The steps of such a walk. -/
section
variable {S : World → Prop} {tail : List Nat} {r : List (Nat × Bool)} {a : Act} {w : World} {i : Nat} {o : Oper}
theorem plan_q (hi : ops[i]? = some o) (hg : o.guard = none) (h : ∀ K : Act → Prop, (∀ a', wpPlan P ops Q C tail r a' w → K a') → o.quiet P a C K) : wpPlan P ops Q C tail ((i, true) :: r) a w := by
  show qOp P ops C i _ a
  unfold qOp
  simp only [hi, Region.wanted, hg, if_true]
  exact h _ fun _ h => h
theorem plan_a (hi : ops[i]? = some o) (hg : o.guard = none) (h : ∀ K : Act → World → Prop, (∀ a' w', S w' → wpPlan P ops Q (Cls S) tail r a' w' → K a' w') → o.wp P a w K Q) : wpPlan P ops Q (Cls S) tail ((i, false) :: r) a w := by
  show wpOp P ops Q i _ a w
  unfold wpOp
  simp only [hi, Region.wanted, hg, if_true]
  exact .inl (h _ fun _ _ hs h => ⟨Cls.of hs, h⟩)
theorem plan_t (h : wpTail P ops Q tail a w) : wpPlan P ops Q C tail [] a w := h
theorem tail_a {r : List Nat} (hi : ops[i]? = some o) (hg : o.guard = none) (h : ∀ K : Act → World → Prop, (∀ a' w', wpTail P ops Q r a' w' → K a' w') → o.wp P a w K Q) : wpTail P ops Q (i :: r) a w := by
  show wpOp P ops Q i _ a w
  unfold wpOp
  simp only [hi, Region.wanted, hg, if_true]
  exact .inl (h _ fun _ _ h => h)
theorem tail_nil (h : Q .normal a w) : wpTail P ops (NoPanic Q) [] a w := h
theorem plan_nil (h : Q .normal a w) : wpPlan P ops (NoPanic Q) C [] [] a w := h
end
end

/-- append of one list to another, as an operation by itself. -/
theorem op_ol_append {α : Type} {K : Knd α} {w : World} {B : Nat} {v : Value} {L : List α} {P : Program} {z : Value} {T : TypeId} (hinfo : (P.info? K.t).map (fun i => (i.zero, i.size, i.bytes)) = some (some z, K.size, K.bytes)) (hz : z.cells.size = K.size) (hT : P.underlying T = some (.slice K.t))
    {o : Oper} {a : Act} {K' : Act → World → Prop} {Q : Exit → Act → World → Prop} (s x : Operand)
    (ho : o.op = .call { callee := .builtin .append, args := #[s, x], argTypes := #[T, T] }) (hs : a.eval s = v)
    (hL : OL K w B v L) {A : Option Addr} {M : List α} {c m : Nat} (hx : a.eval x = .slice A m c) (hm : M.length = m) (hM : Lies K w A M) (h63 : L.length + m ≤ maxLen) (hl : (L.length + m) * K.bytes ≤ 140737488355328) (hB : B ≤ w.heap.size)
    (h : ∀ v' w', OL K w' B v' (L ++ M) → w.grownBy w' v.ownBlock → K' (a.put o.dst v') w') : Oper.wp P o a w K' Q := by
  subst hm
  obtain ⟨v', w', hr, h2, h3⟩ := run_ol_append (ty := o.type) hinfo hz hT hL hM (c := c) h63 hl hB
  unfold Oper.wp execOp
  simp only [ho, resolve, invoke, builtin, Sem.run_bind, Sem.run_pure, Result.andThen_ok, List.map_toArray, List.map_cons, List.map_nil, hs, hx, hr]
  exact h v' w' h2 h3
end Go.Proofs.Ytdionganlmnlkaa
namespace Go.Proofs.Ytdionganlmnlkaa
open Go.ChangeShapes Go.WideShapes Go.ChangeAt Go.RowKit Go.Deep

inductive Pl where
  | done : Pl
  | q : Nat → Pl → Pl
  | a : Nat → Pl → Pl
  | fork : Nat → Pl → Nat → Pl → Pl

section
variable {P : Program} {ops : Array Oper} {Q : Exit → Act → World → Prop} {md : Region.Mode} {C : World → Prop} {n : Nat}
def treeB (md : Region.Mode) (ops : Array Oper) (n : Nat) (tail : List Nat) : Nat → Pl → Array Bool → Bool
  | f, .done, listed => decide (f = tail.length) && tailSeq md ops tail listed
  | f + 1, .q i r, listed => decide (i < n) && ((ops[i]?).map reader).getD false && (Region.ready md ops listed).contains i && Region.free md ops listed i && treeB md ops n tail f r (listed.setIfInBounds i true)
  | f + 1, .a i r, listed => decide (i < n) && decide (Region.ready md ops listed = [i]) && treeB md ops n tail f r (listed.setIfInBounds i true)
  | f + 1, .fork i ri j rj, listed => decide (i < n) && decide (j < n) && decide (Region.ready md ops listed = [i, j]) && treeB md ops n tail f ri (listed.setIfInBounds i true) && treeB md ops n tail f rj (listed.setIfInBounds j true)
  | 0, _, _ => false

def wpTree (P : Program) (ops : Array Oper) (Q : Exit → Act → World → Prop) (C : World → Prop) (tail : List Nat) : Pl → Act → World → Prop
  | .done, a, w => wpTail P ops Q tail a w
  | .q i r, a, w => qOp P ops C i (fun a' => wpTree P ops Q C tail r a' w) a
  | .a i r, a, w => wpOp P ops Q i (fun a' w' => C w' ∧ wpTree P ops Q C tail r a' w') a w
  | .fork i ri j rj, a, w => wpOp P ops Q i (fun a' w' => C w' ∧ wpTree P ops Q C tail ri a' w') a w ∧ wpOp P ops Q j (fun a' w' => C w' ∧ wpTree P ops Q C tail rj a' w') a w

theorem tree_sound (hs : Region.noSelect ops = true) (hQ : ∀ c a d v w, Q (.panic c) (Act.put a d v) w → Q (.panic c) a w) (ht : tailB md ops n = true) {tail : List Nat} (hn : ∀ i ∈ tail, n ≤ i) :
    ∀ (f : Nat) (r : Pl) (listed : Array Bool) (a : Act) (w : World), HeadInv md ops n listed → C w → treeB md ops n tail f r listed = true → wpTree P ops Q C tail r a w → wpAnyT P md ops Q C n f listed a w
  | f, .done, listed, a, w, _, _, hB, h => by
    simp only [treeB, Bool.and_eq_true, decide_eq_true_eq] at hB
    rw [hB.1]
    exact tail_sound tail listed a w hn hB.2 h
  | 0, .q _ _, _, _, _, _, _, hB, _ => by simp [treeB] at hB
  | 0, .a _ _, _, _, _, _, _, hB, _ => by simp [treeB] at hB
  | 0, .fork _ _ _ _, _, _, _, _, _, hB, _ => by simp [treeB] at hB
  | f + 1, .q i r, listed, a, w, inv, hC, hB, h => by
    simp only [treeB, Bool.and_eq_true, decide_eq_true_eq] at hB
    obtain ⟨⟨⟨⟨h1, h2⟩, h3⟩, h4⟩, h5⟩ := hB
    cases ho : ops[i]? with
    | none => rw [ho] at h2; cases h2
    | some o =>
      rw [ho] at h2
      have h2' : reader o = true := h2
      obtain ⟨v, hy, hK⟩ := yieldsIn_of_qOp ho h
      have hy' : YieldsIf P ops C o v a := hy.imp (fun ⟨hw, hv⟩ => ⟨hw, fun w' hw' => quiet_runs h2' hv w' hw'⟩) id
      have h3' : i ∈ Region.ready md ops listed := by simpa using h3
      exact wpAnyT_first ho (Region.noSelect_spec hs) (fun c a w => hQ c a _ _ w) ht h1 _ listed a w inv (Region.free_spec ho h4) h3' hy' hC
        (tree_sound hs hQ ht hn f r _ _ w (inv.set h3' h1) hC h5 hK)
  | f + 1, .a i r, listed, a, w, inv, hC, hB, h => by
    simp only [treeB, Bool.and_eq_true, decide_eq_true_eq] at hB
    obtain ⟨⟨h1, h2⟩, h3⟩ := hB
    refine ⟨fun h0 => (by rw [h2] at h0; cases h0), fun j hj => ?_⟩
    have hj' := hj
    rw [h2] at hj
    obtain rfl : j = i := by simpa using hj
    exact wpOp_mono (fun a' w' h' => ⟨fun _ => h'.1, tree_sound hs hQ ht hn f r _ a' w' (inv.set hj' h1) h'.1 h3 h'.2⟩) h
  | f + 1, .fork i ri j rj, listed, a, w, inv, hC, hB, h => by
    simp only [treeB, Bool.and_eq_true, decide_eq_true_eq] at hB
    obtain ⟨⟨⟨⟨h1, h2⟩, h3⟩, h4⟩, h5⟩ := hB
    refine ⟨fun h0 => (by rw [h3] at h0; cases h0), fun k hk => ?_⟩
    have hk' := hk
    rw [h3] at hk
    rcases (show k = i ∨ k = j by simpa using hk) with rfl | rfl
    · exact wpOp_mono (fun a' w' h' => ⟨fun _ => h'.1, tree_sound hs hQ ht hn f ri _ a' w' (inv.set hk' h1) h'.1 h4 h'.2⟩) h.1
    · exact wpOp_mono (fun a' w' h' => ⟨fun _ => h'.1, tree_sound hs hQ ht hn f rj _ a' w' (inv.set hk' h2) h'.1 h5 h'.2⟩) h.2

def treeOK (ops : Array Oper) (n : Nat) (r : Pl) (tail : List Nat) : Bool :=
  Region.noSelect ops && tailB .any ops n && (tail.all fun i => decide (n ≤ i)) && treeB .any ops n tail ops.size r (Array.replicate ops.size false)

/-- **A REGION BY A TREE.** -/
theorem wp_region_tree {S : World → Prop} {id : Nat} {a : Act} {w : World} {l : List Oper} (n : Nat) (r : Pl) (tail : List Nat) (hm : P.follows .mixedOrders = true) (hB : treeOK l.toArray n r tail = true)
    (hS : S w.drew) (h : wpTree P l.toArray (NoPanic Q) (Cls S) tail r a w.drew) : (Code.region id l.toArray true).wp P Q a w := by
  refine wp_region_noPanic ?_
  simp only [treeOK, Bool.and_eq_true] at hB
  obtain ⟨⟨⟨h1, h2⟩, h4⟩, h5⟩ := hB
  have inv0 : HeadInv .any l.toArray n (Array.replicate l.toArray.size false) :=
    ⟨by simp, fun j oj _ hl => (by rw [getD_replicate_false] at hl; cases hl), fun t _ ht => getD_in (by simpa using ht) (getD_replicate_false _ _)⟩
  refine wp_region_any hm (wpAny_of_T (C := Cls S) (n := n) _ _ _ _ ?_)
  exact tree_sound (Q := NoPanic Q) (C := Cls S) h1 (fun _ _ _ _ _ h => h) h2 (tail := tail) (fun i hi => by have := List.all_eq_true.1 h4 i hi; simpa using this) _ r _ a w.drew inv0 (Cls.of hS) h5 h

section
variable {S : World → Prop} {tail : List Nat} {r r' : Pl} {a : Act} {w : World} {i j : Nat} {o o' : Oper}
theorem tree_q (hi : ops[i]? = some o) (hg : o.guard = none) (h : ∀ K : Act → Prop, (∀ a', wpTree P ops Q C tail r a' w → K a') → o.quiet P a C K) : wpTree P ops Q C tail (.q i r) a w := by
  show qOp P ops C i _ a
  unfold qOp
  simp only [hi, Region.wanted, hg, if_true]
  exact h _ fun _ h => h
theorem tree_op (hi : ops[i]? = some o) (hg : o.guard = none) (h : ∀ K : Act → World → Prop, (∀ a' w', S w' → wpTree P ops Q (Cls S) tail r a' w' → K a' w') → o.wp P a w K Q) : wpOp P ops Q i (fun a' w' => Cls S w' ∧ wpTree P ops Q (Cls S) tail r a' w') a w := by
  unfold wpOp
  simp only [hi, Region.wanted, hg, if_true]
  exact .inl (h _ fun _ _ hs h => ⟨Cls.of hs, h⟩)
theorem tree_a (hi : ops[i]? = some o) (hg : o.guard = none) (h : ∀ K : Act → World → Prop, (∀ a' w', S w' → wpTree P ops Q (Cls S) tail r a' w' → K a' w') → o.wp P a w K Q) : wpTree P ops Q (Cls S) tail (.a i r) a w := tree_op hi hg h
theorem tree_f (hi : ops[i]? = some o) (hg : o.guard = none) (hj : ops[j]? = some o') (hg' : o'.guard = none) (h : ∀ K : Act → World → Prop, (∀ a' w', S w' → wpTree P ops Q (Cls S) tail r a' w' → K a' w') → o.wp P a w K Q)
    (h' : ∀ K : Act → World → Prop, (∀ a' w', S w' → wpTree P ops Q (Cls S) tail r' a' w' → K a' w') → o'.wp P a w K Q) : wpTree P ops Q (Cls S) tail (.fork i r j r') a w := ⟨tree_op hi hg h, tree_op hj hg' h'⟩
theorem tree_nil (h : Q .normal a w) : wpTree P ops (NoPanic Q) C [] .done a w := h
theorem tree_t (h : wpTail P ops Q tail a w) : wpTree P ops Q C tail .done a w := h
end
end
end Go.Proofs.Ytdionganlmnlkaa
namespace Go.Proofs.Ytdionganlmnlkaa
open Go.ChangeShapes Go.WideShapes Go.ChangeAt Go.RowKit Go.Deep

section
variable {P : Program} {ops : Array Oper} {Q : Exit → Act → World → Prop} {C : World → Prop}
variable {S : World → Prop} {tail : List Nat} {r : Pl} {a : Act} {w : World} {i j : Nat} {o : Oper} {b b' : Bool}
theorem tree_qg (hi : ops[i]? = some o) (hg : o.guard = some (j, b)) (hy : yielded ops a.tmps j = some b) (h : ∀ K : Act → Prop, (∀ a', wpTree P ops Q C tail r a' w → K a') → o.quiet P a C K) : wpTree P ops Q C tail (.q i r) a w := by
  show qOp P ops C i _ a
  unfold qOp
  simp only [hi, Region.wanted, hg, hy, beq_self_eq_true, if_true]
  exact h _ fun _ h => h
theorem tree_qn (hi : ops[i]? = some o) (hg : o.guard = some (j, b)) (hy : yielded ops a.tmps j = some b') (hne : (b' == b) = false) (h : wpTree P ops Q C tail r (a.put o.dst undef) w) : wpTree P ops Q C tail (.q i r) a w := by
  show qOp P ops C i _ a
  unfold qOp
  have e : (some b' == some b) = false := by cases b <;> cases b' <;> first | rfl | cases hne
  simp only [hi, Region.wanted, hg, hy, e]
  exact h
theorem tree_ag (hi : ops[i]? = some o) (hg : o.guard = some (j, b)) (hy : yielded ops a.tmps j = some b) (h : ∀ K : Act → World → Prop, (∀ a' w', S w' → wpTree P ops Q (Cls S) tail r a' w' → K a' w') → o.wp P a w K Q) : wpTree P ops Q (Cls S) tail (.a i r) a w := by
  show wpOp P ops Q i _ a w
  unfold wpOp
  simp only [hi, Region.wanted, hg, hy, beq_self_eq_true, if_true]
  exact .inl (h _ fun _ _ hs h => ⟨Cls.of hs, h⟩)
theorem tree_an (hS : S w) (hi : ops[i]? = some o) (hg : o.guard = some (j, b)) (hy : yielded ops a.tmps j = some b') (hne : (b' == b) = false) (h : wpTree P ops Q (Cls S) tail r (a.put o.dst undef) w) : wpTree P ops Q (Cls S) tail (.a i r) a w := by
  show wpOp P ops Q i _ a w
  unfold wpOp
  have e : (some b' == some b) = false := by cases b <;> cases b' <;> first | rfl | cases hne
  simp only [hi, Region.wanted, hg, hy, e]
  exact ⟨Cls.of hS, h⟩
end
end Go.Proofs.Ytdionganlmnlkaa
namespace Go.Proofs.Ytdionganlmnlkaa
open Go.ChangeShapes Go.WideShapes Go.ChangeAt Go.RowKit Go.Deep
open Go.Maps (Keyed)

/-- Block b is an own map whose keys are just these (V: how one lies; Rg: which have keys). -/
def MSet {α : Type} (P : Program) (k : TypeId) (V : α → Value) (Rg : α → Prop) (w : World) (b n : Nat) (L : List α) : Prop :=
  ∃ D : DataW Unit, w.ownsMap P k unitElem b n D ∧ (∀ x l, keyOf P k (V x) = some l → (Maps.has D l = true ↔ x ∈ L)) ∧ (∀ l, Maps.has D l = true → ∃ x, Rg x ∧ keyOf P k (V x) = some l)

section
variable {α : Type} {P : Program} {k : TypeId} {V : α → Value} {Rg : α → Prop} {w w' : World} {b n : Nat} {L : List α}
theorem MSet.lt (h : MSet P k V Rg w b n L) : b < w.heap.size := by
  obtain ⟨D, h, _⟩ := h
  exact h.lt
theorem MSet.kept {row : Option Nat} (h : MSet P k V Rg w b n L) (hg : w.grownBy w' row) (hne : some b ≠ row) : MSet P k V Rg w' b n L := by
  obtain ⟨D, h, h1, h2⟩ := h
  exact ⟨D, h.kept hg hne, h1, h2⟩
theorem MSet.below (h : MSet P k V Rg w b n L) (hb : Below w.heap.size w w') : MSet P k V Rg w' b n L := h.kept (row := none) (grown_of_below hb none) (by simp)
theorem MSet.mono (h : MSet P k V Rg w b n L) {n' : Nat} (hn : n ≤ n') : MSet P k V Rg w b n' L := by
  obtain ⟨D, h, h1, h2⟩ := h
  exact ⟨D, h.mono hn, h1, h2⟩
theorem MSet.made (P : Program) (k : TypeId) (V : α → Value) (Rg : α → Prop) (w : World) : MSet P k V Rg (w.alloc (.map #[] 0)) w.heap.size 0 [] :=
  ⟨.map [], World.ownsMap_made w P k unitElem, fun x l _ => by simp [Maps.has_eq], fun l h => by simp [Maps.has_eq] at h⟩
/-- Only as a set. -/
theorem MSet.ext (h : MSet P k V Rg w b n L) {M : List α} (e : ∀ x, x ∈ L ↔ x ∈ M) : MSet P k V Rg w b n M := by
  obtain ⟨D, h, h1, h2⟩ := h
  exact ⟨D, h, fun x l hl => (h1 x l hl).trans (e x), h2⟩
theorem MSet.has [DecidableEq α] (h : MSet P k V Rg w b n L) {x : α} {l : Lit} (hl : keyOf P k (V x) = some l) : ∃ D : DataW Unit, w.ownsMap P k unitElem b n D ∧ Maps.has D l = decide (x ∈ L) := by
  obtain ⟨D, h, h1, _⟩ := h
  refine ⟨D, h, ?_⟩
  have := h1 x l hl
  by_cases hm : x ∈ L
  · rw [this.2 hm, decide_eq_true hm]
  · rw [decide_eq_false hm]
    cases hb : Maps.has D l with
    | false => rfl
    | true => exact absurd (this.1 hb) hm

variable {ops : Array Oper} {rest : List Oper} {o : Oper} {a : Act} {Q : Exit → Act → World → Prop}
theorem wp_mset_has [DecidableEq α] (hg : o.guard = none) (m x : Operand) (t e : TypeId) (hop : o.op = Op.lookup t m x true) (K : Keyed P k) (ht : P.underlying t = some (.map k e)) (hz : (zeroValue e).run P w = .ok (.agg #[]) w)
    (h : MSet P k V Rg w b n L) (y : α) {l : Lit} (hm : a.eval m = .map (some b)) (hx : a.eval x = V y) (hl : keyOf P k (V y) = some l)
    (hK : wpList P ops Q rest (a.put o.dst (.tuple #[.agg #[], .bool (decide (y ∈ L))])) w) : wpList P ops Q (o :: rest) a w := by
  obtain ⟨D, hown, hd⟩ := h.has hl
  exact wpList_lookup_own_unit w hg m x t hop k e K ht hz b n D hm hown (V y) l hx hl (by rw [hd]; exact hK)
theorem mset_put (K : Keyed P k) (hV : ∀ x y, V x = V y → x = y) {D : DataW Unit} {x : α} {l : Lit} (hD : Maps.IsMap D) (h1 : ∀ x l, keyOf P k (V x) = some l → (Maps.has D l = true ↔ x ∈ L)) (hl : keyOf P k (V x) = some l) (d : DataW Unit) :
    ∀ y l', keyOf P k (V y) = some l' → (Maps.has (D.put l d) l' = true ↔ y ∈ x :: L) := by
  intro y l' hl'
  by_cases e : l' = l
  · subst e
    have : y = x := hV _ _ (K.inj hl' hl)
    subst this
    rw [Maps.has_put_same hD (K.key hl)]
    simp
  · rw [Maps.has_put_other e, h1 y l' hl']
    have : y ≠ x := by
      rintro rfl
      rw [hl] at hl'
      injection hl' with hl'
      exact e hl'.symm
    simp [this]
theorem wp_mset_put (hg : o.guard = none) (m x v : Operand) (t e : TypeId) (hop : o.op = Op.mapUpdate t m x v) (K : Keyed P k) (ht : P.underlying t = some (.map k e)) (hV : ∀ x y, V x = V y → x = y)
    (h : MSet P k V Rg w b n L) (hn : n < maxLen) (y : α) (hr : Rg y) {l : Lit} (hm : a.eval m = .map (some b)) (hx : a.eval x = V y) (hv : a.eval v = .agg #[]) (hl : keyOf P k (V y) = some l)
    (hK : ∀ w', MSet P k V Rg w' b (n + 1) (y :: L) → w.grownBy w' (some b) → wpList P ops Q rest (a.put o.dst undef) w') : wpList P ops Q (o :: rest) a w := by
  obtain ⟨D, hown, h1, h2⟩ := h
  refine wpList_mapUpdate_own w hg m x v t hop k e K ht unitElem b n D hm hown hn (V y) (.agg #[]) l hx hv hl (.agg []) [] unitElem_mk fun w' ho hg' => hK w' ⟨_, ho, mset_put K hV hown.isMap h1 hl _, fun l' hl' => ?_⟩ hg'
  by_cases e' : l' = l
  · subst e'
    exact ⟨y, hr, hl⟩
  · rw [Maps.has_put_other e'] at hl'
    exact h2 l' hl'
/-- The look-up's run, as an equation. -/
theorem MSet.look_run [DecidableEq α] (h : MSet P k V Rg w b n L) (K : Keyed P k) {t e : TypeId} (ht : P.underlying t = some (.map k e)) (hz : ∀ w, (zeroValue e).run P w = .ok (.agg #[]) w) (y : α) {l : Lit} (hl : keyOf P k (V y) = some l) :
    (Instr.lookup t (.map (some b)) (V y) true).run P w = .ok (.tuple #[.agg #[], .bool (decide (y ∈ L))]) w := by
  obtain ⟨D, hown, hd⟩ := h.has hl
  obtain ⟨v, ps, hrun, hv⟩ := hown.look_ok K ht (hz w) unitElem_mk hl
  obtain ⟨rfl, _⟩ := unitElem_inv hv
  rw [hrun, hd]
theorem MSet.put_run (h : MSet P k V Rg w b n L) (K : Keyed P k) {t e : TypeId} (ht : P.underlying t = some (.map k e)) (hV : ∀ x y, V x = V y → x = y) (hn : n < maxLen) (y : α) (hr : Rg y) {l : Lit} (hl : keyOf P k (V y) = some l) :
    ∃ w', (Instr.mapUpdate t (.map (some b)) (V y) (.agg #[])).run P w = .ok () w' ∧ MSet P k V Rg w' b (n + 1) (y :: L) ∧ w.grownBy w' (some b) := by
  obtain ⟨D, hown, h1, h2⟩ := h
  obtain ⟨w', hrun, ho, hg⟩ := hown.update K ht hn hl unitElem_mk
  refine ⟨w', hrun, ⟨_, ho, mset_put K hV hown.isMap h1 hl _, fun l' hl' => ?_⟩, hg⟩
  by_cases e' : l' = l
  · subst e'
    exact ⟨y, hr, hl⟩
  · rw [Maps.has_put_other e'] at hl'
    exact h2 l' hl'
theorem MSet.del_run [DecidableEq α] (h : MSet P k V Rg w b n L) (K : Keyed P k) {t e : TypeId} (ht : P.underlying t = some (.map k e)) (hV : ∀ x y, V x = V y → x = y) (y : α) {l : Lit} (hl : keyOf P k (V y) = some l) (ty : TypeId) :
    ∃ w', (Builtin.delete_ #[t, k] ty #[.map (some b), V y]).run P w = .ok (.tuple #[]) w' ∧ MSet P k V Rg w' b n (L.filter fun x => decide (x ≠ y)) ∧ w.grownBy w' (some b) := by
  obtain ⟨D, hown, h1, h2⟩ := h
  obtain ⟨w', hrun, ho, ht'⟩ := hown.drop K ht hl ty
  refine ⟨w', hrun, ⟨_, ho, fun x l' hl' => ?_, fun l' hl' => ?_⟩, ht'.grown⟩
  · rw [List.mem_filter, decide_eq_true_eq]
    by_cases e' : l' = l
    · subst e'
      have : x = y := hV _ _ (K.inj hl' hl)
      subst this
      rw [Maps.has_del_same]
      simp
    · rw [Maps.has_del_other e', h1 x l' hl']
      have : x ≠ y := by
        rintro rfl
        rw [hl] at hl'
        injection hl' with hl'
        exact e' hl'.symm
      simp [this]
  · by_cases e' : l' = l
    · subst e'
      rw [Maps.has_del_same] at hl'
      cases hl'
    · rw [Maps.has_del_other e'] at hl'
      exact h2 l' hl'
/-- None is left just where its length is zero. -/
theorem MSet.size (h : MSet P k V Rg w b n L) (K : Keyed P k) (hL : ∀ x, x ∈ L → ∃ l, keyOf P k (V x) = some l) : ∃ D : DataW Unit, w.ownsMap P k unitElem b n D ∧ (Maps.size D = 0 ↔ L = []) := by
  obtain ⟨D, hown, h1, h2⟩ := h
  refine ⟨D, hown, ?_⟩
  obtain ⟨es, rfl, _, hkey⟩ := hown.entries K
  rw [Maps.size_eq]
  constructor
  · intro h0
    have : es = [] := List.length_eq_zero_iff.1 h0
    subst this
    cases L with
    | nil => rfl
    | cons x L =>
      obtain ⟨l, hl⟩ := hL x (by simp)
      have := (h1 x l hl).2 (by simp)
      simp [Maps.has_eq] at this
  · rintro rfl
    cases es with
    | nil => rfl
    | cons p es =>
      have hs : Maps.has (.map (p :: es) : DataW Unit) p.1 = true := by
        rw [Maps.has_eq]
        simp [WideAt.sameKey_self (hkey p (by simp))]
      obtain ⟨x, _, hx⟩ := h2 _ hs
      have := (h1 x _ hx).1 hs
      simp at this
end
end Go.Proofs.Ytdionganlmnlkaa
namespace Go.Proofs.Ytdionganlmnlkaa
open Go.ChangeShapes Go.WideShapes Go.ChangeAt Go.RowKit Go.Deep
open Go.Maps (Keyed)

/-- An element reads as itself. -/
def heldE (v : Value) : Option (DataW Value × List MemPlace) := some (.held v, [])
def asD (o : Option Value) (z : DataW Value) : DataW Value := match o with
  | some v => .held v
  | none => z
/-- Block b is an own map that holds what f tells (V: how a key lies; Rg: which are keys). -/
def MFun {α : Type} (P : Program) (k : TypeId) (V : α → Value) (Rg : α → Prop) (w : World) (b n : Nat) (f : α → Option Value) : Prop :=
  ∃ D : DataW Value, w.ownsMap P k heldE b n D ∧ (∀ x l, keyOf P k (V x) = some l → ∀ z, D.atKey l z = asD (f x) z) ∧ (∀ l, Maps.has D l = true → ∃ x, Rg x ∧ keyOf P k (V x) = some l)

section
variable {α : Type} {P : Program} {k : TypeId} {V : α → Value} {Rg : α → Prop} {w w' : World} {b n : Nat} {f : α → Option Value}
theorem MFun.lt (h : MFun P k V Rg w b n f) : b < w.heap.size := by
  obtain ⟨D, h, _⟩ := h
  exact h.lt
theorem MFun.frm (h : MFun P k V Rg w b n f) {S : Nat → Prop} (hF : Frm S w w') (hn : ¬ S b) : MFun P k V Rg w' b n f := by
  obtain ⟨D, hown, h1, h2⟩ := h
  have hlt := hown.lt
  obtain ⟨es, clock, hb, F, hs, hD⟩ := hown
  exact ⟨D, ⟨es, clock, (hF.block b hlt hn).trans hb, F, hs, hD⟩, h1, h2⟩
theorem MFun.below (h : MFun P k V Rg w b n f) (hb : Below w.heap.size w w') : MFun P k V Rg w' b n f := h.frm (Frm.of_below (S := fun _ => False) hb) id
theorem MFun.mono (h : MFun P k V Rg w b n f) {n' : Nat} (hn : n ≤ n') : MFun P k V Rg w b n' f := by
  obtain ⟨D, h, h1, h2⟩ := h
  exact ⟨D, h.mono hn, h1, h2⟩
theorem MFun.made (P : Program) (k : TypeId) (V : α → Value) (Rg : α → Prop) (w : World) : MFun P k V Rg (w.alloc (.map #[] 0)) w.heap.size 0 (fun _ => none) :=
  ⟨.map [], World.ownsMap_made w P k heldE, fun x l _ z => rfl, fun l h => by simp [Maps.has_eq] at h⟩
theorem MFun.ty (h : MFun P k V Rg w b n f) {t : TypeId} {cs : Array Value} (hb : w.heap[b]? = some (.cells cs t (0, 0))) : False := by
  obtain ⟨D, ⟨es, clock, e, _⟩, _⟩ := h
  rw [e] at hb
  injection hb with hb
  cases hb
/-- m[k]. -/
theorem MFun.look_run (h : MFun P k V Rg w b n f) (K : Keyed P k) {t e : TypeId} (ht : P.underlying t = some (.map k e)) {z : Value} (hz : ∀ w, (zeroValue e).run P w = .ok z w) (y : α) {l : Lit} (hl : keyOf P k (V y) = some l) :
    (Instr.lookup t (.map (some b)) (V y) false).run P w = .ok ((f y).getD z) w := by
  obtain ⟨D, hown, h1, _⟩ := h
  obtain ⟨v, ps, hrun, hv⟩ := hown.lookup K ht (hz w) (zd := .held z) (zp := []) rfl hl
  rw [h1 y l hl] at hv
  rw [hrun]
  unfold heldE asD at hv
  cases hf : f y with
  | none => rw [hf] at hv; simp at hv; rw [hv.1]; rfl
  | some u => rw [hf] at hv; simp at hv; rw [hv.1]; rfl
theorem MFun.has {D : DataW Value} (h1 : ∀ x l, keyOf P k (V x) = some l → ∀ z, D.atKey l z = asD (f x) z) {x : α} {l : Lit} (hl : keyOf P k (V x) = some l) : Maps.has D l = (f x).isSome := by
  have h := h1 x l hl
  cases hf : f x with
  | none => rw [hf] at h; exact Maps.has_false_of_atKey h
  | some v => rw [hf] at h; exact Maps.has_true_of_atKey h
/-- v, ok := m[k]. -/
theorem MFun.look_ok (h : MFun P k V Rg w b n f) (K : Keyed P k) {t e : TypeId} (ht : P.underlying t = some (.map k e)) {z : Value} (hz : ∀ w, (zeroValue e).run P w = .ok z w) (y : α) {l : Lit} (hl : keyOf P k (V y) = some l) :
    (Instr.lookup t (.map (some b)) (V y) true).run P w = .ok (.tuple #[(f y).getD z, .bool (f y).isSome]) w := by
  obtain ⟨D, hown, h1, _⟩ := h
  obtain ⟨v, ps, hrun, hv⟩ := hown.look_ok K ht (hz w) (zd := .held z) (zp := []) rfl hl
  rw [h1 y l hl] at hv
  rw [hrun, MFun.has h1 hl]
  unfold heldE asD at hv
  cases hf : f y with
  | none => rw [hf] at hv; simp at hv; rw [hv.1]; rfl
  | some u => rw [hf] at hv; simp at hv; rw [hv.1]; rfl
/-- m[k] = v. -/
theorem MFun.put_run [DecidableEq α] (h : MFun P k V Rg w b n f) (K : Keyed P k) {t e : TypeId} (ht : P.underlying t = some (.map k e)) (hV : ∀ x y, V x = V y → x = y) (hn : n < maxLen) (y : α) (hr : Rg y) (u : Value) {l : Lit} (hl : keyOf P k (V y) = some l) :
    ∃ w', (Instr.mapUpdate t (.map (some b)) (V y) u).run P w = .ok () w' ∧ MFun P k V Rg w' b (n + 1) (fun x => if x = y then some u else f x) ∧ w.grownBy w' (some b) := by
  obtain ⟨D, hown, h1, h2⟩ := h
  obtain ⟨w', hrun, ho, hg⟩ := hown.update K ht hn hl (val := u) (d := .held u) (ps := []) rfl
  refine ⟨w', hrun, ⟨_, ho, fun x l' hl' z => ?_, fun l' hl' => ?_⟩, hg⟩
  · by_cases e' : l' = l
    · subst e'
      have : x = y := hV _ _ (K.inj hl' hl)
      subst this
      rw [Maps.atKey_put_same hown.isMap (K.key hl)]
      dsimp only
      rw [if_pos rfl]
      rfl
    · have : x ≠ y := by
        rintro rfl
        rw [hl] at hl'
        injection hl' with hl'
        exact e' hl'.symm
      rw [Maps.atKey_put_other e']
      dsimp only
      rw [if_neg this]
      exact h1 x l' hl' z
  · by_cases e' : l' = l
    · subst e'
      exact ⟨y, hr, hl⟩
    · rw [Maps.has_put_other e'] at hl'
      exact h2 l' hl'
/-- delete(m, k). -/
theorem MFun.del_run [DecidableEq α] (h : MFun P k V Rg w b n f) (K : Keyed P k) {t e : TypeId} (ht : P.underlying t = some (.map k e)) (hV : ∀ x y, V x = V y → x = y) (y : α) {l : Lit} (hl : keyOf P k (V y) = some l) (ty : TypeId) :
    ∃ w', (Builtin.delete_ #[t, k] ty #[.map (some b), V y]).run P w = .ok (.tuple #[]) w' ∧ MFun P k V Rg w' b n (fun x => if x = y then none else f x) ∧ w.grownBy w' (some b) := by
  obtain ⟨D, hown, h1, h2⟩ := h
  obtain ⟨w', hrun, ho, ht'⟩ := hown.drop K ht hl ty
  refine ⟨w', hrun, ⟨_, ho, fun x l' hl' z => ?_, fun l' hl' => ?_⟩, ht'.grown⟩
  · by_cases e' : l' = l
    · subst e'
      have : x = y := hV _ _ (K.inj hl' hl)
      subst this
      rw [Maps.atKey_del_same]
      dsimp only
      rw [if_pos rfl]
      rfl
    · have : x ≠ y := by
        rintro rfl
        rw [hl] at hl'
        injection hl' with hl'
        exact e' hl'.symm
      rw [Maps.atKey_del_other e']
      dsimp only
      rw [if_neg this]
      exact h1 x l' hl' z
  · by_cases e' : l' = l
    · subst e'
      rw [Maps.has_del_same] at hl'
      cases hl'
    · rw [Maps.has_del_other e'] at hl'
      exact h2 l' hl'

variable {ops : Array Oper} {rest : List Oper} {o : Oper} {a : Act} {Q : Exit → Act → World → Prop}
/-- The next entry of a range. -/
theorem wp_mfun_next (hg : o.guard = none) (it : Operand) (hop : o.op = Op.next it false) (K : Keyed P k) (r cnt : Nat) (D : DataW Value) (left : Lit → Bool)
    (hD : ∀ x l, keyOf P k (V x) = some l → ∀ z, D.atKey l z = asD (f x) z) (hk : ∀ l, Maps.has D l = true → ∃ x, Rg x ∧ keyOf P k (V x) = some l) (hsub : ∀ l, left l = true → Maps.has D l = true)
    (hit : a.eval it = .pointer (some ⟨r, 0, none⟩)) (h : w.ranges P k heldE b r n D left cnt)
    (hDone : cnt = 0 → (∀ kl, left kl = false) → wpList P ops Q rest (a.put o.dst (.tuple #[.bool false])) w)
    (hMore : ∀ (x : α) (v : Value) (kl : Lit) (w' : World) (cnt' : Nat), Rg x → keyOf P k (V x) = some kl → left kl = true → f x = some v → w'.ranges P k heldE b r n D (fun z => left z && !z.sameKey kl) cnt' → cnt' < cnt →
      w.grownBy w' (some r) → w'.heap.size = w.heap.size → (Instr.entry (.pointer (some ⟨r, 0, none⟩))).run P w' = .ok (.tuple #[V x, v]) w' →
      wpList P ops Q rest (a.put o.dst (.tuple #[.bool true, V x, v])) w') :
    wpList P ops Q (o :: rest) a w := by
  refine wpList_next_ranges w hg it hop k K heldE (fun v : Value => v) (fun v : Value => v) (fun key kl _ => ⟨key, rfl⟩) (fun v y _ => ⟨v, rfl⟩) b r n D left cnt hit h hDone ?_
  intro x c kl y w' cnt' hkx hlk hRc hat hrg hlt hgr hsz hen
  obtain ⟨p, hp0, hp⟩ := hk kl (hsub kl hlk)
  have hxp : x = V p := K.inj hkx hp
  subst hxp
  unfold heldE at hRc
  injection hRc with hRc
  have hfp : f p = some c := by
    have h3 := hat .nil
    rw [hD p kl hp, ← hRc] at h3
    unfold asD at h3
    cases hf : f p with
    | none => rw [hf] at h3; cases h3
    | some u => rw [hf] at h3; injection h3 with h3; rw [h3]
  exact hMore p c kl w' cnt' hp0 hp hlk hfp hrg hlt hgr hsz hen
end
end Go.Proofs.Ytdionganlmnlkaa

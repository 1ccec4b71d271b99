/-
  Generic words for all laws of this set: a flat reading of structs (the leaves of a type), what a law owes at its end ('post_true': the result is true, below the old heap nothing has turned). Conditions: none; over any program.
-/
import Derived.WalkKit
import Derived.ProofKit
import Derived.OpenShut
import Derived.Deep.Slices
import Derived.Carry
import Derived.ChangeSame
import Derived.Deep.OwnRows
import Derived.Deep.Draws
namespace Go.Proofs.Ytpgnebhlnkoajaa
open Go.ChangeShapes Go.WideShapes Go.ChangeAt Go.RowKit Go.Deep

/-- The leaves of a type that is built of structs alone: each leaf's place among the cells, and its type. -/
def leaves (P : Program) : Nat → TypeId → List (Nat × TypeId)
  | 0, _ => []
  | n + 1, t => match P.underlying t with
    | some (.struct fs) => fs.toList.flatMap fun f => (leaves P n f.type).map fun x => (f.offset + x.1, x.2)
    | some (.array _ _) => []
    | _ => [(0, t)]

section
variable {H : Type} {enc : TypeId × Value → H} {P : Program} {w : World} {base : Nat} {spare : Nat → Bool} {held : Bool}

theorem trod_leaves : ∀ (n : Nat) (t : TypeId) (fuel : Nat) (cs : List Value) (x : DataW H × List MemPlace), DataW.trod enc P w base spare held fuel t cs = some x →
    ∀ p ∈ leaves P n t, ∃ v fuel' y, cs[p.1]? = some v ∧ DataW.trod enc P w base spare held fuel' p.2 [v] = some y := by
  intro n
  induction n with
  | zero => intro t fuel cs x _ p hp; simp [leaves] at hp
  | succ n ih =>
    intro t fuel cs x h p hp
    unfold leaves at hp
    split at hp
    · rename_i fs hu
      obtain ⟨xs, m, _, _, _, hlen, hf⟩ := DataW.trod_struct hu h
      obtain ⟨f, hfm, hp⟩ := List.mem_flatMap.1 hp
      obtain ⟨q, hq, rfl⟩ := List.mem_map.1 hp
      obtain ⟨i, hi, hfi⟩ := List.getElem_of_mem hfm
      have hfs : fs[i]? = some f := by
        rw [Array.getElem?_eq_getElem (by simpa using hi)]
        simpa using hfi
      have hg := hf i f hfs
      have hix : i < xs.length := by rw [hlen]; simpa using hi
      rw [List.getElem?_eq_getElem hix] at hg
      obtain ⟨v, fuel', y, hv, ht⟩ := ih f.type m _ _ hg q hq
      refine ⟨v, fuel', y, ?_, ht⟩
      have h1 : ((cs.drop f.offset).take (P.cellsOf f.type))[q.1]? = some v := hv
      rw [List.getElem?_take] at h1
      split at h1
      · rw [List.getElem?_drop] at h1
        exact h1
      · cases h1
    · simp at hp
    · rename_i hs ha
      simp only [List.mem_singleton] at hp
      subst hp
      cases fuel with
      | zero => simp [DataW.trod] at h
      | succ k =>
        have h0 := h
        have : ∃ v, cs = [v] := by
          unfold DataW.trod at h
          split at h
          all_goals first
            | exact ⟨_, rfl⟩
            | (rename_i hu _; exact absurd hu (by intro e; exact hs _ e))
            | (rename_i hu _; exact absurd hu (by intro e; exact ha _ _ e))
            | (simp at h)
            | skip
          all_goals first
            | (rename_i hu; exact absurd hu (by intro e; exact hs _ e))
            | (rename_i hu; exact absurd hu (by intro e; exact ha _ _ e))
        obtain ⟨v, rfl⟩ := this
        exact ⟨v, _, _, rfl, h0⟩

/-- An integer leaf. -/
theorem leaf_int {n : Nat} {t : TypeId} {fuel : Nat} {cs : List Value} {x : DataW H × List MemPlace} (h : DataW.trod enc P w base spare held fuel t cs = some x) {o : Nat} {t' : TypeId} {k : IntKind}
    (hm : (leaves P n t).contains (o, t') = true) (hk : P.underlying t' = some (.int k)) : ∃ z : Int, cs[o]? = some (.int k z) ∧ (Lit.int k z).wf = true := by
  obtain ⟨v, fuel', y, hv, ht⟩ := trod_leaves n t fuel cs x h (o, t') (by simpa using hm)
  obtain ⟨z, hz, _, hw⟩ := DataW.trod_int hk ht
  simp only [List.cons.injEq, and_true] at hz
  exact ⟨z, by rw [hv, hz], hw⟩
theorem leaf_bool {n : Nat} {t : TypeId} {fuel : Nat} {cs : List Value} {x : DataW H × List MemPlace} (h : DataW.trod enc P w base spare held fuel t cs = some x) {o : Nat} {t' : TypeId}
    (hm : (leaves P n t).contains (o, t') = true) (hk : P.underlying t' = some .bool) : ∃ z : Bool, cs[o]? = some (.bool z) := by
  obtain ⟨v, fuel', y, hv, ht⟩ := trod_leaves n t fuel cs x h (o, t') (by simpa using hm)
  obtain ⟨z, hz, _⟩ := DataW.trod_bool hk ht
  simp only [List.cons.injEq, and_true] at hz
  exact ⟨z, by rw [hv, hz]⟩

/-- Is this an int's type? -/
def intT (P : Program) (t : TypeId) : Bool := match P.underlying t with
  | some (.int .i64) => true
  | _ => false
theorem intT_of {P : Program} {t : TypeId} (h : intT P t = true) : P.underlying t = some (.int .i64) := by
  unfold intT at h
  split at h
  · assumption
  · cases h

theorem i64_of_wf {z : Int} (h : (Lit.int .i64 z).wf = true) : -9223372036854775808 ≤ z ∧ z ≤ 9223372036854775807 := by
  simpa [Lit.wf, IntKind.min, IntKind.max, IntKind.signed, IntKind.bits] using h

theorem addr_of_cell {w : World} {a : Addr} {v : Value} (h : w.cell? a = some v) : a = ⟨a.block, a.off, none⟩ ∧ a.block < w.heap.size := by
  have hlt := World.block_lt_of_cell? _ _ h
  refine ⟨?_, hlt⟩
  obtain ⟨b, o, s⟩ := a
  cases s with
  | none => rfl
  | some x =>
    unfold World.cell? at h
    split at h
    · simp at h
    · cases h
theorem addr_add (b o n : Nat) : (⟨b, o, none⟩ : Addr).add n = ⟨b, o + n, none⟩ := by
  unfold Addr.add
  split
  · rename_i h
    rw [h, Nat.add_zero]
  · rfl

/-- A slice of structs of ints alone: where its cells lie, and what they hold. -/
theorem open_flat {t e : TypeId} {N fuel len cap : Nat} {A : Option Addr} {x : DataW H × List MemPlace} (hN0 : 0 < N) (ht : P.underlying t = some (.slice e)) (hN : P.cellsOf e = N)
    (hall : ((List.range N).all fun j => (leaves P 5 e).any fun y => y.1 == j && intT P y.2) = true) (h : DataW.trod enc P w base spare held fuel t [.slice A len cap] = some x) :
    len ≤ cap ∧ cap ≤ maxLen ∧ ∃ f : Nat → Nat → Int, ∀ i, i < len → ∃ b off, A = some ⟨b, off, none⟩ ∧ b < w.heap.size ∧ ∀ j, j < N → w.cell? ⟨b, off + i * N + j, none⟩ = some (.int .i64 (f i j)) ∧ (Lit.int .i64 (f i j)).wf = true := by
  rcases open_slice ht h with ⟨h0, _⟩ | ⟨a, len', cap', m, n, D, Pl, hcs, _, hl, hc, hm, _, hi⟩
  · simp only [List.cons.injEq, Value.slice.injEq, and_true] at h0
    obtain ⟨rfl, rfl, rfl⟩ := h0
    exact ⟨Nat.le_refl _, by simp [maxLen], fun _ _ => 0, fun i hi => absurd hi (by omega)⟩
  · simp only [List.cons.injEq, Value.slice.injEq, and_true] at hcs
    obtain ⟨rfl, rfl, rfl⟩ := hcs
    refine ⟨hl, hc, ?_⟩
    have hlm : len ≤ m := by rw [hm]; split <;> omega
    have key : ∀ i, i < len → ∃ g : Nat → Int, ∀ j, j < N → w.cell? ((a.add (i * N)).add j) = some (.int .i64 (g j)) ∧ (Lit.int .i64 (g j)).wf = true := by
      intro i hil
      obtain ⟨cs', hcs', ht'⟩ := hi i (by omega)
      rw [hN] at hcs'
      obtain ⟨_, _, hat⟩ := World.cells?_some hcs'
      refine choose_lt (α := Int) (p := fun j x => w.cell? ((a.add (i * N)).add j) = some (.int .i64 x) ∧ (Lit.int .i64 x).wf = true) fun j hj => ?_
      have hj' := List.all_eq_true.1 hall j (by simpa using hj)
      obtain ⟨⟨o, t'⟩, hy, hyj⟩ := List.any_eq_true.1 hj'
      simp only [Bool.and_eq_true, beq_iff_eq] at hyj
      obtain ⟨rfl, hit⟩ := hyj
      obtain ⟨z, hz, hwz⟩ := leaf_int (n := 5) ht' (o := o) (t' := t') (by simpa using hy) (intT_of hit)
      exact ⟨z, (hat o hj).trans hz, hwz⟩
    have key2 : ∃ f : Nat → Nat → Int, ∀ i, i < len → ∀ j, j < N → w.cell? ((a.add (i * N)).add j) = some (.int .i64 (f i j)) ∧ (Lit.int .i64 (f i j)).wf = true :=
      choose_lt (α := Nat → Int) (p := fun i g => ∀ j, j < N → w.cell? ((a.add (i * N)).add j) = some (.int .i64 (g j)) ∧ (Lit.int .i64 (g j)).wf = true) key
    obtain ⟨f, hf⟩ := key2
    refine ⟨f, fun i hil => ?_⟩
    have h00 := (hf 0 (by omega) 0 hN0).1
    rw [Nat.zero_mul] at h00
    have ha0 : a = ⟨a.block, a.off, none⟩ ∧ a.block < w.heap.size := addr_of_cell (by simpa [Addr.add] using h00)
    refine ⟨a.block, a.off, by rw [← ha0.1], ha0.2, fun j hj => ?_⟩
    have hc := hf i hil j hj
    rw [ha0.1, addr_add, addr_add] at hc
    exact hc

/-- All arguments read as they did, where below the old heap nothing has turned. -/
theorem trodAll_below (hl : laidOutB P = true) {W W' : World} (hb : Below W.heap.size W W') : ∀ (ts : List TypeId) (vs : List Value) (ds : List (DataW H)) (ps : List MemPlace),
    (ts.all fun t => P.readableRec t && decide (t < P.types.size)) = true →
    DataW.TrodAll enc P W 0 (fun _ => true) true ts vs ds ps → (∀ x ∈ ps, x.block < W.heap.size) → ∀ sp : Nat → Bool, (∀ p ∈ ps, sp p.block = true) → DataW.TrodAll enc P W' 0 sp true ts vs ds ps := by
  intro ts
  induction ts with
  | nil =>
    intro vs ds ps _ h _ sp _
    cases vs <;> cases ds <;> simp only [DataW.TrodAll] at h ⊢
    exact h
  | cons t ts ih =>
    intro vs ds ps hok h hlt sp hsp
    cases vs with
    | nil => simp only [DataW.TrodAll] at h
    | cons v vs =>
      cases ds with
      | nil => simp only [DataW.TrodAll] at h
      | cons d ds =>
        obtain ⟨p, q, h1, h2, rfl⟩ := h
        simp only [List.all_cons, Bool.and_eq_true, decide_eq_true_eq] at hok
        refine ⟨p, q, ?_, ih vs ds q (by simpa using hok.2) h2 (fun x hx => hlt x (by simp [hx])) sp (fun x hx => hsp x (by simp [hx])), rfl⟩
        exact WideElems.Trod_stays hl hok.1.1 hok.1.2 h1 (fun x hx => hb.same (hlt x (by simp [hx]))) (fun x hx => by simpa using hsp x (by simp [hx]))

/-- What a law owes at its end. -/
theorem post_true (hl : laidOutB P = true) {f : Func} {s : ChangeSpec} {apart fresh handsOn : Bool} {W W' : World} {args : Array Value} {ds gs : List (DataW H)} {before : List MemPlace} {tb : TypeId}
    (hvars : s.vars = []) (hts : (f.params.toList.all fun t => P.readableRec t && decide (t < P.types.size)) = true) (hr : f.resultTypes = #[tb]) (htb : P.underlying tb = some .bool)
    (hW : DataW.Whole enc P f.params.toList s.vars apart W args.toList ds gs before) (hfn : (s.fn H ds).results = [.lit (.bool true)] ∧ (s.fn H ds).args = ds ∧ (s.fn H ds).vars = [])
    (hb : Below W.heap.size W W') : s.post enc P f apart fresh handsOn false W args (.bool true) W' := by
  have hlt : ∀ p ∈ before, p.block < W.heap.size := fun p hp => hW.lt p hp
  have hW' := hW
  obtain ⟨p, q, hA, hV, rfl, hfz, hnd⟩ := hW
  rw [hvars] at hV
  obtain ⟨rfl, rfl⟩ := trodVars_none hV
  simp only [List.append_nil] at hW' hlt
  have hold : ∀ x ∈ p, (fun b => decide (b < W.heap.size)) x.block = true := fun x hx => by simpa using hlt x hx
  refine ⟨ds, [], p, [], p, [], hW', ?_, ?_, ?_, ?_, fun h => by cases h⟩
  · simp only [List.append_nil, hfn.1, hr]
    exact trodAll_mk1 (shut_bool htb true)
  · simp only [List.append_nil, hfn.2.1]
    exact trodAll_below hl hb _ _ _ _ hts hA hlt _ hold
  · rw [hvars]
    simp only [List.append_nil, hfn.2.2]
    exact rfl
  · exact hb.frame _
end

/-! Blocks whose cells are known. -/
def Blk (w : World) (g : Nat) (t : TypeId) (cs : Array Value) : Prop := w.heap[g]? = some (.cells cs t (0, 0))

section
variable {w w' : World} {g : Nat} {t : TypeId} {cs : Array Value}
theorem Blk.lt (h : Blk w g t cs) : g < w.heap.size := (Array.getElem?_eq_some_iff.1 h).1
theorem Blk.rd (h : Blk w g t cs) : ∀ i, w.cell? ⟨g, i, none⟩ = cs[i]? := fun i => by
  unfold Blk at h
  simp [World.cell?, h]
theorem Blk.fz (h : Blk w g t cs) : ∀ i, w.frozen? ⟨g, i, none⟩ = false := fun i => by
  unfold Blk at h
  simp [World.frozen?, h]
theorem Blk.new (w : World) {g : Nat} (hg : g = w.heap.size) (t : TypeId) (cs : Array Value) : Blk (w.alloc (.cells cs t)) g t cs := by
  subst hg
  show (w.heap.push _)[w.heap.size]? = _
  simp
theorem Blk.alloc (h : Blk w g t cs) (o : Obj) : Blk (w.alloc o) g t cs := (Below.heap_alloc w o g h.lt).trans h
theorem Blk.drewN (h : Blk w g t cs) (n : Nat) : Blk (w.drewN n) g t cs := h
theorem Blk.drew (h : Blk w g t cs) : Blk w.drew g t cs := h
theorem Blk.put (h : Blk w g t cs) (i : Nat) (u : Value) : Blk (w.setCell ⟨g, i, none⟩ u) g t (cs.setIfInBounds i u) := by
  unfold Blk at h ⊢
  simp [World.setCell, Array.getElem?_modify, h]
theorem Blk.far (h : Blk w g t cs) {b o : Nat} (hp : g ≠ b) (u : Value) : Blk (w.setCell ⟨b, o, none⟩ u) g t cs := (Below.heap_setCell w ⟨b, o, none⟩ u g hp).trans h
theorem Blk.below (h : Blk w g t cs) (hb : Below w.heap.size w w') : Blk w' g t cs := (hb.block g h.lt).trans h
theorem Blk.grown {b : Nat} (h : Blk w g t cs) (hb : w.grownBy w' (some b)) (hne : g ≠ b) : Blk w' g t cs := (hb.block g h.lt (by simpa using hne)).trans h
theorem Blk.row (h : Blk w g t cs) : w.rowIs g t cs.size (fun i => cs.getD i undef) := ⟨cs, h, rfl, fun i hi => by simp [hi]⟩

theorem bel_refl (w : World) : Below w.heap.size w w := Below.refl _ _
theorem bel_alloc {a : World} (h : Below a.heap.size a w) (o : Obj) : Below a.heap.size a (w.alloc o) := h.alloc h.size o
theorem bel_drew {a : World} (h : Below a.heap.size a w) : Below a.heap.size a w.drew := h.drew
theorem bel_drewN {a : World} (h : Below a.heap.size a w) (n : Nat) : Below a.heap.size a (w.drewN n) := ⟨h.os, h.tape, h.output, h.size, h.block⟩
theorem bel_set {a : World} (h : Below a.heap.size a w) {b o : Nat} (hp : a.heap.size ≤ b) (u : Value) : Below a.heap.size a (w.setCell ⟨b, o, none⟩ u) := h.setCell (p := ⟨b, o, none⟩) hp u
theorem bel_call {a : World} (h : Below a.heap.size a w) (hb : Below w.heap.size w w') : Below a.heap.size a w' := h.trans (hb.mono h.size)

theorem row_below {b n : Nat} {f : Nat → Value} (h : w.rowIs b t n f) (hb : Below w.heap.size w w') : w'.rowIs b t n f := h.of_block (hb.block b h.lt)
theorem row_grown {b c n : Nat} {f : Nat → Value} (h : w.rowIs b t n f) (hb : w.grownBy w' (some c)) (hne : b ≠ c) : w'.rowIs b t n f := h.of_block (hb.block b h.lt (by simpa using hne))
theorem grown_refl (w : World) (b : Option Nat) : w.grownBy w b := ⟨rfl, rfl, rfl, Nat.le_refl _, fun _ _ _ => rfl⟩
theorem grown_below {b : Option Nat} {a : World} (h : a.grownBy w b) (hb : Below w.heap.size w w') : a.grownBy w' b :=
  ⟨hb.os.trans h.os, hb.tape.trans h.tape, hb.output.trans h.output, Nat.le_trans h.size hb.size, fun i hi hn => (hb.block i (Nat.lt_of_lt_of_le hi h.size)).trans (h.block i hi hn)⟩
theorem grown_alloc {b : Option Nat} {a : World} (h : a.grownBy w b) (o : Obj) : a.grownBy (w.alloc o) b :=
  grown_below h ((Below.refl _ _).alloc (Nat.le_refl _) o)
theorem grown_drew {b : Option Nat} {a : World} (h : a.grownBy w b) : a.grownBy w.drew b := ⟨h.os, h.tape, h.output, h.size, h.block⟩
theorem grown_set {b : Nat} {a : World} (h : a.grownBy w (some b)) {c o : Nat} (hp : c = b ∨ a.heap.size ≤ c) (u : Value) : a.grownBy (w.setCell ⟨c, o, none⟩ u) (some b) :=
  ⟨h.os, h.tape, h.output, by simpa [World.setCell] using h.size, fun i hi hne => (Below.heap_setCell w ⟨c, o, none⟩ u i (by
    rintro rfl
    rcases hp with hp | hp
    · exact hne (by simp [hp])
    · omega)).trans (h.block i hi hne)⟩
theorem grown_trans {b : Option Nat} {a c : World} (h : a.grownBy w b) (k : w.grownBy c b) : a.grownBy c b :=
  ⟨k.os.trans h.os, k.tape.trans h.tape, k.output.trans h.output, Nat.le_trans h.size k.size, fun i hi hn => (k.block i (Nat.lt_of_lt_of_le hi h.size) hn).trans (h.block i hi hn)⟩
theorem grown_of_below {a : World} (h : Below a.heap.size a w) (b : Option Nat) : a.grownBy w b := ⟨h.os, h.tape, h.output, h.size, fun i hi _ => h.block i hi⟩
theorem below_of_grown {B b : Nat} {a : World} (h : a.grownBy w (some b)) (hB : B ≤ a.heap.size) (hb : B ≤ b) : Below B a w :=
  (Below.refl B a).grown h hB (fun k hk => by cases hk; exact hb)
end
end Go.Proofs.Ytpgnebhlnkoajaa

/-
  Marks: how deeds open, and what they hold together. Conditions: those of each theorem.
-/
import Derived.Test.YtdionganlmnlkaaDPure
import Derived.Test.YtdionganlmnlkaaDKeys
import Derived.Test.YtdionganlmnlkaaRows
import Derived.Lib.SmallJoins
namespace Go.Proofs.Ytdionganlmnlkaa
open Go.ChangeShapes Go.WideShapes Go.ChangeAt Go.RowKit Go.Joins Go.Deep

instance : Inhabited Rf := ⟨⟨false, 0, 0, 0, 0⟩⟩
/-- A deed: its kind, a cell, its references, whether it has a formula. -/
structure DdV where
  kd : Int
  row : Int
  col : Int
  A : Option Addr
  cap : Nat
  L : List Rf
  fm : Bool
instance : Inhabited DdV := ⟨⟨0, 0, 0, none, 0, [], false⟩⟩
def tot (D : List DdV) : Nat := (D.map fun d => d.L.length + 1).sum
def DeedsAt (w : World) (A : Option Addr) (D : List DdV) : Prop := ∀ i d, D[i]? = some d → ∃ b off, A = some ⟨b, off, none⟩ ∧ b < w.heap.size ∧ (w.cell? ⟨b, off + i * 5, none⟩ = some (.int .i64 d.kd) ∧ w.cell? ⟨b, off + i * 5 + 1, none⟩ = some (.int .i64 d.row) ∧ w.cell? ⟨b, off + i * 5 + 2, none⟩ = some (.int .i64 d.col) ∧ w.cell? ⟨b, off + i * 5 + 3, none⟩ = some (.slice d.A d.L.length d.cap) ∧ w.cell? ⟨b, off + i * 5 + 4, none⟩ = some (.bool d.fm)) ∧ Lies KF w d.A d.L ∧ rngC ⟨d.row, d.col⟩ ∧ i64P d.kd
section
variable {H : Type} {enc : TypeId × Value → H} {W : World} {r : Reach} {b0 base : Nat} {sp : Nat → Bool} {hd : Bool} {v : Value} {d : DataW H} {p : List MemPlace}
theorem bulk_one (d : DataW H) : 1 ≤ Rows.uptoBulk d := by
  cases d with
  | lit l => cases l <;> simp [Rows.uptoBulk]
  | nil => simp [Rows.uptoBulk]
  | ptr d => simp [Rows.uptoBulk]
  | slice elems spare => simp [Rows.uptoBulk]
  | agg parts => simp [Rows.uptoBulk]
  | iface t d => simp [Rows.uptoBulk]
  | map entries => simp [Rows.uptoBulk]
  | held h => simp [Rows.uptoBulk]
theorem bulk_part {d : DataW H} {l : List (DataW H)} (h : d ∈ l) : Rows.uptoBulk d ≤ Rows.uptoBulkAll l := by
  induction l with
  | nil => cases h
  | cons x r ih =>
    simp only [Rows.uptoBulkAll]
    cases List.mem_cons.1 h with
    | inl e => subst e; omega
    | inr e => have := ih e; omega
theorem bulk_len (l : List (DataW H)) : l.length ≤ Rows.uptoBulkAll l := by
  induction l with
  | nil => simp [Rows.uptoBulkAll]
  | cons x r ih => have := bulk_one x; simp only [Rows.uptoBulkAll, List.length_cons]; omega
theorem bulk_tot (f : Nat → DdV) (D : Nat → DataW H) : ∀ l : List Nat, (∀ i, i ∈ l → (f i).L.length + 1 ≤ Rows.uptoBulk (D i)) → tot (l.map f) ≤ Rows.uptoBulkAll (l.map D)
  | [], _ => by simp [tot]
  | i :: l, h => by
    have h1 := h i (by simp)
    have h2 := bulk_tot f D l (fun j hj => h j (by simp [hj]))
    unfold tot at h2 ⊢
    simp only [List.map_cons, List.sum_cons, Rows.uptoBulkAll]
    omega
set_option maxRecDepth 100000 in
theorem open_refs {fuel len cap : Nat} {A : Option Addr} {x : DataW H × List MemPlace} (h : DataW.trod enc Try.prog W base sp hd fuel 33 [.slice A len cap] = some x) :
    ∃ L : List Rf, L.length = len ∧ Lies KF W A L ∧ len + 1 ≤ Rows.uptoBulk x.1 := by
  rcases open_slice Try.underlying33 h with ⟨h0, rfl⟩ | ⟨a, len', cap', m, n, D, Pl, hcs, _, hl, hc, hm, hx, hi⟩
  · simp only [List.cons.injEq, Value.slice.injEq, and_true] at h0
    obtain ⟨rfl, rfl, rfl⟩ := h0
    exact ⟨[], rfl, Lies.nil _ _, by simp [Rows.uptoBulk]⟩
  · simp only [List.cons.injEq, Value.slice.injEq, and_true] at hcs
    obtain ⟨rfl, rfl, rfl⟩ := hcs
    have hlm : len ≤ m := by rw [hm]; split <;> omega
    have key : ∀ i, i < len → ∃ x : Rf, ∀ j u, (KF.enc x)[j]? = some u → W.cell? ((a.add (i * 5)).add j) = some u := by
      intro i hil
      obtain ⟨cs', hcs', ht'⟩ := hi i (by omega)
      rw [show Try.prog.cellsOf 53 = 5 by kernel_rfl] at hcs'
      obtain ⟨_, _, hat⟩ := World.cells?_some hcs'
      obtain ⟨z0, e0⟩ := leaf_bool (n := 5) ht' (o := 0) (t' := 4) (by kernel_rfl) Try.underlying4
      obtain ⟨z1, e1, _⟩ := leaf_int (n := 5) ht' (o := 1) (t' := 3) (by kernel_rfl) Try.underlying3
      obtain ⟨z2, e2, _⟩ := leaf_int (n := 5) ht' (o := 2) (t' := 3) (by kernel_rfl) Try.underlying3
      obtain ⟨z3, e3, _⟩ := leaf_int (n := 5) ht' (o := 3) (t' := 3) (by kernel_rfl) Try.underlying3
      obtain ⟨z4, e4, _⟩ := leaf_int (n := 5) ht' (o := 4) (t' := 3) (by kernel_rfl) Try.underlying3
      refine ⟨⟨z0, z1, z2, z3, z4⟩, fun j u hu => ?_⟩
      have hj : j < 5 := (List.getElem?_eq_some_iff.1 hu).1
      rw [hat j hj]
      rcases (show j = 0 ∨ j = 1 ∨ j = 2 ∨ j = 3 ∨ j = 4 by omega) with rfl | rfl | rfl | rfl | rfl
      · exact e0.trans hu
      · exact e1.trans hu
      · exact e2.trans hu
      · exact e3.trans hu
      · exact e4.trans hu
    obtain ⟨f, hf⟩ := choose_lt (α := Rf) (p := fun i x => ∀ j u, (KF.enc x)[j]? = some u → W.cell? ((a.add (i * 5)).add j) = some u) key
    refine ⟨(List.range len).map f, by simp, fun i x hx => ?_, ?_⟩
    · have hil : i < len := by
        have := (List.getElem?_eq_some_iff.1 hx).1
        simpa using this
      have hxe : x = f i := by
        simp [hil] at hx
        exact hx.symm
      subst hxe
      have h0 := hf 0 (by omega) 0 _ rfl
      rw [Nat.zero_mul] at h0
      have hlt0 : a = ⟨a.block, a.off, none⟩ ∧ a.block < W.heap.size := addr_of_cell (by simpa [Addr.add] using h0)
      refine ⟨a.block, a.off, by rw [← hlt0.1], hlt0.2, fun j u hu => ?_⟩
      have hc := hf i hil j u hu
      rw [hlt0.1, addr_add, addr_add] at hc
      exact hc
    · rw [hx]
      have := bulk_len ((List.range len).map D)
      simp only [Rows.uptoBulk]
      rw [List.length_map, List.length_range] at this
      omega
set_option maxRecDepth 100000 in
theorem open_deed {fuel : Nat} {cs : List Value} {x : DataW H × List MemPlace} (h : DataW.trod enc Try.prog W base sp hd fuel 35 cs = some x) :
    ∃ e : DdV, (cs[0]? = some (.int .i64 e.kd) ∧ cs[1]? = some (.int .i64 e.row) ∧ cs[2]? = some (.int .i64 e.col) ∧ cs[3]? = some (.slice e.A e.L.length e.cap) ∧ cs[4]? = some (.bool e.fm)) ∧ Lies KF W e.A e.L ∧ rngC ⟨e.row, e.col⟩ ∧ i64P e.kd ∧ e.L.length + 1 ≤ Rows.uptoBulk x.1 := by
  obtain ⟨zk, ek, rk⟩ := leaf_int (n := 5) h (o := 0) (t' := 3) (by kernel_rfl) Try.underlying3
  obtain ⟨z0, e0, r0⟩ := leaf_int (n := 5) h (o := 1) (t' := 3) (by kernel_rfl) Try.underlying3
  obtain ⟨z1, e1, r1⟩ := leaf_int (n := 5) h (o := 2) (t' := 3) (by kernel_rfl) Try.underlying3
  obtain ⟨zf, ef⟩ := leaf_bool (n := 5) h (o := 4) (t' := 4) (by kernel_rfl) Try.underlying4
  obtain ⟨xs, n, _, rfl, _, hlen, hf⟩ := DataW.trod_struct Try.underlying35 h
  have h1 := hf 2 _ rfl
  have hx1 : 2 < xs.length := by rw [hlen]; decide
  rw [List.getElem?_eq_getElem hx1] at h1
  have hmem : xs[2].1 ∈ xs.map (·.1) := List.mem_map.2 ⟨xs[2], List.getElem_mem hx1, rfl⟩
  have hb := bulk_part hmem
  obtain ⟨vA, vn, vc, hv⟩ : ∃ vA n c, (cs.drop 3).take (Try.prog.cellsOf 33) = [.slice vA n c] := by
    rcases open_slice Try.underlying33 h1 with ⟨h0, _⟩ | ⟨a, len', cap', m, n, D, Pl, hcs, _⟩
    · exact ⟨_, _, _, h0⟩
    · exact ⟨_, _, _, hcs⟩
  have h1' : DataW.trod enc Try.prog W base sp hd n 33 ((cs.drop 3).take (Try.prog.cellsOf 33)) = some xs[2] := h1
  rw [hv] at h1'
  obtain ⟨L, rfl, hL, hbl⟩ := open_refs h1'
  refine ⟨⟨zk, z0, z1, vA, vc, L, zf⟩, ⟨ek, e0, e1, ?_, ef⟩, hL, ⟨i64_of_wf r0, i64_of_wf r1⟩, i64_of_wf rk, ?_⟩
  · have h3 : ((cs.drop 3).take (Try.prog.cellsOf 33))[0]? = some (.slice vA L.length vc) := by rw [hv]; rfl
    rw [List.getElem?_take] at h3
    split at h3
    · rw [List.getElem?_drop] at h3
      exact h3
    · cases h3
  · simp only [Rows.uptoBulk]
    have hb' := hb
    omega
set_option maxRecDepth 100000 in
theorem open_deeds (hv : Value.okWide Try.prog W r b0 22 v) (h : DataW.Trod enc Try.prog W base sp hd 22 v d p) :
    ∃ A cap D, v = .slice A D.length cap ∧ DeedsAt W A D ∧ tot D + 1 ≤ Rows.uptoBulk d := by
  obtain ⟨A, len, cap, rfl⟩ := okWide_slice Try.underlying22 hv
  obtain ⟨fuel, hf⟩ := h
  rcases open_slice Try.underlying22 hf with ⟨h0, hx⟩ | ⟨a, len', cap', m, n, D, Pl, hcs, _, hl, hc, hm, hx, hi⟩
  · simp only [Value.cells, List.cons.injEq, Value.slice.injEq, and_true] at h0
    obtain ⟨rfl, rfl, rfl⟩ := h0
    exact ⟨none, 0, [], rfl, fun i d hd => by simp at hd, by have := bulk_one d; simpa [tot] using this⟩
  · simp only [Value.cells, List.cons.injEq, Value.slice.injEq, and_true] at hcs
    obtain ⟨rfl, rfl, rfl⟩ := hcs
    have hlm : len ≤ m := by rw [hm]; split <;> omega
    have key : ∀ i, i < len → ∃ e : DdV, (W.cell? ((a.add (i * 5)).add 0) = some (.int .i64 e.kd) ∧ W.cell? ((a.add (i * 5)).add 1) = some (.int .i64 e.row) ∧ W.cell? ((a.add (i * 5)).add 2) = some (.int .i64 e.col) ∧ W.cell? ((a.add (i * 5)).add 3) = some (.slice e.A e.L.length e.cap) ∧ W.cell? ((a.add (i * 5)).add 4) = some (.bool e.fm)) ∧ Lies KF W e.A e.L ∧ rngC ⟨e.row, e.col⟩ ∧ i64P e.kd ∧ e.L.length + 1 ≤ Rows.uptoBulk (D i) := by
      intro i hil
      obtain ⟨cs', hcs', ht'⟩ := hi i (by omega)
      rw [show Try.prog.cellsOf 35 = 5 by kernel_rfl] at hcs'
      obtain ⟨_, _, hat⟩ := World.cells?_some hcs'
      obtain ⟨e, ⟨h0, h1, h2, h3, h4⟩, h5⟩ := open_deed ht'
      exact ⟨e, ⟨(hat 0 (by omega)).trans h0, (hat 1 (by omega)).trans h1, (hat 2 (by omega)).trans h2, (hat 3 (by omega)).trans h3, (hat 4 (by omega)).trans h4⟩, h5⟩
    obtain ⟨f, hf'⟩ := choose_lt (α := DdV) (p := fun i e => (W.cell? ((a.add (i * 5)).add 0) = some (.int .i64 e.kd) ∧ W.cell? ((a.add (i * 5)).add 1) = some (.int .i64 e.row) ∧ W.cell? ((a.add (i * 5)).add 2) = some (.int .i64 e.col) ∧ W.cell? ((a.add (i * 5)).add 3) = some (.slice e.A e.L.length e.cap) ∧ W.cell? ((a.add (i * 5)).add 4) = some (.bool e.fm)) ∧ Lies KF W e.A e.L ∧ rngC ⟨e.row, e.col⟩ ∧ i64P e.kd ∧ e.L.length + 1 ≤ Rows.uptoBulk (D i)) key
    refine ⟨some a, cap, (List.range len).map f, by simp, fun i e he => ?_, ?_⟩
    · have hil : i < len := by
        have := (List.getElem?_eq_some_iff.1 he).1
        simpa using this
      have hxe : e = f i := by
        simp [hil] at he
        exact he.symm
      subst hxe
      have h0 := (hf' 0 (by omega)).1.1
      rw [Nat.zero_mul] at h0
      have hlt0 : a = ⟨a.block, a.off, none⟩ ∧ a.block < W.heap.size := addr_of_cell (by simpa [Addr.add] using h0)
      obtain ⟨⟨h0, h1, h2, h3, h4⟩, h5, h6, h7, _⟩ := hf' i hil
      rw [hlt0.1, addr_add, addr_add] at h0 h1 h2 h3 h4
      exact ⟨a.block, a.off, by rw [← hlt0.1], hlt0.2, ⟨h0, h1, h2, h3, h4⟩, h5, h6, h7⟩
    · obtain ⟨rfl, _⟩ := Prod.mk.inj hx
      have := bulk_tot f D (List.range len) (fun i hi => (hf' i (by simpa using hi)).2.2.2.2)
      simp only [Rows.uptoBulk]
      omega
end
set_option maxRecDepth 100000 in
theorem open_cell2 {H : Type} {enc : TypeId × Value → H} {W : World} {r : Reach} {b0 base : Nat} {sp : Nat → Bool} {hd : Bool} {v : Value} {d : DataW H} {p : List MemPlace}
    (hv : Value.okWide Try.prog W r b0 32 v) (h : DataW.Trod enc Try.prog W base sp hd 32 v d p) :
    ∃ row col, v = .agg #[.int .i64 row, .int .i64 col] ∧ i64P row ∧ i64P col := by
  obtain ⟨cs, rfl, hsz⟩ := okWide_struct Try.underlying32 hv
  obtain ⟨u0, u1, rfl⟩ := array2 (hsz.trans (by kernel_rfl))
  obtain ⟨fuel, hf⟩ := h
  obtain ⟨x, hx, wx⟩ := leaf_int (n := 3) hf (o := 0) (t' := 3) (by kernel_rfl) Try.underlying3
  obtain ⟨y, hy, wy⟩ := leaf_int (n := 3) hf (o := 1) (t' := 3) (by kernel_rfl) Try.underlying3
  simp [Value.cells] at hx hy
  subst hx hy
  exact ⟨x, y, rfl, i64_of_wf wx, i64_of_wf wy⟩
theorem tot_take {D : List DdV} {k : Nat} {d : DdV} (h : D[k]? = some d) : tot (D.take (k + 1)) = tot (D.take k) + (d.L.length + 1) := by
  unfold tot
  rw [List.take_add_one, h]
  simp
theorem tot_le : ∀ (D : List DdV) (k : Nat), tot (D.take k) ≤ tot D
  | [], k => by simp
  | d :: D, 0 => by simp [tot]
  | d :: D, k + 1 => by
    have := tot_le D k
    unfold tot at *
    simp only [List.take_succ_cons, List.map_cons, List.sum_cons]
    omega
theorem tot_len : ∀ (D : List DdV), D.length ≤ tot D
  | [] => by simp
  | d :: D => by
    have := tot_len D
    unfold tot at *
    simp only [List.length_cons, List.map_cons, List.sum_cons]
    omega
end Go.Proofs.Ytdionganlmnlkaa

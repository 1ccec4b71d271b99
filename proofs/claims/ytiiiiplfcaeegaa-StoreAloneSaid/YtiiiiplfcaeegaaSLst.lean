/-
  A list of cells that the walk has built by appends: what it holds. Conditions: those of each theorem.
-/
import Derived.Test.YtiiiiplfcaeegaaSOrd
import Derived.OwnWalk
namespace Go.Proofs.Ytiiiiplfcaeegaa
open Go.ChangeShapes Go.WideShapes Go.ChangeAt Go.RowKit Go.Deep

def cellsOf2 (L : List (Int × Int)) : List Value := L.flatMap fun x => [.int .i64 x.1, .int .i64 x.2]
theorem cellsOf2_add (L : List (Int × Int)) (x : Int × Int) : cellsOf2 (L ++ [x]) = cellsOf2 L ++ [.int .i64 x.1, .int .i64 x.2] := by simp [cellsOf2]
theorem cellsOf2_at : ∀ (L : List (Int × Int)) (i : Nat) (x : Int × Int), L[i]? = some x → (cellsOf2 L)[i * 2]? = some (.int .i64 x.1) ∧ (cellsOf2 L)[i * 2 + 1]? = some (.int .i64 x.2)
  | [], i, x, h => by simp at h
  | y :: L, 0, x, h => by
    simp at h
    subst h
    exact ⟨rfl, rfl⟩
  | y :: L, i + 1, x, h => by
    have := cellsOf2_at L i x (by simpa using h)
    rw [show (i + 1) * 2 = i * 2 + 1 + 1 by omega]
    exact this

/-- The value is a list that this call has built, of these cells. -/
def Lst (w : World) (B : Nat) (v : Value) (L : List (Int × Int)) : Prop := w.ownsRow B 41 2 v L.length (cellsOf2 L)

theorem Lst.nil (w : World) (B : Nat) : Lst w B (.slice none 0 0) [] := World.ownsRow_nil _ _ _ _
theorem Lst.see {w : World} {B : Nat} {v : Value} {L : List (Int × Int)} (h : Lst w B v L) : ∃ A cap, v = .slice A L.length cap ∧
    ∀ i x, L[i]? = some x → ∃ g, A = some ⟨g, 0, none⟩ ∧ B ≤ g ∧ g < w.heap.size ∧ w.cell? ⟨g, i * 2, none⟩ = some (.int .i64 x.1) ∧ w.cell? ⟨g, i * 2 + 1, none⟩ = some (.int .i64 x.2) := by
  have hc := fun g => World.ownsRow.cells (g := g) h
  have hl := h.lt
  rcases h.2 with ⟨h1, h2⟩ | ⟨g, cap, cur, rfl, hb, hg, hn, hm, hs, ht⟩
  · have hL := List.length_eq_zero_iff.1 h2
    subst hL
    exact ⟨none, 0, h1, fun i x hx => by simp at hx⟩
  · refine ⟨_, cap, rfl, fun i x hx => ⟨g, rfl, hb, (hl g rfl).2, ?_⟩⟩
    obtain ⟨h1, h2⟩ := cellsOf2_at L i x hx
    have c1 := hc g rfl _ _ h1
    have c2 := hc g rfl _ _ h2
    rw [addr_add, Nat.zero_add] at c1 c2
    exact ⟨c1, c2⟩
theorem Lst.below {w w' : World} {B : Nat} {v : Value} {L : List (Int × Int)} (h : Lst w B v L) (hb : Below w.heap.size w w') : Lst w' B v L := by
  refine ⟨h.1, ?_⟩
  rcases h.2 with h1 | ⟨g, cap, cur, rfl, hB, hg, rest⟩
  · exact .inl h1
  · exact .inr ⟨g, cap, cur, rfl, hB, (hb.block g (Array.getElem?_eq_some_iff.1 hg).1).trans hg, rest⟩
theorem Lst.alloc {w : World} {B : Nat} {v : Value} {L : List (Int × Int)} (h : Lst w B v L) (o : Obj) : Lst (w.alloc o) B v L := h.below (bel_alloc (bel_refl w) o)
theorem Lst.frm {w w' : World} {S : Nat → Prop} {B : Nat} {v : Value} {L : List (Int × Int)} (h : Lst w B v L) (hf : Frm S w w') (hS : ∀ g, v.ownBlock = some g → ¬ S g) : Lst w' B v L := by
  refine ⟨h.1, ?_⟩
  rcases h.2 with h1 | ⟨g, cap, cur, rfl, hB, hg, rest⟩
  · exact .inl h1
  · exact .inr ⟨g, cap, cur, rfl, hB, (hf.block g (Array.getElem?_eq_some_iff.1 hg).1 (hS g rfl)).trans hg, rest⟩
theorem Lst.set {w : World} {B : Nat} {v : Value} {L : List (Int × Int)} (h : Lst w B v L) {b : Nat} (hb : ∀ g, v.ownBlock = some g → g ≠ b) (o : Nat) (u : Value) : Lst (w.setCell ⟨b, o, none⟩ u) B v L := by
  refine ⟨h.1, ?_⟩
  rcases h.2 with h1 | ⟨g, cap, cur, rfl, hB, hg, rest⟩
  · exact .inl h1
  · exact .inr ⟨g, cap, cur, rfl, hB, (Below.heap_setCell w ⟨b, o, none⟩ u g (hb g rfl)).trans hg, rest⟩

theorem Lst.grown {w w' : World} {row : Option Nat} {B : Nat} {v : Value} {L : List (Int × Int)} (h : Lst w B v L) (hg : w.grownBy w' row) (hr : ∀ g, v.ownBlock = some g → row ≠ some g) : Lst w' B v L := by
  refine ⟨h.1, ?_⟩
  rcases h.2 with h1 | ⟨g, cap, cur, rfl, hB, hc, rest⟩
  · exact .inl h1
  · exact .inr ⟨g, cap, cur, rfl, hB, (hg.block g (Array.getElem?_eq_some_iff.1 hc).1 (fun e => hr g rfl e.symm)).trans hc, rest⟩

/-- A list's own block is none of the store's. -/
theorem Lst.apart {w : World} {B : Nat} {v : Value} {L : List (Int × Int)} {sb : Nat} {ch rb : Nat → Option Nat} {g : Grid} {cnt : Int} (h : Lst w B v L) (hS : SIs w sb ch rb g cnt) : ∀ z, v.ownBlock = some z → ¬ own sb ch rb z := by
  intro z hz ho
  rcases h.2 with ⟨rfl, _⟩ | ⟨g', cap, cur, rfl, hB, hg, rest⟩
  · cases hz
  · cases hz
    have key : ∀ {t n : Nat} {f : Nat → Value}, w.rowIs g' t n f → t ≠ 41 → False := by
      intro t n f hr hne
      obtain ⟨c1, e1, _⟩ := hr
      rw [hg] at e1
      injection e1 with e1
      injection e1 with _ e1
      exact hne e1.symm
    rcases ho with rfl | ⟨i, hi, hb⟩ | ⟨r, hr, hb⟩
    · exact key hS.top (by decide)
    · exact key (hS.chk i hi _ hb) (by decide)
    · exact key (hS.row r hr _ hb) (by decide)

theorem Frm.grown {a w w' : World} {S : Nat → Prop} {row : Option Nat} (h : Frm S a w) (hg : w.grownBy w' row) (hr : ∀ g, row = some g → S g ∨ a.heap.size ≤ g) : Frm S a w' := by
  refine ⟨hg.os.trans h.os, hg.tape.trans h.tape, hg.output.trans h.output, Nat.le_trans h.size hg.size, fun k hk hn => ?_⟩
  refine (hg.block k (Nat.lt_of_lt_of_le hk h.size) ?_).trans (h.block k hk hn)
  intro e
  rcases hr k e.symm with h1 | h1
  · exact hn h1
  · omega

theorem info_cell : (Try.prog.info? 41).map (fun i => (i.zero, i.size, i.bytes)) = some (some (.agg #[.int .i64 0, .int .i64 0]), 2, 16) := by kernel_rfl

theorem wp_lst_append {w : World} {ops : Array Oper} {rest : List Oper} {o : Oper} {a : Act} {Q : Exit → Act → World → Prop} (hgd : o.guard = none) (s x : Operand)
    (ho : o.op = .call { callee := .builtin .append, args := #[s, x], argTypes := #[22, 22] }) (B : Nat) (v : Value) (L : List (Int × Int)) (hs : a.eval s = v) (hL : Lst w B v L)
    (g c : Nat) (y : Int × Int) (hx : a.eval x = .slice (some ⟨g, 0, none⟩) 1 c) (h0 : w.cell? ⟨g, 0, none⟩ = some (.int .i64 y.1)) (h1 : w.cell? ⟨g, 1, none⟩ = some (.int .i64 y.2))
    (hl : (L.length + 1) * 16 ≤ 140737488355328) (hB : B ≤ w.heap.size)
    (h : ∀ v' w', Lst w' B v' (L ++ [y]) → w.grownBy w' v.ownBlock → wpList Try.prog ops Q rest (a.put o.dst v') w') : wpList Try.prog ops Q (o :: rest) a w := by
  obtain ⟨i0, hi0, hz0, hz1, hz2⟩ := info_parts info_cell
  refine wpList_append_own (P := Try.prog) w hgd s x 22 ho B 41 i0 (.agg #[.int .i64 0, .int .i64 0]) 2 16 Try.underlying22 hi0 hz0 hz1 hz2 rfl (by decide) v L.length (cellsOf2 L) hs hL ⟨g, 0, none⟩ 1 c
    [.int .i64 y.1, .int .i64 y.2] hx rfl ?_ ?_ ?_ hl hB ?_
  · intro j u hj
    match j, hj with
    | 0, hj => simp at hj; subst hj; exact h0
    | 1, hj => simp at hj; subst hj; exact h1
  · intro u hu
    simp at hu
    rcases hu with rfl | rfl <;> rfl
  · unfold maxLen; omega
  · intro v' w' hown hg _
    refine h v' w' ?_ hg
    unfold Lst
    rw [cellsOf2_add, List.length_append]
    exact hown

/-- The cells of the first k that lie in the rectangle and may be. -/
def insOf (cr cc : Nat → Int) (t l b r : Int) : Nat → List (Int × Int)
  | 0 => []
  | k + 1 => if mayB (cr k) (cc k) = true ∧ inB t l b r (cr k) (cc k) = true then insOf cr cc t l b r k ++ [(cr k, cc k)] else insOf cr cc t l b r k
theorem insOf_len (cr cc : Nat → Int) (t l b r : Int) : ∀ k, (insOf cr cc t l b r k).length ≤ k
  | 0 => Nat.le_refl _
  | k + 1 => by
    have := insOf_len cr cc t l b r k
    unfold insOf
    split
    · simp; omega
    · omega
theorem insOf_mem (cr cc : Nat → Int) (t l b r : Int) (x : Int × Int) : ∀ k, x ∈ insOf cr cc t l b r k ↔ ∃ j, j < k ∧ mayB (cr j) (cc j) = true ∧ inB t l b r (cr j) (cc j) = true ∧ x = (cr j, cc j)
  | 0 => by simp [insOf]
  | k + 1 => by
    have ih := insOf_mem cr cc t l b r x k
    unfold insOf
    constructor
    · intro h
      split at h
      · rename_i hc
        rcases List.mem_append.1 h with h | h
        · obtain ⟨j, hj, hh⟩ := ih.1 h
          exact ⟨j, by omega, hh⟩
        · simp at h
          exact ⟨k, by omega, hc.1, hc.2, h⟩
      · obtain ⟨j, hj, hh⟩ := ih.1 h
        exact ⟨j, by omega, hh⟩
    · rintro ⟨j, hj, h1, h2, h3⟩
      by_cases e : j = k
      · subst e
        rw [if_pos ⟨h1, h2⟩]
        simp [h3]
      · have := ih.2 ⟨j, by omega, h1, h2, h3⟩
        split
        · exact List.mem_append_left _ this
        · exact this

/-- A cell's place in the walk. -/
def posOf (x : Int × Int) : Int := (x.1 - 1) * 256 + x.2

/-- What the walk has told: each once, in order, all that lie before p. -/
structure Told (g : Grid) (t l b r : Int) (I T : List (Int × Int)) (p : Nat) : Prop where
  nd : T.Nodup
  sub : ∀ x, x ∈ T → x ∈ I
  low : ∀ x, x ∈ T → posOf x ≤ p
  all : ∀ q d, hit g t l b r 0 0 q d → ((q : Int) + 1, (d : Int) + 1) ∈ T ∨ p < q * 256 + d + 1

theorem hit_after {g : Grid} {t l b r ax ay : Int} {p q d : Nat} (hP : PosIs p ax ay) (h : hit g t l b r 0 0 q d) (hp : p < q * 256 + d + 1) : hit g t l b r ax ay q d := by
  refine ⟨h.1, h.2.1, h.2.2.1, h.2.2.2.1, ?_⟩
  have h1 := h.1
  have h2 := h.2.1
  rcases hP with ⟨e1, e2, e3⟩ | ⟨q', d', e1, e2, e3, e4, e5⟩
  · omega
  · by_cases e : q' = q
    · right; omega
    · left; omega
theorem Told.zero (g : Grid) (t l b r : Int) (I : List (Int × Int)) : Told g t l b r I [] 0 := ⟨by simp, by simp, by simp, fun q d _ => .inr (by omega)⟩
theorem Told.next {g : Grid} {t l b r ax ay : Int} {I T : List (Int × Int)} {p q d : Nat} (h : Told g t l b r I T p) (hP : PosIs p ax ay) (hn : IsNext g t l b r ax ay (some (q, d))) (hI : ((q : Int) + 1, (d : Int) + 1) ∈ I) :
    Told g t l b r I (T ++ [((q : Int) + 1, (d : Int) + 1)]) (q * 256 + d + 1) := by
  have hp := (hP.next hn.1).2
  refine ⟨?_, ?_, ?_, ?_⟩
  · refine List.nodup_append.2 ⟨h.nd, by simp, ?_⟩
    intro x hx y hy e
    simp at hy
    subst hy
    subst e
    have := h.low _ hx
    simp [posOf] at this
    omega
  · intro x hx
    rcases List.mem_append.1 hx with hx | hx
    · exact h.sub x hx
    · simp at hx
      subst hx
      exact hI
  · intro x hx
    rcases List.mem_append.1 hx with hx | hx
    · have := h.low x hx
      omega
    · simp at hx
      subst hx
      simp [posOf]
      omega
  · intro q' d' hh
    rcases h.all q' d' hh with h1 | h1
    · exact .inl (List.mem_append_left _ h1)
    · have h2 := hn.2 q' d' (hit_after hP hh h1)
      have h3 := hh.2.1
      have h4 := hn.1.2.1
      dsimp only at h2 h4
      by_cases e : q' = q ∧ d' = d
      · obtain ⟨rfl, rfl⟩ := e
        exact .inl (by simp)
      · right
        rcases h2 with h2 | ⟨h2, h5⟩
        · omega
        · have : d ≠ d' := fun e2 => e ⟨h2.symm, e2.symm⟩
          omega
theorem Told.full {g : Grid} {t l b r ax ay : Int} {I T : List (Int × Int)} {p : Nat} (h : Told g t l b r I T p) (hP : PosIs p ax ay) (hn : IsNext g t l b r ax ay none) : ∀ q d, hit g t l b r 0 0 q d → ((q : Int) + 1, (d : Int) + 1) ∈ T := fun q d hh => by
  rcases h.all q d hh with h1 | h1
  · exact h1
  · exact absurd (hit_after hP hh h1) (hn q d)

theorem ins_of_hit {x : Addr} {cr cc : Nat → Int} {n : Nat} {t l b r ax ay : Int} {q d : Nat} (h : hit (putsG x cr cc n) t l b r ax ay q d) : ((q : Int) + 1, (d : Int) + 1) ∈ insOf cr cc t l b r n ∧ inB t l b r ((q : Int) + 1) ((d : Int) + 1) = true ∧ putsG x cr cc n q d = some x := by
  obtain ⟨h1, h2, h3, h4, h5⟩ := h
  rw [putsG_at] at h3
  have hin : inB t l b r ((q : Int) + 1) ((d : Int) + 1) = true := inB_mk (by omega)
  by_cases hc : ∃ j, j < n ∧ mayB (cr j) (cc j) = true ∧ cr j = (q : Int) + 1 ∧ cc j = (d : Int) + 1
  · refine ⟨?_, hin, by rw [putsG_at, if_pos hc]⟩
    obtain ⟨j, hj, hm, e1, e2⟩ := hc
    exact (insOf_mem cr cc t l b r _ n).2 ⟨j, hj, hm, by rw [e1, e2]; exact hin, by rw [e1, e2]⟩
  · rw [if_neg hc] at h3
    cases h3
theorem hit_of_ins {x : Addr} {cr cc : Nat → Int} {n : Nat} {t l b r : Int} {y : Int × Int} (h : y ∈ insOf cr cc t l b r n) : ∃ q d : Nat, y = ((q : Int) + 1, (d : Int) + 1) ∧ hit (putsG x cr cc n) t l b r 0 0 q d := by
  obtain ⟨j, hj, hm, hi, rfl⟩ := (insOf_mem cr cc t l b r _ n).1 h
  have b1 := mayB_true hm
  have b2 := inB_true hi
  refine ⟨(cr j - 1).toNat, (cc j - 1).toNat, ?_, by omega, by omega, ?_, by omega, by omega⟩
  · ext <;> dsimp only <;> omega
  · rw [putsG_at, if_pos ⟨j, hj, hm, by omega, by omega⟩]
    rfl

theorem bel_grown {a w w' : World} {row : Option Nat} (h : Below a.heap.size a w) (hg : w.grownBy w' row) (hr : ∀ g, row = some g → a.heap.size ≤ g) : Below a.heap.size a w' :=
  ((Frm.grown (S := fun _ => False) ⟨h.os, h.tape, h.output, h.size, fun k hk _ => h.block k hk⟩ hg (fun g hg => .inr (hr g hg)))).below (fun _ h => h.elim)

/-- No more of them are there than of the others. -/
theorem nodup_le : ∀ (T I : List (Int × Int)), T.Nodup → (∀ x, x ∈ T → x ∈ I) → T.length ≤ I.length
  | [], _, _, _ => Nat.zero_le _
  | x :: T, I, h, hs => by
    have h1 := List.nodup_cons.1 h
    have h2 : x ∈ I := hs x (by simp)
    have := nodup_le T (I.erase x) h1.2 (fun y hy => (List.mem_erase_of_ne (by rintro rfl; exact h1.1 hy)).2 (hs y (by simp [hy])))
    rw [List.length_erase_of_mem h2] at this
    have h3 := List.length_pos_of_mem h2
    simp
    omega
end Go.Proofs.Ytiiiiplfcaeegaa

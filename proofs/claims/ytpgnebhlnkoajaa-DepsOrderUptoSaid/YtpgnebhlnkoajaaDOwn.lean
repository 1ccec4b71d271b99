/-
  Deps: lists of deeds; of each cell the first; what deeds to unlike cells leave. Conditions: those of each theorem.
-/
import Derived.Test.YtpgnebhlnkoajaaDChar
import Derived.Test.YtpgnebhlnkoajaaDBack
namespace Go.Proofs.Ytpgnebhlnkoajaa
open Go.ChangeShapes Go.WideShapes Go.ChangeAt Go.RowKit Go.Deep

def KW : Knd DdV where
  t := 35
  size := 3
  bytes := 40
  enc d := [.int .i64 d.row, .int .i64 d.col, .slice d.A d.L.length d.cap]
  len _ := rfl
  one x u hu := by
    simp at hu
    rcases hu with rfl | rfl | rfl <;> rfl
  pos := by omega
theorem info_kw : (Try.prog.info? KW.t).map (fun i => (i.zero, i.size, i.bytes)) = some (some (.agg #[.int .i64 0, .int .i64 0, .slice none 0 0]), KW.size, KW.bytes) := by kernel_rfl
theorem dd_at {w : World} {A : Option Addr} {L : List DdV} (h : Lies KW w A L) {i : Nat} {x : DdV} (hx : L[i]? = some x) : ∃ g off, A = some ⟨g, off, none⟩ ∧ g < w.heap.size ∧ w.cell? ⟨g, off + i * 3, none⟩ = some (.int .i64 x.row) ∧ w.cell? ⟨g, off + i * 3 + 1, none⟩ = some (.int .i64 x.col) ∧ w.cell? ⟨g, off + i * 3 + 2, none⟩ = some (.slice x.A x.L.length x.cap) := by
  obtain ⟨g, off, h1, h2, h3⟩ := h i x hx
  exact ⟨g, off, h1, h2, h3 0 _ rfl, h3 1 _ rfl, h3 2 _ rfl⟩
/-- Does one of them stand for this cell? -/
def seenB (d : DdV) (o : List DdV) : Bool := o.any fun x => decide (cD x = cD d)
def fstS (o : List DdV) (d : DdV) : List DdV := if seenB d o = true then o else o ++ [d]
def fstD (D : List DdV) : List DdV := D.foldl fstS []
theorem seen_take {d x : DdV} {o : List DdV} {k : Nat} (h : o[k]? = some x) : seenB d (o.take (k + 1)) = (seenB d (o.take k) || decide (cD x = cD d)) := by
  unfold seenB
  rw [List.take_add_one, h, List.any_append]
  simp
theorem fst_take {D : List DdV} {k : Nat} {d : DdV} (h : D[k]? = some d) : fstD (D.take (k + 1)) = fstS (fstD (D.take k)) d := by
  unfold fstD
  rw [List.take_add_one, h, List.foldl_append]
  rfl
theorem fst_from : ∀ (D o : List DdV), (∀ x, x ∈ D.foldl fstS o → x ∈ o ∨ x ∈ D) ∧ (o.Pairwise (fun x y => cD x ≠ cD y) → (D.foldl fstS o).Pairwise (fun x y => cD x ≠ cD y)) ∧ tot (D.foldl fstS o) ≤ tot o + tot D
  | [], o => ⟨fun x h => .inl h, id, by simp [tot]⟩
  | d :: D, o => by
    obtain ⟨h1, h2, h3⟩ := fst_from D (fstS o d)
    have ht : tot (fstS o d) ≤ tot o + (d.L.length + 1) := by
      unfold fstS
      split
      · omega
      · unfold tot
        simp
    refine ⟨fun x hx => ?_, fun hp => h2 ?_, ?_⟩
    · rcases h1 x hx with h | h
      · unfold fstS at h
        split at h
        · exact .inl h
        · rcases List.mem_append.1 h with h | h
          · exact .inl h
          · exact .inr (by rw [List.mem_singleton.1 h]; simp)
      · exact .inr (List.mem_cons_of_mem _ h)
    · unfold fstS
      split
      · exact hp
      · rename_i hs
        rw [List.pairwise_append]
        refine ⟨hp, List.pairwise_singleton _ _, fun a ha b hb => ?_⟩
        rw [List.mem_singleton.1 hb]
        exact fun e => hs (List.any_eq_true.2 ⟨a, ha, decide_eq_true e⟩)
    · rw [List.foldl_cons]
      unfold tot at *
      simp only [List.map_cons, List.sum_cons]
      omega
theorem tot_rev (D : List DdV) : tot D.reverse = tot D := by
  unfold tot
  rw [List.map_reverse, List.sum_reverse]
/-- Deeds to unlike cells. -/
theorem ch_apart {D : List DdV} (hp : D.Pairwise (fun x y => cD x ≠ cD y)) (e : Ed) : chS D (fun _ => True) D.length e ↔ ∃ d, d ∈ D ∧ setE (cD d) d.L = 0 ∧ eCl e = cD d ∧ eRf e ∈ d.L := by
  constructor
  · rintro ⟨i, d, _, h2, _, h4, h5, h6, _⟩
    exact ⟨d, List.mem_of_getElem? h2, h4, h5, h6⟩
  · rintro ⟨d, hd, h4, h5, h6⟩
    obtain ⟨i, hi⟩ := List.getElem?_of_mem hd
    have hil := (List.getElem?_eq_some_iff.1 hi).1
    refine ⟨i, d, hil, hi, trivial, h4, h5, h6, fun k d' j1 j2 j3 _ j5 => ?_⟩
    obtain ⟨g1, g2⟩ := List.getElem?_eq_some_iff.1 hi
    obtain ⟨g3, g4⟩ := List.getElem?_eq_some_iff.1 j3
    have := List.pairwise_iff_getElem.1 hp i k g1 g3 j1
    rw [g2, g4] at this
    exact absurd j5.symm this
theorem apart_rev {D : List DdV} (hp : D.Pairwise (fun x y => cD x ≠ cD y)) : D.reverse.Pairwise (fun x y => cD x ≠ cD y) := by
  rw [List.pairwise_reverse]
  exact hp.imp fun h e => h e.symm
end Go.Proofs.Ytpgnebhlnkoajaa

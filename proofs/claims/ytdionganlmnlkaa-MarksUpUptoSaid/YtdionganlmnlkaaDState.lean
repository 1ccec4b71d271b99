/-
  Deps: what it holds, told by the sorted list of edges; contracts over it. Conditions: those of each theorem.
-/
import Derived.Test.YtdionganlmnlkaaDEdg
namespace Go.Proofs.Ytdionganlmnlkaa
open Go.ChangeShapes Go.WideShapes Go.ChangeAt Go.RowKit Go.Deep

/-- One edge more. -/
def addE (l : List Ed) (e : Ed) : List Ed := if e ∈ l then l else insE e l
/-- What Set leaves, as a sorted list. -/
def setD (c : Cl) (L : List Rf) (Es : List Ed) : List Ed := if setE c L = 0 then (L.map (mkE c)).foldl addE (Es.filter fun e => decide (eCl e ≠ c)) else Es
theorem mem_addE (l : List Ed) (e x : Ed) : x ∈ addE l e ↔ x ∈ l ∨ x = e := by
  unfold addE
  split
  · rename_i h
    exact ⟨.inl, fun h1 => h1.elim id (fun h2 => by rw [h2]; exact h)⟩
  · rw [mem_insE]
    exact Or.comm
theorem srt_addE {l : List Ed} (h : SrtE l) (e : Ed) : SrtE (addE l e) := by
  unfold addE
  split
  · exact h
  · rename_i h1
    exact srt_insE h h1
theorem len_addE (l : List Ed) (e : Ed) : (addE l e).length ≤ l.length + 1 := by
  unfold addE
  split
  · omega
  · have := cbE_le e l
    unfold insE
    simp
    omega
theorem fold_addE : ∀ (M l : List Ed), SrtE l → SrtE (M.foldl addE l) ∧ (∀ x, x ∈ M.foldl addE l ↔ x ∈ l ∨ x ∈ M) ∧ (M.foldl addE l).length ≤ l.length + M.length
  | [], l, h => ⟨h, fun x => by simp, by simp⟩
  | e :: M, l, h => by
    obtain ⟨h1, h2, h3⟩ := fold_addE M (addE l e) (srt_addE h e)
    refine ⟨h1, fun x => ?_, ?_⟩
    · rw [List.foldl_cons, h2 x, mem_addE, List.mem_cons, or_assoc]
    · have := len_addE l e
      rw [List.foldl_cons, List.length_cons]
      omega
theorem srt_filter {l : List Ed} (h : SrtE l) (p : Ed → Bool) : SrtE (l.filter p) := List.Pairwise.sublist List.filter_sublist h
theorem setD_spec {c : Cl} {L : List Rf} {Es : List Ed} (h : SrtE Es) : SrtE (setD c L Es) ∧ (setD c L Es).length ≤ Es.length + L.length := by
  unfold setD
  split
  · obtain ⟨h1, _, h3⟩ := fold_addE (L.map (mkE c)) _ (srt_filter h (fun e => decide (eCl e ≠ c)))
    refine ⟨h1, ?_⟩
    have := List.length_filter_le (fun e => decide (eCl e ≠ c)) Es
    rw [List.length_map] at h3
    omega
  · exact ⟨h, by omega⟩
theorem mem_setD {c : Cl} {L : List Rf} {Es : List Ed} (h : SrtE Es) (h0 : setE c L = 0) (e : Ed) : e ∈ setD c L Es ↔ (eCl e ≠ c ∧ e ∈ Es) ∨ (eCl e = c ∧ eRf e ∈ L) := by
  unfold setD
  rw [if_pos h0, (fold_addE (L.map (mkE c)) _ (srt_filter h (fun e => decide (eCl e ≠ c)))).2.1 e, List.mem_filter, decide_eq_true_iff, List.mem_map]
  constructor
  · rintro (h1 | ⟨r, hr, rfl⟩)
    · exact .inl ⟨h1.2, h1.1⟩
    · exact .inr ⟨rfl, hr⟩
  · rintro (h1 | ⟨h1, h2⟩)
    · exact .inl ⟨h1.2, h1.1⟩
    · exact .inr ⟨eRf e, h2, by rw [← h1]; exact mkE_of e⟩
theorem setD_no {c : Cl} {L : List Rf} {Es : List Ed} (h0 : setE c L ≠ 0) : setD c L Es = Es := if_neg h0
/-- Whom Direct tells, by the sorted list. -/
def toP (e : Ed) : Pr := ⟨e.row, e.col, e.t, e.l, e.b, e.r⟩
def drs (row col : Int) (Es : List Ed) : List Cl := Es.foldl (fun o e => ovS row col o (toP e)) []
theorem cell_leE {p q : Ed} (h : ltE p q) : (⟨p.row, p.col⟩ : Cl) = ⟨q.row, q.col⟩ ∨ ltC ⟨p.row, p.col⟩ ⟨q.row, q.col⟩ := by
  unfold ltE at h
  simp only [ltC, Cl.mk.injEq]
  omega
theorem drs_from (row col : Int) : ∀ (L : List Ed) (out : List Cl), SrtE L → SrtC out → (∀ x, x ∈ out → ∀ p, p ∈ L → x = (⟨p.row, p.col⟩ : Cl) ∨ ltC x ⟨p.row, p.col⟩) →
    SrtC (L.foldl (fun o e => ovS row col o (toP e)) out) ∧ ∀ x, x ∈ L.foldl (fun o e => ovS row col o (toP e)) out ↔ x ∈ out ∨ ∃ p, p ∈ L ∧ inB p.t p.l p.b p.r row col = true ∧ x = (⟨p.row, p.col⟩ : Cl)
  | [], out, _, h2, _ => ⟨h2, fun x => ⟨.inl, fun h => h.elim id (fun ⟨p, hp, _⟩ => by cases hp)⟩⟩
  | p :: L, out, h1, h2, h3 => by
    rw [SrtE, List.pairwise_cons] at h1
    obtain ⟨s1, s2⟩ := ovS_spec row col out (toP p) h2 (fun x hx => h3 x hx p (by simp))
    obtain ⟨r1, r2⟩ := drs_from row col L (ovS row col out (toP p)) h1.2 s1 (fun x hx q hq => by
      rcases (s2 x).1 hx with h | ⟨_, rfl⟩
      · exact h3 x h q (by simp [hq])
      · exact cell_leE (h1.1 q hq))
    refine ⟨r1, fun x => ?_⟩
    rw [List.foldl_cons, r2 x, s2 x]
    constructor
    · rintro ((h | h) | ⟨q, hq, h⟩)
      · exact .inl h
      · exact .inr ⟨p, by simp, h⟩
      · exact .inr ⟨q, by simp [hq], h⟩
    · rintro (h | ⟨q, hq, h⟩)
      · exact .inl (.inl h)
      · rcases List.mem_cons.1 hq with rfl | hq
        · exact .inl (.inr h)
        · exact .inr ⟨q, hq, h⟩
theorem drs_spec (row col : Int) {L : List Ed} (h : SrtE L) : SrtC (drs row col L) ∧ ∀ x, x ∈ drs row col L ↔ ∃ p, p ∈ L ∧ inB p.t p.l p.b p.r row col = true ∧ x = eCl p := by
  obtain ⟨h1, h2⟩ := drs_from row col L [] h List.Pairwise.nil (fun x hx => by cases hx)
  exact ⟨h1, fun x => (h2 x).trans (by simp [eCl])⟩

/-- What Deps holds: the edges of a sorted list, at most N; its blocks are O's. -/
def DS (w : World) (db N : Nat) (Ow : Nat → Prop) (Es : List Ed) : Prop :=
  ∃ fm tm bb O Ps f t E Wh, DMem w db fm tm bb N O Ps f t E Wh ∧ DRel Ps Wh E ∧ (∀ z, Ow z ↔ ownD db fm tm O f t z) ∧ SrtE Es ∧ (∀ e, e ∈ Es ↔ eRf e ∈ E (eCl e)) ∧ Es.length ≤ N
section
variable {w w' : World} {db N : Nat} {Ow : Nat → Prop} {Es : List Ed}
theorem DS.lt (h : DS w db N Ow Es) : ∀ z, Ow z → z < w.heap.size := fun z hz => by
  obtain ⟨fm, tm, bb, O, Ps, f, t, E, Wh, h1, _, h2, _⟩ := h
  exact h1.lt ((h2 z).1 hz)
theorem DS.frm (h : DS w db N Ow Es) {S : Nat → Prop} (hF : Frm S w w') (hn : ∀ z, Ow z → ¬ S z) : DS w' db N Ow Es := by
  obtain ⟨fm, tm, bb, O, Ps, f, t, E, Wh, h1, h2, h3, h4⟩ := h
  exact ⟨fm, tm, bb, O, Ps, f, t, E, Wh, h1.frm_ hF (fun z hz => hn z ((h3 z).2 hz)), h2, h3, h4⟩
theorem DS.below (h : DS w db N Ow Es) (hb : Below w.heap.size w w') : DS w' db N Ow Es := h.frm (Frm.of_below (S := fun _ => False) hb) (fun _ _ => id)
theorem DS.mono (h : DS w db N Ow Es) {N' : Nat} (hN : N ≤ N') : DS w db N' Ow Es := by
  obtain ⟨fm, tm, bb, O, Ps, f, t, E, Wh, h1, h2, h3, h4, h5, h6⟩ := h
  exact ⟨fm, tm, bb, O, Ps, f, t, E, Wh, h1.mono hN, h2, h3, h4, h5, by omega⟩
theorem DS.srt (h : DS w db N Ow Es) : SrtE Es := by
  obtain ⟨fm, tm, bb, O, Ps, f, t, E, Wh, h1, h2, h3, h4, h5, h6⟩ := h
  exact h4
theorem DS.len (h : DS w db N Ow Es) : Es.length ≤ N := by
  obtain ⟨fm, tm, bb, O, Ps, f, t, E, Wh, h1, h2, h3, h4, h5, h6⟩ := h
  exact h6
theorem DS.ok (h : DS w db N Ow Es) : ∀ e, e ∈ Es → okR (eRf e) = true ∧ mayB e.row e.col = true := by
  obtain ⟨fm, tm, bb, O, Ps, f, t, E, Wh, h1, h2, h3, h4, h5, h6⟩ := h
  exact fun e he => h2.ok _ _ ((h5 e).1 he)
end
theorem ds_new (w : World) : Calls Try.prog 19 #[] w fun e w' => ∃ db Ow, e = .returned (.pointer (some ⟨db, 0, none⟩)) ∧ DS w' db 0 Ow [] ∧ (∀ z, Ow z → w.heap.size ≤ z) ∧ Below w.heap.size w w' := by
  refine (dnew_any w).mono ?_
  rintro e w' ⟨db, fm, tm, bb, O, rfl, h, hO, hb⟩
  exact ⟨db, ownD db fm tm O (fun _ => none) (fun _ => none), rfl, ⟨fm, tm, bb, O, [], _, _, _, _, h, ⟨fun p => by simp, fun s x => by simp, fun c x hx => (by cases hx), fun c => List.nodup_nil⟩, fun z => Iff.rfl, List.Pairwise.nil, fun e => by simp, Nat.le_refl _⟩, hO, hb⟩
/-- What Set leaves. -/
def DsSet (w : World) (db N : Nat) (Ow : Nat → Prop) (Es : List Ed) (c : Cl) (L : List Rf) (e : Ending) (w' : World) : Prop :=
  ∃ Ow', e = .returned (.int .i64 (setE c L)) ∧ DS w' db (N + 2 * L.length + 1) Ow' (setD c L Es) ∧ Frm Ow w w' ∧ ∀ z, Ow' z → Ow z ∨ w.heap.size ≤ z
theorem ds_set (db N : Nat) (Ow : Nat → Prop) (Es : List Ed) (row col : Int) (L : List Rf) (A : Option Addr) (cap : Nat) (w : World) (h : DS w db N Ow Es) (hA : Lies KF w A L) (hAn : ∀ x, x ∈ L → ∀ b off, A = some ⟨b, off, none⟩ → ¬ Ow b) (hN : N + 2 * L.length + 1 ≤ 1099511627776) :
    Calls Try.prog 10 #[.pointer (some ⟨db, 0, none⟩), .agg #[.int .i64 row, .int .i64 col], .slice A L.length cap] w (DsSet w db N Ow Es ⟨row, col⟩ L) := by
  obtain ⟨fm, tm, bb, O, Ps, f, t, E, Wh, h1, h2, h3, h4, h5, h6⟩ := h
  refine (dset_any db fm tm bb N O Ps f t E Wh row col L A cap w h1 h2 hA (fun x hx b off hb hz => hAn x hx b off hb ((h3 b).2 hz)) hN (by omega)).mono ?_
  rintro e w' ⟨O', Ps', f', t', Wh', rfl, k1, k2, hF, hO⟩
  have hF' : Frm Ow w w' := ⟨hF.os, hF.tape, hF.output, hF.size, fun k hk hn => hF.block k hk (fun hz => hn ((h3 k).2 hz))⟩
  obtain ⟨s1, s2⟩ := setD_spec (c := ⟨row, col⟩) (L := L) h4
  refine ⟨ownD db fm tm O' f' t', rfl, ⟨fm, tm, bb, O', Ps', f', t', _, Wh', k1, k2, fun z => Iff.rfl, s1, fun e => ?_, by omega⟩, hF', fun z hz => (hO z hz).imp (fun h => (h3 z).2 h) id⟩
  by_cases h0 : setE ⟨row, col⟩ L = 0
  · rw [mem_setD h4 h0, show setF E ⟨row, col⟩ L = upE E ⟨row, col⟩ (ddp L) from if_pos h0]
    by_cases hc : eCl e = ⟨row, col⟩
    · rw [hc, upE_same, mem_ddp]
      exact ⟨fun h => h.elim (fun h => absurd rfl h.1) (fun h => h.2), fun h => .inr ⟨rfl, h⟩⟩
    · rw [upE_other _ _ hc, ← h5 e]
      exact ⟨fun h => h.elim (fun h => h.2) (fun h => absurd h.1 hc), fun h => .inl ⟨hc, h⟩⟩
  · rw [setD_no h0, show setF E ⟨row, col⟩ L = E from if_neg h0]
    exact h5 e
theorem ds_direct (db N : Nat) (Ow : Nat → Prop) (Es : List Ed) (row col : Int) (w : World) (h : DS w db N Ow Es) (hrc : rngC ⟨row, col⟩) (hN : N ≤ 1099511627776) :
    Calls Try.prog 33 #[.pointer (some ⟨db, 0, none⟩), .agg #[.int .i64 row, .int .i64 col]] w (DirIs w (drs row col Es)) := by
  obtain ⟨fm, tm, bb, O, Ps, f, t, E, Wh, h1, h2, h3, h4, h5, h6⟩ := h
  obtain ⟨s1, s2⟩ := drs_spec row col h4
  refine ddirect_any db fm tm bb N O Ps f t E E Wh row col _ w h1 h2 hrc s1 (fun x => ?_) hN
  rw [s2 x]
  constructor
  · rintro ⟨p, hp, hi, rfl⟩
    exact ⟨eRf p, (h5 p).1 hp, hi⟩
  · rintro ⟨r, hr, hi⟩
    exact ⟨mkE x r, (h5 _).2 hr, hi, rfl⟩
end Go.Proofs.Ytdionganlmnlkaa

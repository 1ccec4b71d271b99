/-
  Deps, plain: what bands and single cells keep is what the cells refer to; one reference taken, one added. Conditions: those of each theorem.
-/
import Derived.Test.YtdionganlmnlkaaDFun
namespace Go.Proofs.Ytdionganlmnlkaa

structure DRel (Ps : List Pr) (Wh : Cl → List Cl) (E : Cl → List Rf) : Prop where
  pr : ∀ p, p ∈ Ps ↔ (⟨true, p.t, p.l, p.b, p.r⟩ : Rf) ∈ E ⟨p.row, p.col⟩
  wh : ∀ s x, x ∈ Wh s ↔ (⟨false, s.row, s.col, s.row, s.col⟩ : Rf) ∈ E x
  ok : ∀ c x, x ∈ E c → okR x = true ∧ mayB c.row c.col = true
  nd : ∀ c, (E c).Nodup
def mkP (c : Cl) (x : Rf) : Pr := ⟨c.row, c.col, x.t, x.l, x.b, x.r⟩
def upE (E : Cl → List Rf) (c : Cl) (D : List Rf) (q : Cl) : List Rf := if q = c then D else E q
theorem upE_same (E : Cl → List Rf) (c : Cl) (D : List Rf) : upE E c D c = D := if_pos rfl
theorem upE_other (E : Cl → List Rf) {c q : Cl} (D : List Rf) (h : q ≠ c) : upE E c D q = E q := if_neg h
theorem okR_one {x : Rf} (h : okR x = true) (hm : x.m = false) : x = ⟨false, x.t, x.l, x.t, x.l⟩ := by
  obtain ⟨m, t, l, b, r⟩ := x
  dsimp only at hm
  subst hm
  simp [okR] at h
  obtain ⟨_, rfl, rfl⟩ := h
  rfl
section
variable {Ps : List Pr} {Wh : Cl → List Cl} {E : Cl → List Rf} {c : Cl} {x : Rf} {D : List Rf}
theorem DRel.cutM (h : DRel Ps Wh E) (hs : SrtP Ps) (hE : E c = x :: D) (hx : x.m = true) : DRel (Ps.erase (mkP c x)) Wh (upE E c D) := by
  have hnd := h.nd c
  rw [hE, List.nodup_cons] at hnd
  refine ⟨fun p => ?_, fun s y => ?_, fun q y hy => ?_, fun q => ?_⟩
  · rw [mem_erase_srt hs, h.pr p]
    by_cases e : (⟨p.row, p.col⟩ : Cl) = c
    · rw [e, upE_same, hE, List.mem_cons]
      have hp : p = mkP c x ↔ (⟨true, p.t, p.l, p.b, p.r⟩ : Rf) = x := by
        obtain ⟨a1, a2, a3, a4, a5, a6⟩ := p
        obtain ⟨m, t, l, b, r⟩ := x
        dsimp only at hx
        subst hx e
        simp [mkP]
      constructor
      · rintro ⟨h1 | h1, h2⟩
        · exact absurd (hp.2 h1) h2
        · exact h1
      · intro h1
        exact ⟨.inr h1, fun h2 => hnd.1 (hp.1 h2 ▸ h1)⟩
    · rw [upE_other E D e]
      exact ⟨fun h1 => h1.1, fun h1 => ⟨h1, fun h2 => e (by rw [h2]; rfl)⟩⟩
  · rw [h.wh s y]
    by_cases e : y = c
    · subst e
      rw [upE_same, hE, List.mem_cons]
      exact ⟨fun h1 => h1.resolve_left (fun h2 => by rw [← h2] at hx; cases hx), .inr⟩
    · rw [upE_other E D e]
  · by_cases e : q = c
    · subst e
      rw [upE_same] at hy
      exact h.ok q y (by rw [hE]; exact List.mem_cons_of_mem _ hy)
    · rw [upE_other E D e] at hy
      exact h.ok q y hy
  · by_cases e : q = c
    · subst e
      rw [upE_same]
      exact hnd.2
    · rw [upE_other E D e]
      exact h.nd q
theorem DRel.cutS (h : DRel Ps Wh E) (hE : E c = x :: D) (hx : x.m = false) : DRel Ps (fun q => if q = ⟨x.t, x.l⟩ then (Wh ⟨x.t, x.l⟩).filter (fun y => decide (y ≠ c)) else Wh q) (upE E c D) := by
  have hnd := h.nd c
  have hxo := okR_one (h.ok c x (by rw [hE]; simp)).1 hx
  rw [hE, List.nodup_cons] at hnd
  refine ⟨fun p => ?_, fun s y => ?_, fun q y hy => ?_, fun q => ?_⟩
  · rw [h.pr p]
    by_cases e : (⟨p.row, p.col⟩ : Cl) = c
    · rw [e, upE_same, hE, List.mem_cons]
      exact ⟨fun h1 => h1.resolve_left (fun h2 => by rw [← h2] at hx; cases hx), .inr⟩
    · rw [upE_other E D e]
  · by_cases es : s = ⟨x.t, x.l⟩
    · simp only [if_pos es]
      rw [List.mem_filter, decide_eq_true_iff, h.wh]
      have hs1 : (⟨false, s.row, s.col, s.row, s.col⟩ : Rf) = x := by rw [es]; exact hxo.symm
      rw [show (⟨false, x.t, x.l, x.t, x.l⟩ : Rf) = x from hxo.symm, hs1]
      by_cases e : y = c
      · subst e
        rw [upE_same]
        exact ⟨fun h1 => absurd rfl h1.2, fun h1 => absurd h1 hnd.1⟩
      · rw [upE_other E D e]
        exact ⟨fun h1 => h1.1, fun h1 => ⟨h1, e⟩⟩
    · simp only [if_neg es]
      rw [h.wh]
      by_cases e : y = c
      · subst e
        rw [upE_same, hE, List.mem_cons]
        refine ⟨fun h1 => h1.resolve_left (fun h2 => es ?_), .inr⟩
        rw [← h2]
      · rw [upE_other E D e]
  · by_cases e : q = c
    · subst e
      rw [upE_same] at hy
      exact h.ok q y (by rw [hE]; exact List.mem_cons_of_mem _ hy)
    · rw [upE_other E D e] at hy
      exact h.ok q y hy
  · by_cases e : q = c
    · subst e
      rw [upE_same]
      exact hnd.2
    · rw [upE_other E D e]
      exact h.nd q
theorem nodup_snoc {L : List Rf} (h : L.Nodup) (hx : x ∉ L) : (L ++ [x]).Nodup := by
  rw [List.nodup_append]
  exact ⟨h, by simp, fun a ha b hb => by rw [List.mem_singleton.1 hb]; rintro rfl; exact hx ha⟩
theorem DRel.addM (h : DRel Ps Wh E) (hx : x.m = true) (hok : okR x = true) (hc : mayB c.row c.col = true) (hno : x ∉ E c) : DRel (addP (mkP c x) Ps) Wh (upE E c (E c ++ [x])) := by
  have hokp : okP (mkP c x) := by
    unfold okR at hok
    rw [Bool.and_eq_true] at hok
    exact ⟨hok.1, hc⟩
  refine ⟨fun p => ?_, fun s y => ?_, fun q y hy => ?_, fun q => ?_⟩
  · rw [mem_addP, h.pr p]
    have hp : p = mkP c x ↔ (⟨p.row, p.col⟩ : Cl) = c ∧ (⟨true, p.t, p.l, p.b, p.r⟩ : Rf) = x := by
      obtain ⟨a1, a2, a3, a4, a5, a6⟩ := p
      obtain ⟨m, t, l, b, r⟩ := x
      obtain ⟨c1, c2⟩ := c
      dsimp only at hx
      subst hx
      simp [mkP]
      constructor
      · rintro ⟨h1, h2, h3, h4, h5, h6⟩; exact ⟨⟨h1, h2⟩, h3, h4, h5, h6⟩
      · rintro ⟨⟨h1, h2⟩, h3, h4, h5, h6⟩; exact ⟨h1, h2, h3, h4, h5, h6⟩
    by_cases e : (⟨p.row, p.col⟩ : Cl) = c
    · rw [e, upE_same, List.mem_append, List.mem_singleton]
      exact ⟨fun h1 => h1.elim .inl (fun h2 => .inr (hp.1 h2.2).2), fun h1 => h1.elim .inl (fun h2 => .inr ⟨hokp, hp.2 ⟨e, h2⟩⟩)⟩
    · rw [upE_other E _ e]
      exact ⟨fun h1 => h1.elim id (fun h2 => absurd (hp.1 h2.2).1 e), .inl⟩
  · rw [h.wh s y]
    by_cases e : y = c
    · subst e
      rw [upE_same, List.mem_append, List.mem_singleton]
      exact ⟨.inl, fun h1 => h1.resolve_right (fun h2 => by rw [← h2] at hx; cases hx)⟩
    · rw [upE_other E _ e]
  · by_cases e : q = c
    · subst e
      rw [upE_same, List.mem_append, List.mem_singleton] at hy
      rcases hy with hy | rfl
      · exact h.ok q y hy
      · exact ⟨hok, hc⟩
    · rw [upE_other E _ e] at hy
      exact h.ok q y hy
  · by_cases e : q = c
    · subst e
      rw [upE_same]
      exact nodup_snoc (h.nd q) hno
    · rw [upE_other E _ e]
      exact h.nd q
theorem DRel.addS (h : DRel Ps Wh E) (hx : x.m = false) (hok : okR x = true) (hc : mayB c.row c.col = true) (hno : x ∉ E c) : DRel Ps (fun q => if q = ⟨x.t, x.l⟩ then c :: Wh ⟨x.t, x.l⟩ else Wh q) (upE E c (E c ++ [x])) := by
  have hxo := okR_one hok hx
  refine ⟨fun p => ?_, fun s y => ?_, fun q y hy => ?_, fun q => ?_⟩
  · rw [h.pr p]
    by_cases e : (⟨p.row, p.col⟩ : Cl) = c
    · rw [e, upE_same, List.mem_append, List.mem_singleton]
      exact ⟨.inl, fun h1 => h1.resolve_right (fun h2 => by rw [← h2] at hx; cases hx)⟩
    · rw [upE_other E _ e]
  · by_cases es : s = ⟨x.t, x.l⟩
    · have hs1 : (⟨false, s.row, s.col, s.row, s.col⟩ : Rf) = x := by rw [es]; exact hxo.symm
      simp only [if_pos es]
      rw [List.mem_cons, h.wh, show (⟨false, x.t, x.l, x.t, x.l⟩ : Rf) = x from hxo.symm, hs1]
      by_cases e : y = c
      · subst e
        rw [upE_same, List.mem_append, List.mem_singleton]
        exact ⟨fun _ => .inr rfl, fun _ => .inl rfl⟩
      · rw [upE_other E _ e]
        exact ⟨fun h1 => h1.resolve_left e, .inr⟩
    · simp only [if_neg es]
      rw [h.wh]
      by_cases e : y = c
      · subst e
        rw [upE_same, List.mem_append, List.mem_singleton]
        refine ⟨.inl, fun h1 => h1.resolve_right (fun h2 => es ?_)⟩
        rw [← h2]
      · rw [upE_other E _ e]
  · by_cases e : q = c
    · subst e
      rw [upE_same, List.mem_append, List.mem_singleton] at hy
      rcases hy with hy | rfl
      · exact h.ok q y hy
      · exact ⟨hok, hc⟩
    · rw [upE_other E _ e] at hy
      exact h.ok q y hy
  · by_cases e : q = c
    · subst e
      rw [upE_same]
      exact nodup_snoc (h.nd q) hno
    · rw [upE_other E _ e]
      exact h.nd q
end
/-- A list without what stands twice: the first of each. -/
def ddS (o : List Rf) (x : Rf) : List Rf := if x ∈ o then o else o ++ [x]
def ddp (L : List Rf) : List Rf := L.foldl ddS []
theorem ddp_take {L : List Rf} {k : Nat} {x : Rf} (h : L[k]? = some x) : ddp (L.take (k + 1)) = ddS (ddp (L.take k)) x := by
  unfold ddp
  rw [List.take_add_one, h, List.foldl_append]
  rfl
theorem mem_dd : ∀ (L o : List Rf) (x : Rf), x ∈ L.foldl ddS o ↔ x ∈ o ∨ x ∈ L
  | [], o, x => by simp
  | y :: L, o, x => by
    rw [List.foldl_cons, mem_dd L, List.mem_cons]
    unfold ddS
    split
    · rename_i hy
      constructor
      · rintro (h | h)
        · exact .inl h
        · exact .inr (.inr h)
      · rintro (h | rfl | h)
        · exact .inl h
        · exact .inl hy
        · exact .inr h
    · rw [List.mem_append, List.mem_singleton, or_assoc]
theorem mem_ddp (L : List Rf) (x : Rf) : x ∈ ddp L ↔ x ∈ L := by rw [ddp, mem_dd]; simp
theorem ddp_len : ∀ (L o : List Rf), (L.foldl ddS o).length ≤ o.length + L.length
  | [], o => by simp
  | y :: L, o => by
    have := ddp_len L (ddS o y)
    have h2 : (ddS o y).length ≤ o.length + 1 := by
      unfold ddS
      split
      · omega
      · simp
    rw [List.foldl_cons, List.length_cons]
    omega
end Go.Proofs.Ytdionganlmnlkaa

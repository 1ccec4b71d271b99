/-
  Marks: what a touch does, as a relation. Conditions: those of each theorem.
-/
import Derived.Test.YtdionganlmnlkaaMMem
namespace Go.Proofs.Ytdionganlmnlkaa
open Go.ChangeShapes Go.WideShapes Go.ChangeAt Go.RowKit Go.Deep

/-- Who refers to y directly. -/
def drc (Es : List Ed) (y : Cl) : List Cl := drs y.row y.col Es
/-- The state is clean (or there is none). -/
def cln (o : Option Int) : Prop := o.getD 0 = 0
instance (o : Option Int) : Decidable (cln o) := by unfold cln; infer_instance
theorem cln_2 : ¬ cln (some 2) := by unfold cln; decide
theorem cln_1 : ¬ cln (some 1) := by unfold cln; decide
theorem upS_same (f : Cl → Option Int) (c : Cl) (s : Option Int) : upS f c s c = s := if_pos rfl
theorem upS_other (f : Cl → Option Int) {c x : Cl} (s : Option Int) (h : x ≠ c) : upS f c s x = f x := if_neg h
theorem drs_len2 (row col : Int) : ∀ (L : List Ed) (out : List Cl), (L.foldl (fun o e => ovS row col o (toP e)) out).length ≤ out.length + L.length
  | [], out => by simp
  | p :: L, out => by
    have h := drs_len2 row col L (ovS row col out (toP p))
    have h2 : (ovS row col out (toP p)).length ≤ out.length + 1 := by
      unfold ovS
      split
      · simp
      · omega
    rw [List.foldl_cons, List.length_cons]
    omega
theorem drc_len (Es : List Ed) (y : Cl) : (drc Es y).length ≤ Es.length := by
  have := drs_len2 y.row y.col Es []
  unfold drc drs
  simpa using this
theorem drc_mem {Es : List Ed} (hs : SrtE Es) {y x : Cl} (h : x ∈ drc Es y) : x ∈ Es.map eCl := by
  obtain ⟨p, h1, _, h2⟩ := ((drs_spec y.row y.col hs).2 x).1 h
  exact List.mem_map.2 ⟨p, h1, h2.symm⟩
theorem nodup_len : ∀ {A B : List Cl}, A.Nodup → (∀ x, x ∈ A → x ∈ B) → A.length ≤ B.length
  | [], _, _, _ => Nat.zero_le _
  | a :: A, B, h, hs => by
    rw [List.nodup_cons] at h
    have ha := hs a (by simp)
    have h1 := nodup_len (A := A) (B := B.erase a) h.2 (fun x hx => (List.mem_erase_of_ne (fun e => h.1 (by rw [← e]; exact hx))).2 (hs x (by simp [hx])))
    have h2 := List.length_erase_of_mem ha
    have h3 : 0 < B.length := List.length_pos_of_mem ha
    rw [List.length_cons]
    omega

/-- A touch of c on its way: f0 before, f now; P was put on the stack; of who refers to c Dn are done. -/
structure TI (Es : List Ed) (c : Cl) (fm : Bool) (f0 f : Cl → Option Int) (P Dn : List Cl) : Prop where
  own : f c = if fm = true then some 2 else none
  due : ∀ x, x ∈ Dn → x ≠ c → f x = some 2
  old : ∀ x, x ≠ c → x ∉ Dn → x ∉ P → f x = f0 x
  psh : ∀ x, x ∈ P → x ≠ c ∧ cln (f0 x) ∧ (f x = some 2 ∨ f x = some 1) ∧ x ∈ Es.map eCl
  mby : ∀ x, x ∈ P → x ∉ Dn → f x = some 1
  nod : P.Nodup
  all : ∀ x, x ∈ Dn → x ≠ c → cln (f0 x) → x ∈ P
  rch : ∀ Q : Cl → Prop, (∀ x, x ∈ drc Es c → x ≠ c → cln (f0 x) → Q x) → (∀ p z, Q p → z ∈ drc Es p → Q z) → ∀ p, p ∈ P → Q p
  sub : ∀ x, x ∈ Dn → x ∈ drc Es c
section
variable {Es : List Ed} {c : Cl} {fm : Bool} {f0 f : Cl → Option Int} {P Dn : List Cl}
theorem TI.start (Es : List Ed) (c : Cl) (fm : Bool) (f0 : Cl → Option Int) : TI Es c fm f0 (upS f0 c (if fm = true then some 2 else none)) [] [] :=
  ⟨upS_same _ _ _, fun x h => (by cases h), fun x h _ _ => upS_other _ _ h, fun x h => (by cases h), fun x h => (by cases h), List.nodup_nil, fun x h => (by cases h), fun _ _ _ p h => (by cases h), fun x h => (by cases h)⟩
theorem TI.self (h : TI Es c fm f0 f P Dn) (hc : c ∈ drc Es c) : TI Es c fm f0 f P (Dn ++ [c]) := by
  have hm : ∀ x, x ∈ Dn ++ [c] → x ≠ c → x ∈ Dn := fun x hx hn => by
    rcases List.mem_append.1 hx with h1 | h1
    · exact h1
    · exact absurd (List.mem_singleton.1 h1) hn
  refine ⟨h.own, fun x hx hn => h.due x (hm x hx hn) hn, fun x hn hx hp => h.old x hn (fun h1 => hx (List.mem_append.2 (.inl h1))) hp, h.psh, fun x hx hn => h.mby x hx (fun h1 => hn (List.mem_append.2 (.inl h1))), h.nod, fun x hx hn hc => h.all x (hm x hx hn) hn hc, h.rch, fun x hx => ?_⟩
  rcases List.mem_append.1 hx with h1 | h1
  · exact h.sub x h1
  · rw [List.mem_singleton.1 h1]; exact hc
theorem TI.fresh (h : TI Es c fm f0 f P Dn) {x : Cl} (hn : x ≠ c) (hc : cln (f x)) : x ∉ Dn ∧ x ∉ P ∧ cln (f0 x) := by
  have h1 : x ∉ Dn := fun hx => cln_2 (by rw [h.due x hx hn] at hc; exact hc)
  have h2 : x ∉ P := fun hx => by
    rcases (h.psh x hx).2.2.1 with e | e <;> rw [e] at hc
    · exact cln_2 hc
    · exact cln_1 hc
  exact ⟨h1, h2, by rw [← h.old x hn h1 h2]; exact hc⟩
theorem TI.nodP (h : TI Es c fm f0 f P Dn) {x : Cl} (hx : x ∉ P) : (P ++ [x]).Nodup := by
  rw [List.nodup_append]
  refine ⟨h.nod, by simp, fun a ha b hb e => ?_⟩
  rw [List.mem_singleton.1 hb] at e
  exact hx (by rw [← e]; exact ha)
theorem TI.dpush (h : TI Es c fm f0 f P Dn) (hs : SrtE Es) {x : Cl} (hn : x ≠ c) (hx : x ∈ drc Es c) (hc : cln (f x)) : TI Es c fm f0 (upS f x (some 2)) (P ++ [x]) (Dn ++ [x]) := by
  obtain ⟨h1, h2, h3⟩ := h.fresh hn hc
  refine ⟨by rw [upS_other _ _ (fun e => hn e.symm)]; exact h.own, fun y hy hyc => ?_, fun y hyc hyd hyp => ?_, fun y hy => ?_, fun y hy hyd => ?_, h.nodP h2, fun y hy hyc hcy => ?_, fun Q q1 q2 p hp => ?_, fun y hy => ?_⟩
  · by_cases e : y = x
    · rw [e, upS_same]
    · rw [upS_other _ _ e]
      rcases List.mem_append.1 hy with h4 | h4
      · exact h.due y h4 hyc
      · exact absurd (List.mem_singleton.1 h4) e
  · have e : y ≠ x := fun e => hyd (by rw [e]; simp)
    rw [upS_other _ _ e]
    exact h.old y hyc (fun h4 => hyd (by simp [h4])) (fun h4 => hyp (by simp [h4]))
  · rcases List.mem_append.1 hy with h4 | h4
    · have e : y ≠ x := fun e => h2 (by rw [← e]; exact h4)
      rw [upS_other _ _ e]
      exact h.psh y h4
    · rw [List.mem_singleton.1 h4, upS_same]
      exact ⟨hn, h3, .inl rfl, drc_mem hs hx⟩
  · rcases List.mem_append.1 hy with h4 | h4
    · have e : y ≠ x := fun e => h2 (by rw [← e]; exact h4)
      rw [upS_other _ _ e]
      exact h.mby y h4 (fun h5 => hyd (by simp [h5]))
    · exact absurd (by rw [List.mem_singleton.1 h4]; simp) hyd
  · rcases List.mem_append.1 hy with h4 | h4
    · exact List.mem_append.2 (.inl (h.all y h4 hyc hcy))
    · exact List.mem_append.2 (.inr h4)
  · rcases List.mem_append.1 hp with h4 | h4
    · exact h.rch Q q1 q2 p h4
    · rw [List.mem_singleton.1 h4]; exact q1 x hx hn h3
  · rcases List.mem_append.1 hy with h4 | h4
    · exact h.sub y h4
    · rw [List.mem_singleton.1 h4]; exact hx
theorem TI.dset (h : TI Es c fm f0 f P Dn) {x : Cl} (hn : x ≠ c) (hx : x ∈ drc Es c) (hc : ¬ cln (f x)) : TI Es c fm f0 (upS f x (some 2)) P (Dn ++ [x]) := by
  refine ⟨by rw [upS_other _ _ (fun e => hn e.symm)]; exact h.own, fun y hy hyc => ?_, fun y hyc hyd hyp => ?_, fun y hy => ?_, fun y hy hyd => ?_, h.nod, fun y hy hyc hcy => ?_, h.rch, fun y hy => ?_⟩
  · by_cases e : y = x
    · rw [e, upS_same]
    · rw [upS_other _ _ e]
      rcases List.mem_append.1 hy with h4 | h4
      · exact h.due y h4 hyc
      · exact absurd (List.mem_singleton.1 h4) e
  · have e : y ≠ x := fun e => hyd (by rw [e]; simp)
    rw [upS_other _ _ e]
    exact h.old y hyc (fun h4 => hyd (by simp [h4])) hyp
  · obtain ⟨p1, p2, p3, p4⟩ := h.psh y hy
    refine ⟨p1, p2, ?_, p4⟩
    by_cases e : y = x
    · rw [e, upS_same]; exact .inl rfl
    · rw [upS_other _ _ e]; exact p3
  · have e : y ≠ x := fun e => hyd (by rw [e]; simp)
    rw [upS_other _ _ e]
    exact h.mby y hy (fun h5 => hyd (by simp [h5]))
  · rcases List.mem_append.1 hy with h4 | h4
    · exact h.all y h4 hyc hcy
    · have e := List.mem_singleton.1 h4
      subst e
      by_cases hd : y ∈ Dn
      · exact h.all y hd hyc hcy
      · by_cases hp : y ∈ P
        · exact hp
        · rw [h.old y hyc hd hp] at hc
          exact absurd hcy hc
  · rcases List.mem_append.1 hy with h4 | h4
    · exact h.sub y h4
    · rw [List.mem_singleton.1 h4]; exact hx
theorem TI.mpush (h : TI Es c fm f0 f P Dn) (hs : SrtE Es) {x l : Cl} (hn : x ≠ c) (hl : l ∈ P) (hx : x ∈ drc Es l) (hc : cln (f x)) : TI Es c fm f0 (upS f x (some 1)) (P ++ [x]) Dn := by
  obtain ⟨h1, h2, h3⟩ := h.fresh hn hc
  refine ⟨by rw [upS_other _ _ (fun e => hn e.symm)]; exact h.own, fun y hy hyc => ?_, fun y hyc hyd hyp => ?_, fun y hy => ?_, fun y hy hyd => ?_, h.nodP h2, fun y hy hyc hcy => List.mem_append.2 (.inl (h.all y hy hyc hcy)), fun Q q1 q2 p hp => ?_, h.sub⟩
  · rw [upS_other _ _ (fun e => h1 (by rw [← e]; exact hy))]
    exact h.due y hy hyc
  · have e : y ≠ x := fun e => hyp (by rw [e]; simp)
    rw [upS_other _ _ e]
    exact h.old y hyc hyd (fun h4 => hyp (by simp [h4]))
  · rcases List.mem_append.1 hy with h4 | h4
    · have e : y ≠ x := fun e => h2 (by rw [← e]; exact h4)
      rw [upS_other _ _ e]
      exact h.psh y h4
    · rw [List.mem_singleton.1 h4, upS_same]
      exact ⟨hn, h3, .inr rfl, drc_mem hs hx⟩
  · rcases List.mem_append.1 hy with h4 | h4
    · have e : y ≠ x := fun e => h2 (by rw [← e]; exact h4)
      rw [upS_other _ _ e]
      exact h.mby y h4 hyd
    · rw [List.mem_singleton.1 h4, upS_same]
  · rcases List.mem_append.1 hp with h4 | h4
    · exact h.rch Q q1 q2 p h4
    · rw [List.mem_singleton.1 h4]; exact q2 l x (h.rch Q q1 q2 l hl) hx
theorem TI.len (h : TI Es c fm f0 f P Dn) : P.length ≤ Es.length := by
  have := nodup_len h.nod (fun x hx => (h.psh x hx).2.2.2)
  rwa [List.length_map] at this
end
/-- Behind l: none that refers to l is clean, but c where its state went. -/
def ClsAt (c : Cl) (fm : Bool) (f : Cl → Option Int) (z : Cl) : Prop := (z = c ∧ fm = false) ∨ ¬ cln (f z)
theorem ClsAt.up {c x : Cl} {fm : Bool} {f : Cl → Option Int} {s : Int} {z : Cl} (h : ClsAt c fm f z) (hs : ¬ cln (some s)) : ClsAt c fm (upS f x (some s)) z := by
  rcases h with h | h
  · exact .inl h
  · refine .inr ?_
    by_cases e : z = x
    · rw [e, upS_same]; exact hs
    · rw [upS_other _ _ e]; exact h
/-- What a touch of c leaves. -/
def TouchIs (Es : List Ed) (c : Cl) (fm : Bool) (f0 f : Cl → Option Int) (pk : Int) : Prop :=
  ∃ P, TI Es c fm f0 f P (drc Es c) ∧ (∀ p, p ∈ P → ∀ z, z ∈ drc Es p → ClsAt c fm f z) ∧ 0 ≤ pk ∧ (P ≠ [] → 1 ≤ pk) ∧ pk ≤ P.length
end Go.Proofs.Ytdionganlmnlkaa

/-
  Marks, plain: what the four laws say of touches. Conditions: those of each theorem.
-/
import Derived.Test.YtdionganlmnlkaaMLoop
namespace Go.Proofs.Ytdionganlmnlkaa

/-! ROOM -/
def stepR (s : Nat × Option Cl) (e : Ed) : Nat × Option Cl := (if s.2 = some (eCl e) then s.1 else s.1 + 1, some (eCl e))
def runsP (L : List Ed) : Nat × Option Cl := L.foldl stepR (0, none)
/-- How many cells refer to something, as the sorted list tells them. -/
def runs (L : List Ed) : Nat := (runsP L).1
theorem runsP_take {L : List Ed} {k : Nat} {x : Ed} (h : L[k]? = some x) : runsP (L.take (k + 1)) = stepR (runsP (L.take k)) x := by
  unfold runsP
  rw [List.take_add_one, h, List.foldl_append]
  rfl
theorem runs_zero {L : List Ed} {x : Ed} (h : L[0]? = some x) : runs (L.take 1) = 1 := by
  unfold runs
  rw [runsP_take h]
  rfl
theorem runs_next {L : List Ed} {k : Nat} {y x : Ed} (hy : L[k]? = some y) (hx : L[k + 1]? = some x) : runs (L.take (k + 1 + 1)) = if eCl y = eCl x then runs (L.take (k + 1)) else runs (L.take (k + 1)) + 1 := by
  unfold runs
  rw [runsP_take hx, runsP_take hy]
  unfold stepR
  by_cases h : eCl y = eCl x
  · simp [h]
  · simp [h]
theorem runs_from : ∀ (L : List Ed) (s : Nat × Option Cl) (o : List Cl), (∀ c, s.2 = some c → c ∈ o) → o.length ≤ s.1 → ∃ o' : List Cl, o'.length ≤ (L.foldl stepR s).1 ∧ (∀ x, x ∈ o → x ∈ o') ∧ ∀ e, e ∈ L → eCl e ∈ o'
  | [], s, o, _, h2 => ⟨o, h2, fun x hx => hx, fun e he => (by cases he)⟩
  | e :: L, s, o, h1, h2 => by
    by_cases h : s.2 = some (eCl e)
    · obtain ⟨o', k1, k2, k3⟩ := runs_from L (stepR s e) o (fun c hc => by
        unfold stepR at hc
        injection hc with hc
        rw [← hc]
        exact h1 _ h) (by unfold stepR; rw [if_pos h]; exact h2)
      refine ⟨o', k1, k2, fun e' he' => ?_⟩
      rcases List.mem_cons.1 he' with rfl | he'
      · exact k2 _ (h1 _ h)
      · exact k3 e' he'
    · obtain ⟨o', k1, k2, k3⟩ := runs_from L (stepR s e) (o ++ [eCl e]) (fun c hc => by
        unfold stepR at hc
        injection hc with hc
        rw [← hc]
        simp) (by unfold stepR; rw [if_neg h, List.length_append, List.length_singleton]; exact Nat.succ_le_succ h2)
      refine ⟨o', k1, fun x hx => k2 x (by simp [hx]), fun e' he' => ?_⟩
      rcases List.mem_cons.1 he' with rfl | he'
      · exact k2 _ (by simp)
      · exact k3 e' he'
theorem runs_ge {L : List Ed} {P : List Cl} (hn : P.Nodup) (hP : ∀ x, x ∈ P → x ∈ L.map eCl) : P.length ≤ runs L := by
  obtain ⟨o', k1, _, k3⟩ := runs_from L (0, none) [] (fun c hc => by cases hc) (Nat.le_refl _)
  refine Nat.le_trans (nodup_len hn (fun x hx => ?_)) k1
  obtain ⟨e, he, rfl⟩ := List.mem_map.1 (hP x hx)
  exact k3 e he
theorem runs_le (L : List Ed) : runs L ≤ L.length := by
  have h : ∀ (L : List Ed) (s : Nat × Option Cl), (L.foldl stepR s).1 ≤ s.1 + L.length := by
    intro L
    induction L with
    | nil => intro s; exact Nat.le_refl _
    | cons e L ih =>
      intro s
      have h1 := ih (stepR s e)
      have h2 : (stepR s e).1 ≤ s.1 + 1 := by
        unfold stepR
        dsimp only
        split <;> omega
      rw [List.foldl_cons, List.length_cons]
      omega
  simpa [runs, runsP] using h L (0, none)
theorem room_touch {Es : List Ed} {c : Cl} {fm : Bool} {f f' : Cl → Option Int} {pk pk' : Int} (h : pk ≤ (runs Es : Int)) (ht : TMay Es c fm f f' pk pk') : pk' ≤ (runs Es : Int) := by
  rcases ht with ⟨_, _, rfl⟩ | ⟨_, P, hT, _, _, _, h3⟩
  · exact h
  · have := runs_ge hT.nod (fun x hx => (hT.psh x hx).2.2.2)
    omega
theorem room_step {Es Es' : List Ed} {c : Cl} {L : List Rf} {fm : Bool} {k : Int} {f f' : Cl → Option Int} {pk pk' : Int} (h : pk ≤ (runs Es : Int)) (hs : StepIs c L fm k Es Es' f f' pk pk') : pk' ≤ (runs Es' : Int) := by
  rcases hs with ⟨_, rfl, ht⟩ | ⟨_, rfl, ht⟩ | ⟨_, rfl, _, rfl⟩ | ⟨_, rfl, _, rfl⟩
  · rcases ht with ⟨h1, h2, h3⟩ | ht
    · rw [setD_nomay h1, h3]; exact h
    · exact room_touch (pk := 0) (by omega) (.inr ht)
  · exact room_touch h ht
  · exact h
  · exact h

/-! UPWARDS -/
theorem drc_iff {Es : List Ed} (hs : SrtE Es) (y x : Cl) : x ∈ drc Es y ↔ ∃ p, p ∈ Es ∧ inB p.t p.l p.b p.r y.row y.col = true ∧ x = eCl p := (drs_spec y.row y.col hs).2 x
theorem drc_set {Es : List Ed} (hs : SrtE Es) {c : Cl} {L : List Rf} {y x : Cl} (hx : x ∈ drc (setD c L Es) y) (hn : x ≠ c) : x ∈ drc Es y := by
  by_cases h0 : setE c L = 0
  · rw [drc_iff (setD_spec hs).1] at hx
    obtain ⟨p, hp, hi, rfl⟩ := hx
    rw [mem_setD hs h0] at hp
    rcases hp with ⟨_, hp⟩ | ⟨hp, _⟩
    · exact (drc_iff hs y _).2 ⟨p, hp, hi, rfl⟩
    · exact absurd hp hn
  · rwa [setD_no h0] at hx
theorem from_set {Es : List Ed} (hs : SrtE Es) {c : Cl} {L : List Rf} {x : Cl} (hx : x ∈ (setD c L Es).map eCl) (hn : x ≠ c) : x ∈ Es.map eCl := by
  obtain ⟨p, hp, rfl⟩ := List.mem_map.1 hx
  by_cases h0 : setE c L = 0
  · rw [mem_setD hs h0] at hp
    rcases hp with ⟨_, hp⟩ | ⟨hp, _⟩
    · exact List.mem_map.2 ⟨p, hp, rfl⟩
    · exact absurd hp hn
  · rw [setD_no h0] at hp
    exact List.mem_map.2 ⟨p, hp, rfl⟩
theorem self_set {Es : List Ed} (hs : SrtE Es) {c : Cl} {L : List Rf} (h0 : setE c L = 0) (hx : c ∈ (setD c L Es).map eCl) : 0 < L.length := by
  obtain ⟨p, hp, he⟩ := List.mem_map.1 hx
  rw [mem_setD hs h0] at hp
  rcases hp with ⟨hp, _⟩ | ⟨_, hp⟩
  · exact absurd he hp
  · exact List.length_pos_of_mem hp
theorem setD_twice {Es : List Ed} (hs : SrtE Es) (c : Cl) (L : List Rf) : setD c L (setD c L Es) = setD c L Es := by
  by_cases h0 : setE c L = 0
  · have h1 := (setD_spec (c := c) (L := L) hs).1
    refine srte_ext (setD_spec h1).1 h1 (fun e => ?_)
    rw [mem_setD h1 h0, mem_setD hs h0]
    constructor
    · rintro (⟨h2, h3 | h3⟩ | h2)
      · exact .inl h3
      · exact absurd h3.1 h2
      · exact .inr h2
    · rintro (h2 | h2)
      · exact .inl ⟨h2.1, .inl h2⟩
      · exact .inr h2
  · rw [setD_no h0]
theorem drc_nomay {Es : List Ed} (hs : SrtE Es) (ho : ∀ e, e ∈ Es → okR (eRf e) = true ∧ mayB e.row e.col = true) {c : Cl} (h : mayB c.row c.col = false) (x : Cl) : x ∉ drc Es c := fun hx => by
  obtain ⟨p, hp, hi, _⟩ := (drc_iff hs c x).1 hx
  have h1 := (ho p hp).1
  have h2 := inB_true hi
  have h3 : mayR p.t p.l p.b p.r = true := by
    unfold okR at h1
    rw [Bool.and_eq_true] at h1
    exact h1.1
  unfold mayR at h3
  rw [Bool.and_eq_true, Bool.and_eq_true, Bool.and_eq_true] at h3
  have h4 := mayB_true h3.1.1.1
  have h5 := mayB_true h3.1.1.2
  exact mayB_false h (by omega)
/-- Not clean is closed upwards. -/
def UpC (Es : List Ed) (f : Cl → Option Int) : Prop := ∀ y x, ¬ cln (f y) → x ∈ drc Es y → ¬ cln (f x)
theorem ncl_touch {Es : List Ed} {c : Cl} {fm : Bool} {f f' : Cl → Option Int} {P : List Cl} (hT : TI Es c fm f f' P (drc Es c)) {x : Cl} (hx : x ≠ c) (h : ¬ cln (f x)) : ¬ cln (f' x) := by
  by_cases h1 : x ∈ drc Es c
  · rw [hT.due x h1 hx]; exact cln_2
  · by_cases h2 : x ∈ P
    · exact absurd (hT.psh x h2).2.1 h
    · rw [hT.old x hx h1 h2]; exact h
theorem up_touch {Es0 Es : List Ed} {c : Cl} {fm : Bool} {f f' : Cl → Option Int} {pk pk' : Int} (hs : SrtE Es) (ho : ∀ e, e ∈ Es → okR (eRf e) = true ∧ mayB e.row e.col = true) (h : UpC Es0 f) (hE : ∀ y x, x ≠ c → x ∈ drc Es y → x ∈ drc Es0 y) (hfm : c ∈ Es.map eCl → fm = true) (hsame : mayB c.row c.col = false → Es = Es0) (ht : TMay Es c fm f f' pk pk') :
    UpC Es f' ∧ ∀ x, x ∈ drc Es c → f' x = some 2 := by
  rcases ht with ⟨h1, rfl, _⟩ | ⟨h1, P, hT, hcl, _⟩
  · rw [hsame h1]
    exact ⟨h, fun x hx => absurd hx (by rw [← hsame h1]; exact drc_nomay hs ho h1 x)⟩
  · have hown : c ∈ Es.map eCl → f' c = some 2 := fun hc => by rw [hT.own, hfm hc]; rfl
    have hdue : ∀ x, x ∈ drc Es c → f' x = some 2 := fun x hx => by
      by_cases e : x = c
      · rw [e]; exact hown (by rw [← e]; exact drc_mem hs hx)
      · exact hT.due x hx e
    refine ⟨fun y x hy hx => ?_, hdue⟩
    by_cases ec : x = c
    · rw [ec, hown (by rw [← ec]; exact drc_mem hs hx)]; exact cln_2
    · by_cases e1 : y = c
      · rw [hdue x (by rw [← e1]; exact hx)]; exact cln_2
      · by_cases e2 : y ∈ P
        · rcases hcl y e2 x hx with ⟨h3, _⟩ | h3
          · exact absurd h3 ec
          · exact h3
        · refine ncl_touch hT ec (h y x (fun h4 => ?_) (hE y x ec hx))
          by_cases e3 : y ∈ drc Es c
          · exact e2 (hT.all y e3 e1 h4)
          · rw [hT.old y e1 e3 e2] at hy
            exact hy h4
theorem up_reach {Es : List Ed} {c x : Cl} {f : Cl → Option Int} (h : UpC Es f) (hd : ∀ x, x ∈ drc Es c → f x = some 2) (hr : RchP Es c x) : ¬ cln (f x) :=
  hr (fun y => ¬ cln (f y)) (fun y hy => by rw [hd y hy]; exact cln_2) (fun p z hp hz => h p z hp hz)
theorem up_all {Es : List Ed} (f : Cl → Option Int) : UpC Es (allC f) := fun y x hy _ => by
  refine absurd ?_ hy
  unfold allC cln
  cases f y <;> rfl

/-! IT STOPS -/
theorem stop_pure {Es : List Ed} {c : Cl} {fm : Bool} {f0 f1 f2 : Cl → Option Int} {pk0 pk1 pk2 : Int} (h1 : TMay Es c fm f0 f1 pk0 pk1) (h2 : TMay Es c fm f1 f2 pk1 pk2) : f2 = f1 ∧ (mayB c.row c.col = true → pk2 = 0) := by
  rcases h2 with ⟨hm, rfl, _⟩ | ⟨hm, P2, hT2, _, p0, _, p2⟩
  · exact ⟨rfl, fun h => by rw [hm] at h; cases h⟩
  rcases h1 with ⟨hm', _⟩ | ⟨_, P1, hT1, _⟩
  · rw [hm] at hm'; cases hm'
  have hP : ∀ p, p ∈ P2 → False := hT2.rch (fun _ => False) (fun x hx hn hc => cln_2 (by rw [hT1.due x hx hn] at hc; exact hc)) (fun _ _ h _ => h)
  have hP0 : P2 = [] := List.eq_nil_iff_forall_not_mem.2 hP
  refine ⟨funext fun x => ?_, fun _ => ?_⟩
  · by_cases e : x = c
    · rw [e, hT2.own, hT1.own]
    · by_cases e1 : x ∈ drc Es c
      · rw [hT2.due x e1 e, hT1.due x e1 e]
      · exact hT2.old x e e1 (fun h => hP x h)
  · rw [hP0] at p2
    simp at p2
    omega

/-! THE ORDER OF TOUCHES -/
theorem rch_from {Es : List Ed} (hs : SrtE Es) {c x : Cl} (h : RchP Es c x) : x ∈ Es.map eCl := h (fun y => y ∈ Es.map eCl) (fun _ hy => drc_mem hs hy) (fun _ _ _ hz => drc_mem hs hz)
theorem dom_touch {Es : List Ed} {c : Cl} {fm : Bool} {f f' : Cl → Option Int} {pk' : Int} (hs : SrtE Es) (hF : ∀ x, x ∈ Es.map eCl → x ≠ c → (f x).isSome = true) (ht : TouchIs Es c fm f f' pk') (x : Cl) : (f' x).isSome = if x = c then fm else (f x).isSome := by
  obtain ⟨P, hT, _⟩ := ht
  by_cases e : x = c
  · rw [if_pos e, e, hT.own]
    cases fm <;> rfl
  · rw [if_neg e]
    by_cases e1 : x ∈ drc Es c
    · rw [hT.due x e1 e, hF x (drc_mem hs e1) e]; rfl
    · by_cases e2 : x ∈ P
      · rw [hF x (hT.psh x e2).2.2.2 e]
        rcases (hT.psh x e2).2.2.1 with h | h <;> rw [h] <;> rfl
      · rw [hT.old x e e1 e2]
def dueS (Es : List Ed) (f0 : Cl → Option Int) (S : Cl → Prop) (x : Cl) : Prop := (S x ∧ (f0 x).isSome = true) ∨ ∃ s, S s ∧ x ∈ drc Es s
def rchS (Es : List Ed) (S : Cl → Prop) (x : Cl) : Prop := ∃ s, S s ∧ RchP Es s x
/-- The states behind touches of S. -/
def IsFS (Es : List Ed) (f0 : Cl → Option Int) (S : Cl → Prop) (f : Cl → Option Int) : Prop := ∀ x, (dueS Es f0 S x → f x = some 2) ∧ (¬ dueS Es f0 S x → rchS Es S x → f x = some 1) ∧ (¬ dueS Es f0 S x → ¬ rchS Es S x → f x = f0 x)
theorem fs_same {Es : List Ed} {f0 : Cl → Option Int} {S S' : Cl → Prop} {f f' : Cl → Option Int} (hS : ∀ x, S x ↔ S' x) (h : IsFS Es f0 S f) (h' : IsFS Es f0 S' f') : f = f' := by
  have hS' : S = S' := funext fun x => propext (hS x)
  subst hS'
  funext x
  by_cases h1 : dueS Es f0 S x
  · rw [(h x).1 h1, (h' x).1 h1]
  · by_cases h2 : rchS Es S x
    · rw [(h x).2.1 h1 h2, (h' x).2.1 h1 h2]
    · rw [(h x).2.2 h1 h2, (h' x).2.2 h1 h2]
theorem fs_start (Es : List Ed) (f0 : Cl → Option Int) : IsFS Es f0 (fun _ => False) f0 := fun x =>
  ⟨fun h => (by rcases h with ⟨h, _⟩ | ⟨_, h, _⟩ <;> exact h.elim), fun _ h => (by obtain ⟨_, h, _⟩ := h; exact h.elim), fun _ _ => rfl⟩
section
variable {Es : List Ed} {f0 f f' : Cl → Option Int} {S : Cl → Prop}
theorem fs_dom (hs : SrtE Es) (hF : ∀ x, x ∈ Es.map eCl → (f0 x).isSome = true) (h : IsFS Es f0 S f) (x : Cl) : (f x).isSome = (f0 x).isSome := by
  by_cases h1 : dueS Es f0 S x
  · rw [(h x).1 h1]
    rcases h1 with ⟨_, h2⟩ | ⟨s, _, h2⟩
    · rw [h2]; rfl
    · rw [hF x (drc_mem hs h2)]; rfl
  · by_cases h2 : rchS Es S x
    · rw [(h x).2.1 h1 h2]
      obtain ⟨s, _, h3⟩ := h2
      rw [hF x (rch_from hs h3)]; rfl
    · rw [(h x).2.2 h1 h2]
theorem fs_ncl (hz : ∀ x, cln (f0 x)) (h : IsFS Es f0 S f) (x : Cl) : ¬ cln (f x) ↔ dueS Es f0 S x ∨ rchS Es S x := by
  by_cases h1 : dueS Es f0 S x
  · rw [(h x).1 h1]; exact ⟨fun _ => .inl h1, fun _ => cln_2⟩
  · by_cases h2 : rchS Es S x
    · rw [(h x).2.1 h1 h2]; exact ⟨fun _ => .inr h2, fun _ => cln_1⟩
    · rw [(h x).2.2 h1 h2]; exact ⟨fun h3 => absurd (hz x) h3, fun h3 => h3.elim (fun h => absurd h h1) (fun h => absurd h h2)⟩
theorem fs_touch {s : Cl} {pk pk' : Int} (hs : SrtE Es) (ho : ∀ e, e ∈ Es → okR (eRf e) = true ∧ mayB e.row e.col = true) (hF : ∀ x, x ∈ Es.map eCl → (f0 x).isSome = true) (hz : ∀ x, cln (f0 x)) (hd : DomF f0) (h : IsFS Es f0 S f) (ht : TMay Es s (f0 s).isSome f f' pk pk') : IsFS Es f0 (fun x => S x ∨ x = s) f' := by
  rcases ht with ⟨hm, rfl, _⟩ | ⟨hm, P, hT, hcl, _⟩
  · have hnd : (f0 s).isSome = false := by
      cases e : (f0 s).isSome with
      | false => rfl
      | true => have := hd s e; rw [hm] at this; cases this
    have hnr : ∀ x, ¬ RchP Es s x := fun x hr => hr (fun _ => False) (fun y hy => drc_nomay hs ho hm y hy) (fun _ _ h _ => h)
    have e1 : ∀ x, dueS Es f0 (fun x => S x ∨ x = s) x ↔ dueS Es f0 S x := fun x => by
      constructor
      · rintro (⟨h1 | h1, h2⟩ | ⟨y, h1 | h1, h2⟩)
        · exact .inl ⟨h1, h2⟩
        · rw [h1, hnd] at h2; cases h2
        · exact .inr ⟨y, h1, h2⟩
        · rw [h1] at h2; exact absurd h2 (drc_nomay hs ho hm x)
      · rintro (⟨h1, h2⟩ | ⟨y, h1, h2⟩)
        · exact .inl ⟨.inl h1, h2⟩
        · exact .inr ⟨y, .inl h1, h2⟩
    have e2 : ∀ x, rchS Es (fun x => S x ∨ x = s) x ↔ rchS Es S x := fun x => by
      constructor
      · rintro ⟨y, h1 | h1, h2⟩
        · exact ⟨y, h1, h2⟩
        · rw [h1] at h2; exact absurd h2 (hnr x)
      · rintro ⟨y, h1, h2⟩
        exact ⟨y, .inl h1, h2⟩
    intro x
    rw [e1 x, e2 x]
    exact h x
  · have hown : s ∈ Es.map eCl → f' s = some 2 := fun hc => by rw [hT.own, hF s hc]; rfl
    have hdue : ∀ x, x ∈ drc Es s → f' x = some 2 := fun x hx => by
      by_cases e : x = s
      · rw [e]; exact hown (by rw [← e]; exact drc_mem hs hx)
      · exact hT.due x hx e
    have hnc := fs_ncl hz h
    have hkeep : ∀ x, x ≠ s → x ∉ drc Es s → ¬ cln (f x) → f' x = f x := fun x e1 e2 e3 => hT.old x e1 e2 (fun h4 => e3 (hT.psh x h4).2.1)
    have hPr : ∀ x, x ∈ P → RchP Es s x := fun x hx Q h1 h2 => hT.rch Q (fun y hy _ _ => h1 y hy) h2 x hx
    have hA : ∀ x, RchP Es s x → x = s ∨ x ∈ drc Es s ∨ x ∈ P ∨ ¬ cln (f x) := fun x hr => by
      refine hr (fun x => x = s ∨ x ∈ drc Es s ∨ x ∈ P ∨ ¬ cln (f x)) (fun y hy => .inr (.inl hy)) (fun p z hp hzp => ?_)
      have hncz : ¬ cln (f p) → ¬ cln (f z) := fun h1 => by
        rw [hnc] at h1 ⊢
        rcases h1 with (⟨h2, _⟩ | ⟨y, h2, h3⟩) | ⟨y, h2, h3⟩
        · exact .inr ⟨p, h2, RchP.one hzp⟩
        · exact .inr ⟨y, h2, (RchP.one h3).step hzp⟩
        · exact .inr ⟨y, h2, h3.step hzp⟩
      have hPz : p ∈ P → z = s ∨ z ∈ drc Es s ∨ z ∈ P ∨ ¬ cln (f z) := fun h1 => by
        by_cases e1 : z = s
        · exact .inl e1
        · by_cases e2 : z ∈ drc Es s
          · exact .inr (.inl e2)
          · by_cases e3 : z ∈ P
            · exact .inr (.inr (.inl e3))
            · rcases hcl p h1 z hzp with ⟨h2, _⟩ | h2
              · exact absurd h2 e1
              · rw [hT.old z e1 e2 e3] at h2
                exact .inr (.inr (.inr h2))
      rcases hp with h1 | h1 | h1 | h1
      · rw [h1] at hzp; exact .inr (.inl hzp)
      · by_cases e : p = s
        · rw [e] at hzp; exact .inr (.inl hzp)
        · by_cases e2 : cln (f p)
          · exact hPz (hT.all p h1 e e2)
          · exact .inr (.inr (.inr (hncz e2)))
      · exact hPz h1
      · exact .inr (.inr (.inr (hncz h1)))
    have hdd : ∀ x, dueS Es f0 S x → f' x = some 2 := fun x h1 => by
      by_cases e1 : x = s
      · rcases h1 with ⟨_, h2⟩ | ⟨y, _, h2⟩
        · rw [e1] at h2 ⊢; rw [hT.own, h2]; rfl
        · rw [e1] at h2 ⊢; exact hown (drc_mem hs h2)
      · by_cases e2 : x ∈ drc Es s
        · exact hdue x e2
        · rw [hkeep x e1 e2 (by rw [(h x).1 h1]; exact cln_2)]
          exact (h x).1 h1
    intro x
    refine ⟨fun h1 => ?_, fun h1 h2 => ?_, fun h1 h2 => ?_⟩
    · rcases h1 with ⟨h2 | h2, h3⟩ | ⟨y, h2 | h2, h3⟩
      · exact hdd x (.inl ⟨h2, h3⟩)
      · rw [h2] at h3 ⊢; rw [hT.own, h3]; rfl
      · exact hdd x (.inr ⟨y, h2, h3⟩)
      · rw [h2] at h3; exact hdue x h3
    · have hfx : x ∈ Es.map eCl := by
        obtain ⟨y, _, h3⟩ := h2
        exact rch_from hs h3
      have e1 : x ≠ s := fun e => h1 (.inl ⟨.inr e, hF x hfx⟩)
      have e2 : x ∉ drc Es s := fun e => h1 (.inr ⟨s, .inr rfl, e⟩)
      have e3 : ¬ dueS Es f0 S x := fun e => h1 (e.imp (fun h => ⟨.inl h.1, h.2⟩) (fun ⟨y, h4, h5⟩ => ⟨y, .inl h4, h5⟩))
      have hold : rchS Es S x → f' x = some 1 := fun h4 => by
        have h5 := (h x).2.1 e3 h4
        rw [hkeep x e1 e2 (by rw [h5]; exact cln_1)]
        exact h5
      obtain ⟨y, h3 | h3, h4⟩ := h2
      · exact hold ⟨y, h3, h4⟩
      · rw [h3] at h4
        rcases hA x h4 with h5 | h5 | h5 | h5
        · exact absurd h5 e1
        · exact absurd h5 e2
        · exact hT.mby x h5 e2
        · rcases (hnc x).1 h5 with h6 | h6
          · exact absurd h6 e3
          · exact hold h6
    · have e3 : ¬ dueS Es f0 S x := fun e => h1 (e.imp (fun h => ⟨.inl h.1, h.2⟩) (fun ⟨y, h4, h5⟩ => ⟨y, .inl h4, h5⟩))
      have e4 : ¬ rchS Es S x := fun ⟨y, h4, h5⟩ => h2 ⟨y, .inl h4, h5⟩
      have hfx := (h x).2.2 e3 e4
      by_cases e1 : x = s
      · have hn : (f0 s).isSome = false := by
          cases e : (f0 s).isSome with
          | false => rfl
          | true => exact absurd (.inl ⟨.inr e1, by rw [e1]; exact e⟩) h1
        rw [e1, hT.own, hn]
        cases e : f0 s with
        | none => rfl
        | some u => rw [e] at hn; cases hn
      · have e2 : x ∉ drc Es s := fun e => h1 (.inr ⟨s, .inr rfl, e⟩)
        rw [hT.old x e1 e2 (fun h4 => h2 ⟨s, .inr rfl, hPr x h4⟩)]
        exact hfx
end
theorem allC_same {f g : Cl → Option Int} (h : ∀ x, (f x).isSome = (g x).isSome) : allC f = allC g := by
  funext x
  have := h x
  unfold allC
  cases hf : f x <;> cases hg : g x <;> rw [hf, hg] at this <;> first | rfl | cases this
theorem allC_cln (f : Cl → Option Int) (x : Cl) : cln (allC f x) := by
  unfold allC cln
  cases f x <;> rfl
theorem allC_dom (f : Cl → Option Int) (x : Cl) : (allC f x).isSome = (f x).isSome := by
  unfold allC
  rw [Option.isSome_map]
/-- All tells one list for one function. -/
theorem all_same {f : Cl → Option Int} {L M : List Cl} (h1 : SrtC L) (h2 : SrtC M) (k1 : ∀ c, rngC c → (c ∈ L ↔ (f c).isSome = true)) (k2 : ∀ c, rngC c → (c ∈ M ↔ (f c).isSome = true)) (r1 : ∀ c, c ∈ L → rngC c) (r2 : ∀ c, c ∈ M → rngC c) : L = M :=
  srtC_ext h1 h2 (fun x => ⟨fun h => (k2 x (r1 x h)).2 ((k1 x (r1 x h)).1 h), fun h => (k1 x (r2 x h)).2 ((k2 x (r2 x h)).1 h)⟩)
end Go.Proofs.Ytdionganlmnlkaa

/-
  The plain laws of a store beside the document's list. Conditions: those of each theorem.
-/
import Derived.Test.YtiiiiplfcaeegaaSRef3
import Derived.Test.YtiiiiplfcaeegaaSto7
namespace Go.Proofs.Ytiiiiplfcaeegaa
open Go.ChangeShapes Go.WideShapes Go.ChangeAt Go.RowKit Go.Deep

/-- The contents that a list of items tells. -/
def gOf (Xs : List Addr) (L : List Itm) : Grid := fun q d => (L.find? (atI ((q : Int) + 1) ((d : Int) + 1))).bind fun x => Xs[x.k.toNat]?
/-- Items as they may be: cells that may be, contents' numbers. -/
def okI (n : Nat) (x : Itm) : Prop := mayB x.r x.c = true ∧ 0 ≤ x.k ∧ x.k < n
structure Srt (n : Nat) (L : List Itm) : Prop where
  ok : ∀ x, x ∈ L → okI n x
  pw : L.Pairwise fun x y => ltI x y.r y.c

theorem atI_iff {r c : Int} {x : Itm} : atI r c x = true ↔ x.r = r ∧ x.c = c := by simp [atI]
theorem ltI_irrefl (x : Itm) : ¬ ltI x x.r x.c := by unfold ltI; omega
theorem ltI_trans {x y : Itm} {r c : Int} (h : ltI x y.r y.c) (h2 : ltI y r c) : ltI x r c := by unfold ltI at *; omega
theorem ltI_total {x : Itm} {r c : Int} (h : ¬ ltI x r c) (hn : ¬ (x.r = r ∧ x.c = c)) (y : Itm) (hr : y.r = r) (hc : y.c = c) : ltI y x.r x.c := by unfold ltI at *; omega

theorem find_wo_same (r c : Int) (L : List Itm) : (wo r c L).find? (atI r c) = none := by
  unfold wo
  rw [List.find?_filter, List.find?_eq_none]
  intro x _
  cases h1 : (x.r == r && x.c == c) <;> simp [atI, h1]
theorem find_wo_ne (r c r' c' : Int) (L : List Itm) (h : ¬ (r' = r ∧ c' = c)) : (wo r c L).find? (atI r' c') = L.find? (atI r' c') := by
  unfold wo
  rw [List.find?_filter]
  congr 1
  funext x
  by_cases hx : x.r = r' ∧ x.c = c'
  · obtain ⟨rfl, rfl⟩ := hx
    have : (x.r == r && x.c == c) = false := by
      cases hb : (x.r == r && x.c == c)
      · rfl
      · simp at hb
        exact absurd hb h
    simp [atI, this]
  · have : atI r' c' x = false := by
      cases hb : atI r' c' x
      · rfl
      · exact absurd (atI_iff.1 hb) hx
    rw [this]
    simp
theorem find_ins_same (r c k : Int) (L : List Itm) : (insL ⟨r, c, k⟩ (wo r c L)).find? (atI r c) = some ⟨r, c, k⟩ := by
  unfold insL
  have hno : ∀ M : List Itm, (∀ x, x ∈ M → x ∈ wo r c L) → M.find? (atI r c) = none := by
    intro M hM
    rw [List.find?_eq_none]
    intro x hx
    exact List.find?_eq_none.1 (find_wo_same r c L) x (hM x hx)
  rw [List.find?_append, List.find?_append, hno _ (fun x hx => List.mem_of_mem_take hx)]
  simp [atI]
theorem find_ins_ne (r c k r' c' : Int) (L : List Itm) (h : ¬ (r' = r ∧ c' = c)) : (insL ⟨r, c, k⟩ (wo r c L)).find? (atI r' c') = L.find? (atI r' c') := by
  have h1 : ([⟨r, c, k⟩] : List Itm).find? (atI r' c') = none := by
    rw [List.find?_eq_none]
    intro x hx
    simp at hx
    subst hx
    intro hb
    have := atI_iff.1 hb
    exact h ⟨this.1.symm, this.2.symm⟩
  unfold insL
  rw [List.find?_append, List.find?_append, h1]
  rw [← find_wo_ne r c r' c' L h]
  conv => rhs; rw [← List.take_append_drop (cb r c (wo r c L)) (wo r c L), List.find?_append]
  simp

theorem gOf_ins (Xs : List Addr) (L : List Itm) (r c k : Int) (x : Addr) (hm : mayB r c = true) (hx : Xs[k.toNat]? = some x) : gOf Xs (insL ⟨r, c, k⟩ (wo r c L)) = gset (gOf Xs L) (r - 1).toNat (c - 1).toNat (some x) := by
  have b1 := mayB_true hm
  funext q d
  unfold gOf gset
  by_cases e : q = (r - 1).toNat ∧ d = (c - 1).toNat
  · rw [if_pos e, show ((q : Int) + 1) = r by omega, show ((d : Int) + 1) = c by omega, find_ins_same]
    exact hx
  · rw [if_neg e, find_ins_ne _ _ _ _ _ _ (by omega)]
theorem gOf_wo (Xs : List Addr) (L : List Itm) (r c : Int) (hm : mayB r c = true) : gOf Xs (wo r c L) = gset (gOf Xs L) (r - 1).toNat (c - 1).toNat none := by
  have b1 := mayB_true hm
  funext q d
  unfold gOf gset
  by_cases e : q = (r - 1).toNat ∧ d = (c - 1).toNat
  · rw [if_pos e, show ((q : Int) + 1) = r by omega, show ((d : Int) + 1) = c by omega, find_wo_same]
    rfl
  · rw [if_neg e, find_wo_ne _ _ _ _ _ (by omega)]

theorem Srt.wo {n : Nat} {L : List Itm} (h : Srt n L) (r c : Int) : Srt n (wo r c L) := ⟨fun x hx => h.ok x (List.mem_filter.1 hx).1, h.pw.filter _⟩
theorem wo_off {r c : Int} {L : List Itm} {x : Itm} (h : x ∈ wo r c L) : ¬ (x.r = r ∧ x.c = c) := by
  have := (List.mem_filter.1 h).2
  simp at this
  intro e
  rcases this with h | h
  · exact h e.1
  · exact h e.2
theorem cb_take {n : Nat} (r c : Int) : ∀ {L : List Itm}, Srt n L → ∀ x, x ∈ L.take (cb r c L) → ltI x r c
  | [], _, x, hx => by simp at hx
  | y :: L, h, x, hx => by
    unfold cb at hx
    split at hx
    · rename_i hy
      rw [List.take_succ_cons] at hx
      rcases List.mem_cons.1 hx with rfl | hx
      · exact hy
      · exact cb_take r c ⟨fun z hz => h.ok z (by simp [hz]), (List.pairwise_cons.1 h.pw).2⟩ x hx
    · simp at hx
theorem cb_drop_gt {n : Nat} (r c : Int) : ∀ {L : List Itm}, Srt n L → (∀ x, x ∈ L → ¬ (x.r = r ∧ x.c = c)) → ∀ x, x ∈ L.drop (cb r c L) → ∀ y : Itm, y.r = r → y.c = c → ltI y x.r x.c
  | [], _, _, x, hx, _, _, _ => by simp at hx
  | z :: L, h, hn, x, hx, y, hr, hc => by
    have hp := List.pairwise_cons.1 h.pw
    unfold cb at hx
    split at hx
    · rw [List.drop_succ_cons] at hx
      exact cb_drop_gt r c ⟨fun z hz => h.ok z (by simp [hz]), hp.2⟩ (fun x hx => hn x (by simp [hx])) x hx y hr hc
    · rename_i hz
      rw [List.drop_zero] at hx
      have h1 := ltI_total hz (hn z (by simp)) y hr hc
      rcases List.mem_cons.1 hx with rfl | hx
      · exact h1
      · exact ltI_trans h1 (hp.1 x hx)
theorem Srt.ins {n : Nat} {L : List Itm} (h : Srt n L) (r c k : Int) (hm : mayB r c = true) (hk : 0 ≤ k ∧ k < n) : Srt n (insL ⟨r, c, k⟩ (Go.Proofs.Ytiiiiplfcaeegaa.wo r c L)) := by
  have hw := h.wo r c
  refine ⟨fun x hx => ?_, ?_⟩
  · unfold insL at hx
    rcases List.mem_append.1 hx with hx | hx
    · rcases List.mem_append.1 hx with hx | hx
      · exact hw.ok x (List.mem_of_mem_take hx)
      · simp at hx
        subst hx
        exact ⟨hm, hk⟩
    · exact hw.ok x (List.mem_of_mem_drop hx)
  · unfold insL
    refine List.pairwise_append.2 ⟨List.pairwise_append.2 ⟨hw.pw.sublist (List.take_sublist _ _), by simp, fun x hx y hy => ?_⟩, hw.pw.sublist (List.drop_sublist _ _), fun x hx y hy => ?_⟩
    · simp at hy
      subst hy
      exact cb_take r c hw x hx
    · have hy' := cb_drop_gt r c hw (fun x hx => wo_off hx) y hy
      rcases List.mem_append.1 hx with hx | hx
      · exact ltI_trans (y := ⟨r, c, k⟩) (cb_take r c hw x hx) (hy' ⟨r, c, k⟩ rfl rfl)
      · simp at hx
        subst hx
        exact hy' ⟨r, c, k⟩ rfl rfl
theorem insL_len (it : Itm) (l : List Itm) : (insL it l).length = l.length + 1 := by
  have := cb_le it.r it.c l
  simp [insL]
  omega

/-- As many contents as items. -/
theorem total_gOf (Xs : List Addr) : ∀ {L : List Itm}, Srt Xs.length L → total (gOf Xs L) = L.length
  | [], _ => total_zero
  | x :: L, h => by
    have hp := List.pairwise_cons.1 h.pw
    have hL : Srt Xs.length L := ⟨fun z hz => h.ok z (by simp [hz]), hp.2⟩
    have ih := total_gOf Xs hL
    obtain ⟨hm, hk1, hk2⟩ := h.ok x (by simp)
    have b1 := mayB_true hm
    have hx : Xs[x.k.toNat]? = some (Xs[x.k.toNat]'(by omega)) := List.getElem?_eq_getElem _
    have hnone : L.find? (atI x.r x.c) = none := by
      rw [List.find?_eq_none]
      intro y hy hb
      have e := atI_iff.1 hb
      have := hp.1 y hy
      rw [e.1, e.2] at this
      exact ltI_irrefl x this
    have hg : gOf Xs (x :: L) = gset (gOf Xs L) (x.r - 1).toNat (x.c - 1).toNat (some (Xs[x.k.toNat]'(by omega))) := by
      funext q d
      unfold gOf gset
      rw [List.find?_cons]
      by_cases e : q = (x.r - 1).toNat ∧ d = (x.c - 1).toNat
      · rw [if_pos e, show atI ((q : Int) + 1) ((d : Int) + 1) x = true from atI_iff.2 ⟨by omega, by omega⟩]
        exact hx
      · rw [if_neg e]
        have : atI ((q : Int) + 1) ((d : Int) + 1) x = false := by
          cases hb : atI ((q : Int) + 1) ((d : Int) + 1) x
          · rfl
          · have := atI_iff.1 hb
            exact absurd (⟨by omega, by omega⟩ : q = (x.r - 1).toNat ∧ d = (x.c - 1).toNat) e
        rw [this]
    have hz : gOf Xs L (x.r - 1).toNat (x.c - 1).toNat = none := by
      unfold gOf
      rw [show (((x.r - 1).toNat : Int) + 1) = x.r by omega, show (((x.c - 1).toNat : Int) + 1) = x.c by omega, hnone]
      rfl
    have := total_set (gOf Xs L) (x.r - 1).toNat (x.c - 1).toNat (some (Xs[x.k.toNat]'(by omega))) (by omega) (by omega)
    rw [hz, ← hg] at this
    simp at this
    rw [this, ih, List.length_cons]

theorem gOf_some {Xs : List Addr} {L : List Itm} (h : Srt Xs.length L) {q d : Nat} : (gOf Xs L q d).isSome = true ↔ ∃ x, x ∈ L ∧ x.r = (q : Int) + 1 ∧ x.c = (d : Int) + 1 := by
  unfold gOf
  cases hf : L.find? (atI ((q : Int) + 1) ((d : Int) + 1)) with
  | none =>
    rw [List.find?_eq_none] at hf
    constructor
    · intro h; cases h
    · rintro ⟨x, hx, h1, h2⟩
      exact absurd (atI_iff.2 ⟨h1, h2⟩) (hf x hx)
  | some x =>
    have hx := List.mem_of_find?_eq_some hf
    have he := atI_iff.1 (List.find?_some hf)
    obtain ⟨_, hk1, hk2⟩ := h.ok x hx
    have : Xs[x.k.toNat]? = some (Xs[x.k.toNat]'(by omega)) := List.getElem?_eq_getElem _
    simp only [Option.bind_some, this, Option.isSome_some, true_iff]
    exact ⟨x, hx, he⟩

/-- What the store finds is what the document finds. -/
theorem next_same {Xs : List Addr} {L : List Itm} (h : Srt Xs.length L) {t l b r ax ay : Int} {res : Option (Nat × Nat)} (hn : IsNext (gOf Xs L) t l b r ax ay res) : nextV res = nextLV (L.find? (fitI t l b r ax ay)) := by
  have fit_hit : ∀ x, x ∈ L → fitI t l b r ax ay x = true → hit (gOf Xs L) t l b r ax ay (x.r - 1).toNat (x.c - 1).toNat := by
    intro x hx hf
    obtain ⟨hm, _, _⟩ := h.ok x hx
    have b1 := mayB_true hm
    simp only [fitI, Bool.and_eq_true] at hf
    have h1 := inB_true hf.1
    have h2 : ax < x.r ∨ (ax = x.r ∧ ay < x.c) := by simpa [befB] using hf.2
    refine ⟨by omega, by omega, (gOf_some h).2 ⟨x, hx, by omega, by omega⟩, by omega, by omega⟩
  have hit_fit : ∀ q d, hit (gOf Xs L) t l b r ax ay q d → ∃ x, x ∈ L ∧ fitI t l b r ax ay x = true ∧ x.r = (q : Int) + 1 ∧ x.c = (d : Int) + 1 := by
    intro q d hh
    obtain ⟨x, hx, e1, e2⟩ := (gOf_some h).1 hh.2.2.1
    have h1 := hh.2.2.2
    refine ⟨x, hx, ?_, e1, e2⟩
    simp only [fitI, Bool.and_eq_true]
    refine ⟨inB_mk (by omega), ?_⟩
    simp [befB]
    omega
  cases hf : L.find? (fitI t l b r ax ay) with
  | none =>
    have hno : IsNext (gOf Xs L) t l b r ax ay none := fun q d hh => by
      obtain ⟨x, hx, hfx, _⟩ := hit_fit q d hh
      exact absurd hfx (List.find?_eq_none.1 hf x hx)
    rw [hn.uniq hno]
    rfl
  | some x =>
    obtain ⟨hfx, l1, l2, hL, has⟩ := List.find?_eq_some_iff_append.1 hf
    have hx : x ∈ L := by rw [hL]; simp
    obtain ⟨hm, _, _⟩ := h.ok x hx
    have b1 := mayB_true hm
    have hyes : IsNext (gOf Xs L) t l b r ax ay (some ((x.r - 1).toNat, (x.c - 1).toNat)) := by
      refine ⟨fit_hit x hx hfx, fun q d hh => ?_⟩
      obtain ⟨y, hy, hfy, e1, e2⟩ := hit_fit q d hh
      rw [hL] at hy
      rcases List.mem_append.1 hy with hy | hy
      · have := has y hy
        rw [hfy] at this
        cases this
      · rcases List.mem_cons.1 hy with rfl | hy
        · right
          dsimp only
          omega
        · have hp := h.pw
          rw [hL] at hp
          have := (List.pairwise_cons.1 (List.pairwise_append.1 hp).2.1).1 y hy
          unfold ltI at this
          dsimp only
          omega
    rw [hn.uniq hyes]
    show Value.tuple _ = Value.tuple _
    rw [show (((x.r - 1).toNat : Int) + 1) = x.r by omega, show (((x.c - 1).toNat : Int) + 1) = x.c by omega]
end Go.Proofs.Ytiiiiplfcaeegaa

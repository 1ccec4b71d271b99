/-
  Deps: keys of its maps; what the program holds, and what each write of a map leaves. Conditions: those of each theorem.
-/
import Derived.Test.YtdionganlmnlkaaDPure
import Derived.Test.YtdionganlmnlkaaGp
namespace Go.Proofs.Ytdionganlmnlkaa
open Go.ChangeShapes Go.WideShapes Go.ChangeAt Go.RowKit Go.Deep

def cellV (x : Cl) : Value := .agg #[.int .i64 x.row, .int .i64 x.col]
theorem cellV_inj (x y : Cl) (h : cellV x = cellV y) : x = y := by
  obtain ⟨a, b⟩ := x
  obtain ⟨a', b'⟩ := y
  simp [cellV] at h
  obtain ⟨rfl, rfl⟩ := h
  rfl
def rngC (x : Cl) : Prop := i64P x.row ∧ i64P x.col
theorem law_cell : Maps.Keyed Try.prog 32 := Maps.Keyed.of_law (deep_law_laid (by kernel_rfl) (m := 2) (by omega) (of_decide_eq_true (by kernel_rfl)) (by kernel_rfl) (by rw [Try.underlying32]))
theorem key_cell (x : Cl) (h : rngC x) : ∃ kl, keyOf Try.prog 32 (cellV x) = some kl := by
  obtain ⟨h1, h2⟩ := h
  have w1 := wf_i64 h1
  have w2 := wf_i64 h2
  have hk : Try.prog.keyType 32 = true := by kernel_rfl
  have hc : Try.prog.cellsOf 32 = 2 := by kernel_rfl
  have hc3 : Try.prog.cellsOf 3 = 1 := by kernel_rfl
  have hf : (cellV x).formed Try.prog 32 = true := by simp [cellV, Value.formed, Try.underlying32, hc]
  obtain ⟨n, hn⟩ : ∃ n, Try.prog.types.size + 1 = n + 3 := ⟨Try.prog.types.size - 2, by
    have : (3 : Nat) ≤ Try.prog.types.size := of_decide_eq_true (by kernel_rfl)
    omega⟩
  have hl : Try.prog.keyLits (n + 3) 32 (cellV x).cells.toList = some [.int .i64 x.row, .int .i64 x.col] := by
    simp [Program.keyLits, Try.underlying32, Try.underlying3, hc, hc3, cellV, Value.cells, w1, w2]
  refine ⟨.string (keyBytes [.int .i64 x.row, .int .i64 x.col]), ?_⟩
  unfold keyOf
  rw [Try.underlying32]
  simp only [hk, hf, Bool.and_self, if_true]
  rw [hn, hl]
  rfl
theorem rngC_of_may {x : Cl} (h : mayB x.row x.col = true) : rngC x := by
  have := mayB_true h
  unfold rngC i64P
  omega

abbrev CSet (w : World) (b n : Nat) (L : List Cl) : Prop := MSet Try.prog 32 cellV rngC w b n L
abbrev CFun (w : World) (b n : Nat) (f : Cl → Option Value) : Prop := MFun Try.prog 32 cellV rngC w b n f
/-- A block that is a map. -/
def IsMp (w : World) (z : Nat) : Prop := ∃ es clock, w.heap[z]? = some (.map es clock)
theorem IsMp.ne {w : World} {z g : Nat} {t : TypeId} {cs : Array Value} (h : IsMp w z) (k : Blk w g t cs) : g ≠ z := by
  rintro rfl
  obtain ⟨es, clock, e⟩ := h
  have k' : w.heap[g]? = some (.cells cs t (0, 0)) := k
  rw [e] at k'
  injection k' with k'
  cases k'
theorem mp_fun {w : World} {b n : Nat} {f : Cl → Option Value} (h : CFun w b n f) : IsMp w b := by
  obtain ⟨D, ⟨es, clock, e, _⟩, _⟩ := h
  exact ⟨es, clock, e⟩
theorem mp_set {w : World} {b n : Nat} {L : List Cl} (h : CSet w b n L) : IsMp w b := by
  obtain ⟨D, ⟨es, clock, e, _⟩, _⟩ := h
  exact ⟨es, clock, e⟩

/-- The memory of Deps: bands of Ps (their blocks: O); f, Ef: whose references; t, Wh: who refers to a single cell. -/
structure DMem (w : World) (db fm tm bb n : Nat) (O : Nat → Prop) (Ps : List Pr) (f t : Cl → Option Value) (Ef : Cl → List Rf) (Wh : Cl → List Cl) : Prop where
  top : Blk w db 74 #[.map (some fm), .map (some tm), .pointer (some ⟨bb, 0, none⟩)]
  bnd : PB w bb n O Ps
  frm : CFun w fm n f
  tof : CFun w tm n t
  lst : ∀ c v, f c = some v → ∃ g cap, v = .slice (some ⟨g, 0, none⟩) (Ef c).length cap ∧ OL KF w 0 v (Ef c)
  fno : ∀ c, f c = none → Ef c = []
  grp : ∀ s v, t s = some v → ∃ g, v = .map (some g) ∧ CSet w g n (Wh s)
  tno : ∀ s, t s = none → Wh s = []
  inj : ∀ s s' g, t s = some (.map (some g)) → t s' = some (.map (some g)) → s = s'
  ft : fm ≠ tm
  gm : ∀ s g, t s = some (.map (some g)) → g ≠ fm ∧ g ≠ tm ∧ ¬ O g
  of_ : ¬ O fm
  ot : ¬ O tm
/-- The blocks of its own. -/
def ownD (db fm tm : Nat) (O : Nat → Prop) (f t : Cl → Option Value) (z : Nat) : Prop := z = db ∨ z = fm ∨ z = tm ∨ O z ∨ (∃ s, t s = some (.map (some z))) ∨ ∃ c n cap, f c = some (.slice (some ⟨z, 0, none⟩) n cap)

section
variable {w w' : World} {db fm tm bb n : Nat} {O : Nat → Prop} {Ps : List Pr} {f t : Cl → Option Value} {Ef : Cl → List Rf} {Wh : Cl → List Cl}
theorem DMem.frm_ (h : DMem w db fm tm bb n O Ps f t Ef Wh) {S : Nat → Prop} (hF : Frm S w w') (hn : ∀ z, ownD db fm tm O f t z → ¬ S z) : DMem w' db fm tm bb n O Ps f t Ef Wh := by
  refine ⟨hF.blk h.top (hn _ (.inl rfl)), h.bnd.frm hF (fun z hz => hn z (.inr (.inr (.inr (.inl hz))))), h.frm.frm hF (hn _ (.inr (.inl rfl))), h.tof.frm hF (hn _ (.inr (.inr (.inl rfl)))), fun c v hv => ?_, h.fno, fun s v hv => ?_, h.tno, h.inj, h.ft, h.gm, h.of_, h.ot⟩
  · obtain ⟨g, cap, rfl, hL⟩ := h.lst c v hv
    refine ⟨g, cap, rfl, hL.keep fun g' hg' => ?_⟩
    have e : g = g' := by injection hg'
    subst e
    exact hF.block g (hL.lt g rfl).2 (hn g (.inr (.inr (.inr (.inr (.inr ⟨c, _, cap, hv⟩))))))
  · obtain ⟨g, rfl, hs⟩ := h.grp s v hv
    exact ⟨g, rfl, hs.frm hF (hn g (.inr (.inr (.inr (.inr (.inl ⟨s, hv⟩))))))⟩
theorem DMem.below (h : DMem w db fm tm bb n O Ps f t Ef Wh) (hb : Below w.heap.size w w') : DMem w' db fm tm bb n O Ps f t Ef Wh := h.frm_ (Frm.of_below (S := fun _ => False) hb) (fun _ _ => id)
theorem DMem.lt (h : DMem w db fm tm bb n O Ps f t Ef Wh) {z : Nat} (hz : ownD db fm tm O f t z) : z < w.heap.size := by
  rcases hz with rfl | rfl | rfl | hz | ⟨s, hs⟩ | ⟨c, m, cap, hc⟩
  · exact h.top.lt
  · exact h.frm.lt
  · exact h.tof.lt
  · exact h.bnd.lt z hz
  · obtain ⟨g, e, hg⟩ := h.grp s _ hs
    injection e with e
    injection e with e
    subst e
    exact hg.lt
  · obtain ⟨g, cap', e, hL⟩ := h.lst c _ hc
    exact (hL.lt z rfl).2
/-- One map's block turns: what stays. -/
theorem DMem.kTop (h : DMem w db fm tm bb n O Ps f t Ef Wh) {z : Nat} (hz : IsMp w z) (hg : w.grownBy w' (some z)) : Blk w' db 74 #[.map (some fm), .map (some tm), .pointer (some ⟨bb, 0, none⟩)] := h.top.grown hg (hz.ne h.top)
theorem DMem.kLst (h : DMem w db fm tm bb n O Ps f t Ef Wh) {z : Nat} (hz : IsMp w z) (hg : w.grownBy w' (some z)) : ∀ c v, f c = some v → ∃ g cap, v = .slice (some ⟨g, 0, none⟩) (Ef c).length cap ∧ OL KF w' 0 v (Ef c) := fun c v hv => by
  obtain ⟨g, cap, rfl, hL⟩ := h.lst c v hv
  refine ⟨g, cap, rfl, hL.grown hg (fun g' hg' e => ?_)⟩
  injection e with e
  subst e
  obtain ⟨cur, hcur⟩ := hL.type z hg'
  exact hz.ne hcur rfl
theorem DMem.kBnd (h : DMem w db fm tm bb n O Ps f t Ef Wh) {z : Nat} (hg : w.grownBy w' (some z)) (hn : ¬ O z) : PB w' bb n O Ps := h.bnd.frm (frm_one' hg) (fun y hy e => hn (e ▸ hy))
where frm_one' {w w' : World} {y : Nat} (h : w.grownBy w' (some y)) : Frm (fun z => z = y) w w' := ⟨h.os, h.tape, h.output, h.size, fun k hk hn => h.block k hk (by simpa using hn)⟩
theorem fun_kept {b z : Nat} {f : Cl → Option Value} (h : CFun w b n f) (hg : w.grownBy w' (some z)) (hn : b ≠ z) : CFun w' b n f := h.frm (DMem.kBnd.frm_one' hg) hn
theorem DMem.kGrp (h : DMem w db fm tm bb n O Ps f t Ef Wh) {z : Nat} (hg : w.grownBy w' (some z)) {s : Cl} {v : Value} (hv : t s = some v) (hn : v ≠ .map (some z)) : ∃ g, v = .map (some g) ∧ CSet w' g n (Wh s) := by
  obtain ⟨g, rfl, hs⟩ := h.grp s v hv
  exact ⟨g, rfl, hs.frm (DMem.kBnd.frm_one' hg) (fun e => hn (by rw [e]))⟩

/-- The bands turn. -/
theorem DMem.bands (h : DMem w db fm tm bb n O Ps f t Ef Wh) {O' : Nat → Prop} {Ps' : List Pr} {n' : Nat} (hP : PB w' bb n' O' Ps') (hF : Frm O w w') (hO : ∀ z, O' z → O z ∨ w.heap.size ≤ z) (hn : n ≤ n') : DMem w' db fm tm bb n' O' Ps' f t Ef Wh := by
  have hty : ∀ {g : Nat} {u : TypeId} {cs : Array Value}, Blk w g u cs → u ≠ 96 → ¬ O g := fun hb hne hz => by
    obtain ⟨ma, mb, nb, L, F, h0, hO0, _⟩ := h.bnd
    have mp : ∀ {z : Nat}, IsMp w z → ∀ {u : TypeId} {cs : Array Value}, ¬ Blk w z u cs := fun hm _ _ hb => hm.ne hb rfl
    rcases (hO0 _).1 hz with rfl | rfl | rfl | ⟨k, hk⟩
    · have h1 := hb
      have h2 := h0.top
      unfold Blk at h1 h2
      rw [h2] at h1
      injection h1 with h1
      injection h1 with _ h1 _
      exact hne h1.symm
    · obtain ⟨D, ⟨es, clock, e, _⟩, _⟩ := h0.all
      exact mp ⟨es, clock, e⟩ hb
    · obtain ⟨D, ⟨es, clock, e, _⟩, _⟩ := h0.bg.band
      exact mp ⟨es, clock, e⟩ hb
    · obtain ⟨D, ⟨es, clock, e, _⟩, _⟩ := h0.bg.grp k _ hk
      exact mp ⟨es, clock, e⟩ hb
  have hno : ∀ {z : Nat}, ¬ O z → z < w.heap.size → ¬ O' z := fun h1 h2 h3 => (hO _ h3).elim h1 (fun h => by omega)
  refine ⟨hF.blk h.top (hty h.top (of_decide_eq_false (by kernel_rfl))), hP, (h.frm.frm hF h.of_).mono hn, (h.tof.frm hF h.ot).mono hn, fun c v hv => ?_, h.fno, fun s v hv => ?_, h.tno, h.inj, h.ft, fun s g hs => ?_, hno h.of_ h.frm.lt, hno h.ot h.tof.lt⟩
  · obtain ⟨g, cap, rfl, hL⟩ := h.lst c v hv
    refine ⟨g, cap, rfl, hL.keep fun g' hg' => ?_⟩
    obtain ⟨cur, hcur⟩ := hL.type g' hg'
    exact hF.block g' (hL.lt g' hg').2 (hty hcur (of_decide_eq_false (by kernel_rfl)))
  · obtain ⟨g, rfl, hs⟩ := h.grp s v hv
    exact ⟨g, rfl, (hs.frm hF (h.gm s g hv).2.2).mono hn⟩
  · obtain ⟨h1, h2, h3⟩ := h.gm s g hs
    obtain ⟨g', e, hg'⟩ := h.grp s _ hs
    injection e with e
    injection e with e
    subst e
    exact ⟨h1, h2, hno h3 hg'.lt⟩
/-- One group turns. -/
theorem DMem.group (h : DMem w db fm tm bb n O Ps f t Ef Wh) {s : Cl} {g : Nat} (hs : t s = some (.map (some g))) {L : List Cl} {n' : Nat} (hg : w.grownBy w' (some g)) (hL : CSet w' g n' L) (hn : n ≤ n') : DMem w' db fm tm bb n' O Ps f t Ef (fun q => if q = s then L else Wh q) := by
  obtain ⟨g1, g2, g3⟩ := h.gm s g hs
  have hz : IsMp w g := by
    obtain ⟨g', e, hg'⟩ := h.grp s _ hs
    injection e with e
    injection e with e
    subst e
    exact mp_set hg'
  refine ⟨h.kTop hz hg, (h.kBnd hg g3).mono hn, (fun_kept h.frm hg (Ne.symm g1)).mono hn, (fun_kept h.tof hg (Ne.symm g2)).mono hn, h.kLst hz hg, h.fno, fun q v hv => ?_, fun q hq => ?_, h.inj, h.ft, h.gm, h.of_, h.ot⟩
  · by_cases e : q = s
    · subst e
      rw [hs] at hv
      injection hv with hv
      subst hv
      exact ⟨g, rfl, by (try dsimp only); rw [if_pos rfl]; exact hL⟩
    · (try dsimp only)
      rw [if_neg e]
      obtain ⟨g', e1, e2⟩ := h.kGrp hg hv (fun e' => e (h.inj q s g (by rw [hv, e']) hs))
      exact ⟨g', e1, e2.mono hn⟩
  · have e : q ≠ s := by
      rintro rfl
      rw [hs] at hq
      cases hq
    (try dsimp only)
    rw [if_neg e]
    exact h.tno q hq
/-- An empty group is let go. -/
theorem DMem.tdel (h : DMem w db fm tm bb n O Ps f t Ef Wh) {s : Cl} (hg : w.grownBy w' (some tm)) (hT : CFun w' tm n (fun q => if q = s then none else t q)) (h0 : Wh s = []) : DMem w' db fm tm bb n O Ps f (fun q => if q = s then none else t q) Ef Wh := by
  have hz := mp_fun h.tof
  have ht : ∀ {q : Cl} {v : Value}, (if q = s then none else t q) = some v → t q = some v := fun {q v} h => by
    by_cases e : q = s
    · rw [if_pos e] at h; cases h
    · rw [if_neg e] at h; exact h
  refine ⟨h.kTop hz hg, h.kBnd hg h.ot, fun_kept h.frm hg h.ft, hT, h.kLst hz hg, h.fno, fun q v hv => ?_, fun q hq => ?_, fun q q' g h1 h2 => h.inj q q' g (ht h1) (ht h2), h.ft, fun q g hq => h.gm q g (ht hq), h.of_, h.ot⟩
  · exact h.kGrp hg (ht hv) (fun e => (h.gm q tm (by rw [← e]; exact ht hv)).2.1 rfl)
  · by_cases e : q = s
    · rw [e]; exact h0
    · rw [if_neg e] at hq
      exact h.tno q hq
/-- A new group. -/
theorem DMem.tput (h : DMem w db fm tm bb n O Ps f t Ef Wh) {s : Cl} {g n' : Nat} (hs : t s = none) (hg : w.grownBy w' (some tm)) (hT : CFun w' tm n' (fun q => if q = s then some (.map (some g)) else t q)) (hG : CSet w g n []) (hgo : ¬ ownD db fm tm O f t g) (hn : n ≤ n') : DMem w' db fm tm bb n' O Ps f (fun q => if q = s then some (.map (some g)) else t q) Ef Wh := by
  have hz := mp_fun h.tof
  have g1 : g ≠ tm := fun e => hgo (.inr (.inr (.inl e)))
  have ht : ∀ {q : Cl} {v : Value}, q ≠ s → (if q = s then some (.map (some g)) else t q) = some v → t q = some v := fun {q v} e h => by rw [if_neg e] at h; exact h
  refine ⟨h.kTop hz hg, (h.kBnd hg h.ot).mono hn, (fun_kept h.frm hg h.ft).mono hn, hT, h.kLst hz hg, h.fno, fun q v hv => ?_, fun q hq => ?_, fun q q' z h1 h2 => ?_, h.ft, fun q z hq => ?_, h.of_, h.ot⟩
  · by_cases e : q = s
    · rw [if_pos e] at hv
      injection hv with hv
      subst e hv
      refine ⟨g, rfl, ?_⟩
      rw [h.tno q hs]
      exact (hG.frm (DMem.kBnd.frm_one' hg) g1).mono hn
    · obtain ⟨g', e1, e2⟩ := h.kGrp hg (ht e hv) (fun e' => (h.gm q tm (by rw [← e']; exact ht e hv)).2.1 rfl)
      exact ⟨g', e1, e2.mono hn⟩
  · by_cases e : q = s
    · rw [if_pos e] at hq; cases hq
    · rw [if_neg e] at hq
      exact h.tno q hq
  · by_cases e : q = s
    · by_cases e' : q' = s
      · rw [e, e']
      · rw [if_pos e] at h1
        injection h1 with h1
        injection h1 with h1
        injection h1 with h1
        subst h1
        exact absurd (.inr (.inr (.inr (.inr (.inl ⟨q', ht e' h2⟩))))) hgo
    · by_cases e' : q' = s
      · rw [if_pos e'] at h2
        injection h2 with h2
        injection h2 with h2
        injection h2 with h2
        subst h2
        exact absurd (.inr (.inr (.inr (.inr (.inl ⟨q, ht e h1⟩))))) hgo
      · exact h.inj q q' z (ht e h1) (ht e' h2)
  · by_cases e : q = s
    · rw [if_pos e] at hq
      injection hq with hq
      injection hq with hq
      injection hq with hq
      subst hq
      exact ⟨fun e => hgo (.inr (.inl e)), g1, fun e => hgo (.inr (.inr (.inr (.inl e))))⟩
    · exact h.gm q z (ht e hq)
/-- A cell's references are let go. -/
theorem DMem.fdel (h : DMem w db fm tm bb n O Ps f t Ef Wh) {c : Cl} (hg : w.grownBy w' (some fm)) (hT : CFun w' fm n (fun q => if q = c then none else f q)) : DMem w' db fm tm bb n O Ps (fun q => if q = c then none else f q) t (fun q => if q = c then [] else Ef q) Wh := by
  have hz := mp_fun h.frm
  refine ⟨h.kTop hz hg, h.kBnd hg h.of_, hT, fun_kept h.tof hg (Ne.symm h.ft), fun q v hv => ?_, fun q hq => ?_, fun q v hv => h.kGrp hg hv (fun e => (h.gm q fm (by rw [← e]; exact hv)).1 rfl), h.tno, h.inj, h.ft, h.gm, h.of_, h.ot⟩
  · by_cases e : q = c
    · rw [if_pos e] at hv; cases hv
    · rw [if_neg e] at hv
      (try dsimp only)
      rw [if_neg e]
      exact h.kLst hz hg q v hv
  · by_cases e : q = c
    · (try dsimp only); rw [if_pos e]
    · rw [if_neg e] at hq
      (try dsimp only)
      rw [if_neg e]
      exact h.fno q hq
/-- A cell is given references. -/
theorem DMem.fput (h : DMem w db fm tm bb n O Ps f t Ef Wh) {c : Cl} {g cap n' : Nat} {L : List Rf} (hg : w.grownBy w' (some fm)) (hT : CFun w' fm n' (fun q => if q = c then some (.slice (some ⟨g, 0, none⟩) L.length cap) else f q)) (hL : OL KF w 0 (.slice (some ⟨g, 0, none⟩) L.length cap) L) (hn : n ≤ n') :
    DMem w' db fm tm bb n' O Ps (fun q => if q = c then some (.slice (some ⟨g, 0, none⟩) L.length cap) else f q) t (fun q => if q = c then L else Ef q) Wh := by
  have hz := mp_fun h.frm
  refine ⟨h.kTop hz hg, (h.kBnd hg h.of_).mono hn, hT, (fun_kept h.tof hg (Ne.symm h.ft)).mono hn, fun q v hv => ?_, fun q hq => ?_, fun q v hv => ?_, h.tno, h.inj, h.ft, h.gm, h.of_, h.ot⟩
  · by_cases e : q = c
    · rw [if_pos e] at hv
      injection hv with hv
      subst hv
      (try dsimp only)
      rw [if_pos e]
      refine ⟨g, cap, rfl, hL.grown hg (fun g' hg' e => ?_)⟩
      injection e with e
      subst e
      obtain ⟨cur, hcur⟩ := hL.type fm hg'
      exact hz.ne hcur rfl
    · rw [if_neg e] at hv
      (try dsimp only)
      rw [if_neg e]
      exact h.kLst hz hg q v hv
  · by_cases e : q = c
    · rw [if_pos e] at hq; cases hq
    · rw [if_neg e] at hq
      (try dsimp only)
      rw [if_neg e]
      exact h.fno q hq
  · obtain ⟨g', e1, e2⟩ := h.kGrp hg hv (fun e => (h.gm q fm (by rw [← e]; exact hv)).1 rfl)
    exact ⟨g', e1, e2.mono hn⟩
end
end Go.Proofs.Ytdionganlmnlkaa

/-
  Deps: words for the walk of Set. Conditions: those of each theorem.
-/
import Derived.Test.YtdionganlmnlkaaDRel
import Derived.Test.YtdionganlmnlkaaGp
namespace Go.Proofs.Ytdionganlmnlkaa
open Go.ChangeShapes Go.WideShapes Go.ChangeAt Go.RowKit Go.Deep
attribute [local go_sem] Cls

theorem PB.ty {w : World} {bb N : Nat} {O : Nat → Prop} {Ls : List Pr} (h : PB w bb N O Ls) {z : Nat} (hz : O z) {t : TypeId} {cs : Array Value} (hb : Blk w z t cs) : t = 96 := by
  obtain ⟨ma, mb, nb, L, F, h, hO, _⟩ := h
  rcases (hO z).1 hz with rfl | rfl | rfl | ⟨k, hk⟩
  · have h1 := hb
    have h2 := h.top
    unfold Blk at h1 h2
    rw [h2] at h1
    injection h1 with h1
    injection h1 with _ h1 _
    exact h1.symm
  · obtain ⟨D, ⟨es, clock, e, _⟩, _⟩ := h.all
    exact absurd rfl (IsMp.ne ⟨es, clock, e⟩ hb)
  · obtain ⟨D, ⟨es, clock, e, _⟩, _⟩ := h.bg.band
    exact absurd rfl (IsMp.ne ⟨es, clock, e⟩ hb)
  · obtain ⟨D, ⟨es, clock, e, _⟩, _⟩ := h.bg.grp k z hk
    exact absurd rfl (IsMp.ne ⟨es, clock, e⟩ hb)
section
variable {w w' : World} {db fm tm bb n : Nat} {O : Nat → Prop} {Ps : List Pr} {f t : Cl → Option Value} {Ef : Cl → List Rf} {Wh : Cl → List Cl}
theorem DMem.mono (h : DMem w db fm tm bb n O Ps f t Ef Wh) {n' : Nat} (hn : n ≤ n') : DMem w db fm tm bb n' O Ps f t Ef Wh :=
  ⟨h.top, h.bnd.mono hn, h.frm.mono hn, h.tof.mono hn, h.lst, h.fno, fun s v hv => by obtain ⟨g, e, hg⟩ := h.grp s v hv; exact ⟨g, e, hg.mono hn⟩, h.tno, h.inj, h.ft, h.gm, h.of_, h.ot⟩
theorem DMem.ext (h : DMem w db fm tm bb n O Ps f t Ef Wh) {E' : Cl → List Rf} (e : ∀ q, Ef q = E' q) : DMem w db fm tm bb n O Ps f t E' Wh := by
  have : Ef = E' := funext e
  rw [← this]
  exact h
theorem DRel.extE {E E' : Cl → List Rf} (h : DRel Ps Wh E) (e : ∀ q, E q = E' q) : DRel Ps Wh E' := by
  have : E = E' := funext e
  rw [← this]
  exact h
theorem DMem.refs (h : DMem w db fm tm bb n O Ps f t Ef Wh) (c : Cl) : ∃ A cap, (f c).getD (.slice none 0 0) = .slice A (Ef c).length cap := by
  cases hf : f c with
  | none => exact ⟨none, 0, by rw [h.fno c hf]; rfl⟩
  | some v =>
    obtain ⟨g, cap, rfl, _⟩ := h.lst c v hf
    exact ⟨_, cap, rfl⟩
theorem DMem.lies (h : DMem w db fm tm bb n O Ps f t Ef Wh) {c : Cl} {A : Option Addr} {m cap : Nat} (e : (f c).getD (.slice none 0 0) = .slice A m cap) : Lies KF w A (Ef c) := by
  cases hf : f c with
  | none => rw [h.fno c hf]; exact Lies.nil w A
  | some v =>
    rw [hf] at e
    obtain ⟨g, cap', rfl, hL⟩ := h.lst c v hf
    obtain ⟨A', c', e1, _, _, hLi, _⟩ := hL.see
    change Value.slice (some ⟨g, 0, none⟩) (Ef c).length cap' = _ at e
    rw [e] at e1
    injection e1 with e1
    rw [e1]
    exact hLi
theorem Lies.frmS {α : Type} {K : Knd α} {A : Option Addr} {L : List α} (h : Lies K w A L) {S : Nat → Prop} (hF : Frm S w w') (hn : ∀ b off, A = some ⟨b, off, none⟩ → ¬ S b) : Lies K w' A L := fun i x hx => by
  obtain ⟨b, off, hA, hb, hc⟩ := h i x hx
  exact ⟨b, off, hA, Nat.lt_of_lt_of_le hb hF.size, fun j u hu => (hF.cell hb (hn b off hA) _).trans (hc j u hu)⟩
theorem blkO {bbn N : Nat} {Ls : List Pr} (hF : Frm O w w') (h : PB w bbn N O Ls) {g : Nat} {u : TypeId} {cs : Array Value} (k : Blk w g u cs) (hne : u ≠ 96) : Blk w' g u cs := hF.blk k (fun hz => hne (h.ty hz k))
theorem olO {bbn N B : Nat} {Ls : List Pr} {v : Value} {L : List Rf} (hF : Frm O w w') (h : PB w bbn N O Ls) (k : OL KF w B v L) : OL KF w' B v L := k.keep fun g hg => by
  obtain ⟨cur, hcur⟩ := k.type g hg
  exact hF.block g (k.lt g hg).2 (fun hz => absurd (h.ty hz hcur) (of_decide_eq_false (by kernel_rfl)))
theorem olM {B z : Nat} {v : Value} {L : List Rf} (hg : w.grownBy w' (some z)) (hz : IsMp w z) (k : OL KF w B v L) : OL KF w' B v L := k.grown hg fun g hg' e => by
  injection e with e
  subst e
  obtain ⟨cur, hcur⟩ := k.type z hg'
  exact hz.ne hcur rfl
theorem mp_drew {z : Nat} (h : IsMp w z) : IsMp w.drew z := h
theorem frm_grown {z : Nat} {a : World} {S : Nat → Prop} (h : Frm S a w) (hg : w.grownBy w' (some z)) (hS : z < a.heap.size → S z) : Frm S a w' :=
  h.then_ (S' := fun y => y = z) (DMem.kBnd.frm_one' hg) (fun x e hx => by rw [e] at hx ⊢; exact hS hx)
theorem DMem.look_t (h : DMem w db fm tm bb n O Ps f t Ef Wh) (s : Cl) (hs : rngC s) : (Instr.lookup 71 (.map (some tm)) (.agg #[.int .i64 s.row, .int .i64 s.col]) false).run Try.prog w = .ok ((t s).getD (.map none)) w := by
  obtain ⟨kl, hkl⟩ := key_cell s hs
  exact h.tof.look_run law_cell Try.underlying71 (z := .map none) (fun w => by kernel_rfl) s hkl
theorem DMem.look_f (h : DMem w db fm tm bb n O Ps f t Ef Wh) (s : Cl) (hs : rngC s) : (Instr.lookup 70 (.map (some fm)) (.agg #[.int .i64 s.row, .int .i64 s.col]) false).run Try.prog w = .ok ((f s).getD (.slice none 0 0)) w := by
  obtain ⟨kl, hkl⟩ := key_cell s hs
  exact h.frm.look_run law_cell Try.underlying70 (z := .slice none 0 0) (fun w => by kernel_rfl) s hkl
theorem cset_len {g m : Nat} {M : List Cl} (h : CSet w g m M) (hM : ∀ p, p ∈ M → rngC p) : ∃ z : Nat, (z = 0 ↔ M = []) ∧ ∀ ty, (Builtin.len_ #[76] ty #[.map (some g)]).run Try.prog w = .ok (.int .i64 z) w := by
  obtain ⟨D, hown, hz⟩ := h.size law_cell (fun x hx => key_cell x (hM x hx))
  exact ⟨Maps.size D, hz, fun ty => hown.len Try.underlying76 ty⟩
theorem DMem.wh_lt (h : DMem w db fm tm bb n O Ps f t Ef Wh) {s : Cl} {y : Cl} (hy : y ∈ Wh s) : ∃ g, t s = some (.map (some g)) ∧ CSet w g n (Wh s) := by
  cases ht : t s with
  | none => rw [h.tno s ht] at hy; cases hy
  | some v =>
    obtain ⟨g, rfl, hg⟩ := h.grp s v ht
    exact ⟨g, rfl, hg⟩
end
/-- Which error Set answers. -/
def setE (c : Cl) (L : List Rf) : Int := if mayB c.row c.col = true then (if L.all okR = true then 0 else 1) else 3
def setF (E : Cl → List Rf) (c : Cl) (L : List Rf) : Cl → List Rf := if setE c L = 0 then upE E c (ddp L) else E
theorem setE_ok {c : Cl} {L : List Rf} (h1 : mayB c.row c.col = true) (h2 : L.all okR = true) : setE c L = 0 := by rw [setE, if_pos h1, if_pos h2]
theorem setE_bad {c : Cl} {L : List Rf} (h1 : mayB c.row c.col = true) (h2 : L.all okR = false) : setE c L = 1 := by rw [setE, if_pos h1, if_neg (by rw [h2]; simp)]
theorem setE_addr {c : Cl} {L : List Rf} (h1 : mayB c.row c.col = false) : setE c L = 3 := by rw [setE, if_neg (by rw [h1]; simp)]
/-- What Set answers, and leaves. -/
def DSetIs (w : World) (db fm tm bb n : Nat) (O : Nat → Prop) (f t : Cl → Option Value) (E : Cl → List Rf) (c : Cl) (L : List Rf) (e : Ending) (w' : World) : Prop :=
  ∃ O' Ps' f' t' Wh', e = .returned (.int .i64 (setE c L)) ∧ DMem w' db fm tm bb (n + 2 * L.length + 1) O' Ps' f' t' (setF E c L) Wh' ∧ DRel Ps' Wh' (setF E c L) ∧ Frm (ownD db fm tm O f t) w w' ∧ ∀ z, ownD db fm tm O' f' t' z → ownD db fm tm O f t z ∨ w.heap.size ≤ z
theorem dset_no {w w' : World} {db fm tm bb n : Nat} {O : Nat → Prop} {Ps : List Pr} {f t : Cl → Option Value} {E : Cl → List Rf} {Wh : Cl → List Cl} {c : Cl} {L : List Rf} {z : Int} (h : DMem w db fm tm bb n O Ps f t E Wh) (hr : DRel Ps Wh E) (hb : Below w.heap.size w w') (hz : setE c L = z) (hz0 : z ≠ 0) :
    DSetIs w db fm tm bb n O f t E c L (.returned (.int .i64 z)) w' := by
  have e : setF E c L = E := if_neg (by rw [hz]; exact hz0)
  refine ⟨O, Ps, f, t, Wh, by rw [hz], ?_, ?_, Frm.of_below hb, fun z hz => .inl hz⟩
  · rw [e]
    exact (h.below hb).mono (by omega)
  · rw [e]
    exact hr
/-- What Set keeps at each step: n' more at most; the blocks are old or new. -/
structure DStep (w wr : World) (db fm tm bb n : Nat) (O : Nat → Prop) (f t : Cl → Option Value) (Oc : Nat → Prop) (Ps : List Pr) (fc tc : Cl → Option Value) (Ef : Cl → List Rf) (Wh : Cl → List Cl) : Prop where
  mem : DMem wr db fm tm bb n Oc Ps fc tc Ef Wh
  fr : Frm (ownD db fm tm O f t) w wr
  own : ∀ z, ownD db fm tm Oc fc tc z → ownD db fm tm O f t z ∨ w.heap.size ≤ z
section
variable {w wr w' : World} {db fm tm bb n : Nat} {O Oc : Nat → Prop} {Ps : List Pr} {f t fc tc : Cl → Option Value} {Ef : Cl → List Rf} {Wh : Cl → List Cl}
theorem DStep.below (h : DStep w wr db fm tm bb n O f t Oc Ps fc tc Ef Wh) (hb : Below wr.heap.size wr w') : DStep w w' db fm tm bb n O f t Oc Ps fc tc Ef Wh := ⟨h.mem.below hb, h.fr.call hb, h.own⟩
theorem DStep.bands (h : DStep w wr db fm tm bb n O f t Oc Ps fc tc Ef Wh) {O' : Nat → Prop} {Ps' : List Pr} {n' : Nat} (hP : PB w' bb n' O' Ps') (hF : Frm Oc wr w') (hO : ∀ z, O' z → Oc z ∨ wr.heap.size ≤ z) (hn : n ≤ n') : DStep w w' db fm tm bb n' O f t O' Ps' fc tc Ef Wh := by
  refine ⟨h.mem.bands hP hF hO hn, h.fr.then_ hF (fun x hx hlt => (h.own x (.inr (.inr (.inr (.inl hx))))).elim id (fun h => by omega)), fun z hz => ?_⟩
  rcases hz with rfl | rfl | rfl | hz | hz | hz
  · exact .inl (.inl rfl)
  · exact .inl (.inr (.inl rfl))
  · exact .inl (.inr (.inr (.inl rfl)))
  · rcases hO z hz with h1 | h1
    · exact h.own z (.inr (.inr (.inr (.inl h1))))
    · exact .inr (Nat.le_trans h.fr.size h1)
  · exact h.own z (.inr (.inr (.inr (.inr (.inl hz)))))
  · exact h.own z (.inr (.inr (.inr (.inr (.inr hz)))))
theorem DStep.group (h : DStep w wr db fm tm bb n O f t Oc Ps fc tc Ef Wh) {s : Cl} {g : Nat} (hs : tc s = some (.map (some g))) {L : List Cl} {n' : Nat} (hg : wr.grownBy w' (some g)) (hL : CSet w' g n' L) (hn : n ≤ n') : DStep w w' db fm tm bb n' O f t Oc Ps fc tc Ef (fun q => if q = s then L else Wh q) :=
  ⟨h.mem.group hs hg hL hn, frm_grown h.fr hg (fun hlt => (h.own g (.inr (.inr (.inr (.inr (.inl ⟨s, hs⟩)))))).elim id (fun h => by omega)), h.own⟩
theorem DStep.tdel (h : DStep w wr db fm tm bb n O f t Oc Ps fc tc Ef Wh) {s : Cl} (hg : wr.grownBy w' (some tm)) (hT : CFun w' tm n (fun q => if q = s then none else tc q)) (h0 : Wh s = []) : DStep w w' db fm tm bb n O f t Oc Ps fc (fun q => if q = s then none else tc q) Ef Wh := by
  refine ⟨h.mem.tdel hg hT h0, frm_grown h.fr hg (fun _ => .inr (.inr (.inl rfl))), fun z hz => ?_⟩
  rcases hz with hz | hz | hz | hz | ⟨q, hq⟩ | hz
  · exact h.own z (.inl hz)
  · exact h.own z (.inr (.inl hz))
  · exact h.own z (.inr (.inr (.inl hz)))
  · exact h.own z (.inr (.inr (.inr (.inl hz))))
  · dsimp only at hq
    by_cases e : q = s
    · rw [if_pos e] at hq; cases hq
    · rw [if_neg e] at hq
      exact h.own z (.inr (.inr (.inr (.inr (.inl ⟨q, hq⟩)))))
  · exact h.own z (.inr (.inr (.inr (.inr (.inr hz)))))
theorem DStep.tput (h : DStep w wr db fm tm bb n O f t Oc Ps fc tc Ef Wh) {s : Cl} {g n' : Nat} (hs : tc s = none) (hg : wr.grownBy w' (some tm)) (hT : CFun w' tm n' (fun q => if q = s then some (.map (some g)) else tc q)) (hG : CSet wr g n []) (hgo : ¬ ownD db fm tm Oc fc tc g) (hgw : w.heap.size ≤ g) (hn : n ≤ n') :
    DStep w w' db fm tm bb n' O f t Oc Ps fc (fun q => if q = s then some (.map (some g)) else tc q) Ef Wh := by
  refine ⟨h.mem.tput hs hg hT hG hgo hn, frm_grown h.fr hg (fun _ => .inr (.inr (.inl rfl))), fun z hz => ?_⟩
  rcases hz with hz | hz | hz | hz | ⟨q, hq⟩ | hz
  · exact h.own z (.inl hz)
  · exact h.own z (.inr (.inl hz))
  · exact h.own z (.inr (.inr (.inl hz)))
  · exact h.own z (.inr (.inr (.inr (.inl hz))))
  · dsimp only at hq
    by_cases e : q = s
    · rw [if_pos e] at hq
      injection hq with hq
      injection hq with hq
      injection hq with hq
      subst hq
      exact .inr hgw
    · rw [if_neg e] at hq
      exact h.own z (.inr (.inr (.inr (.inr (.inl ⟨q, hq⟩)))))
  · exact h.own z (.inr (.inr (.inr (.inr (.inr hz)))))
theorem DStep.fdel (h : DStep w wr db fm tm bb n O f t Oc Ps fc tc Ef Wh) {c : Cl} (hg : wr.grownBy w' (some fm)) (hT : CFun w' fm n (fun q => if q = c then none else fc q)) : DStep w w' db fm tm bb n O f t Oc Ps (fun q => if q = c then none else fc q) tc (fun q => if q = c then [] else Ef q) Wh := by
  refine ⟨h.mem.fdel hg hT, frm_grown h.fr hg (fun _ => .inr (.inl rfl)), fun z hz => ?_⟩
  rcases hz with hz | hz | hz | hz | hz | ⟨q, m, cap, hq⟩
  · exact h.own z (.inl hz)
  · exact h.own z (.inr (.inl hz))
  · exact h.own z (.inr (.inr (.inl hz)))
  · exact h.own z (.inr (.inr (.inr (.inl hz))))
  · exact h.own z (.inr (.inr (.inr (.inr (.inl hz)))))
  · dsimp only at hq
    by_cases e : q = c
    · rw [if_pos e] at hq; cases hq
    · rw [if_neg e] at hq
      exact h.own z (.inr (.inr (.inr (.inr (.inr ⟨q, m, cap, hq⟩)))))
theorem DStep.fput (h : DStep w wr db fm tm bb n O f t Oc Ps fc tc Ef Wh) {c : Cl} {g cap n' : Nat} {L : List Rf} (hg : wr.grownBy w' (some fm)) (hT : CFun w' fm n' (fun q => if q = c then some (.slice (some ⟨g, 0, none⟩) L.length cap) else fc q)) (hL : OL KF wr 0 (.slice (some ⟨g, 0, none⟩) L.length cap) L) (hgw : w.heap.size ≤ g) (hn : n ≤ n') :
    DStep w w' db fm tm bb n' O f t Oc Ps (fun q => if q = c then some (.slice (some ⟨g, 0, none⟩) L.length cap) else fc q) tc (fun q => if q = c then L else Ef q) Wh := by
  refine ⟨h.mem.fput hg hT hL hn, frm_grown h.fr hg (fun _ => .inr (.inl rfl)), fun z hz => ?_⟩
  rcases hz with hz | hz | hz | hz | hz | ⟨q, m, cap', hq⟩
  · exact h.own z (.inl hz)
  · exact h.own z (.inr (.inl hz))
  · exact h.own z (.inr (.inr (.inl hz)))
  · exact h.own z (.inr (.inr (.inr (.inl hz))))
  · exact h.own z (.inr (.inr (.inr (.inr (.inl hz)))))
  · dsimp only at hq
    by_cases e : q = c
    · rw [if_pos e] at hq
      injection hq with hq
      injection hq with hq
      injection hq with hq
      injection hq with hq
      subst hq
      exact .inr hgw
    · rw [if_neg e] at hq
      exact h.own z (.inr (.inr (.inr (.inr (.inr ⟨q, m, cap', hq⟩)))))
end
end Go.Proofs.Ytdionganlmnlkaa

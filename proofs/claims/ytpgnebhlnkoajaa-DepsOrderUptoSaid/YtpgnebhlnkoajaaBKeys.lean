/-
  Bands: keys of its maps; what the program holds. Conditions: those of each theorem.
-/
import Derived.Test.YtpgnebhlnkoajaaBPure
import Derived.Test.YtpgnebhlnkoajaaMset
import Derived.DeepKeys4
namespace Go.Proofs.Ytpgnebhlnkoajaa
open Go.ChangeShapes Go.WideShapes Go.ChangeAt Go.RowKit Go.Deep

def pairV (p : Pr) : Value := .agg #[.int .i64 p.t, .int .i64 p.l, .int .i64 p.b, .int .i64 p.r, .int .i64 p.row, .int .i64 p.col]
theorem pairV_inj (x y : Pr) (h : pairV x = pairV y) : x = y := by
  obtain ⟨a, b, c, d, e, f⟩ := x
  obtain ⟨a', b', c', d', e', f'⟩ := y
  simp [pairV] at h
  obtain ⟨rfl, rfl, rfl, rfl, rfl, rfl⟩ := h
  rfl
def i64P (z : Int) : Prop := -9223372036854775808 ≤ z ∧ z ≤ 9223372036854775807
def rngP (p : Pr) : Prop := (i64P p.t ∧ i64P p.l ∧ i64P p.b) ∧ i64P p.r ∧ i64P p.row ∧ i64P p.col
theorem wf_i64 {z : Int} (h : i64P z) : (Lit.int .i64 z).wf = true := by
  unfold i64P at h
  simpa [Lit.wf, IntKind.min, IntKind.max, IntKind.signed, IntKind.bits] using h
theorem law_pair : Maps.Keyed Try.prog 79 := Maps.Keyed.of_law (deep_law_laid (by kernel_rfl) (m := 3) (by omega) (of_decide_eq_true (by kernel_rfl)) (by kernel_rfl) (by rw [Try.underlying79]))
theorem law_int : Maps.Keyed Try.prog 3 := Maps.int_keyed Try.underlying3
theorem key_int {z : Int} (h : i64P z) : keyOf Try.prog 3 (.int .i64 z) = some (.int .i64 z) := Maps.keyOf_int_mk Try.underlying3 (wf_i64 h)
theorem key_pair (x : Pr) (h : rngP x) : ∃ kl, keyOf Try.prog 79 (pairV x) = some kl := by
  obtain ⟨⟨h1, h2, h3⟩, h4, h5, h6⟩ := h
  have w1 := wf_i64 h1
  have w2 := wf_i64 h2
  have w3 := wf_i64 h3
  have w4 := wf_i64 h4
  have w5 := wf_i64 h5
  have w6 := wf_i64 h6
  have hk : Try.prog.keyType 79 = true := by kernel_rfl
  have hc : Try.prog.cellsOf 79 = 6 := by kernel_rfl
  have hc2 : Try.prog.cellsOf 47 = 4 := by kernel_rfl
  have hc3 : Try.prog.cellsOf 3 = 1 := by kernel_rfl
  have hc4 : Try.prog.cellsOf 33 = 2 := by kernel_rfl
  have hf : (pairV x).formed Try.prog 79 = true := by simp [pairV, Value.formed, Try.underlying79, hc]
  obtain ⟨n, hn⟩ : ∃ n, Try.prog.types.size + 1 = n + 3 := ⟨Try.prog.types.size - 2, by
    have : (3 : Nat) ≤ Try.prog.types.size := of_decide_eq_true (by kernel_rfl)
    omega⟩
  have hl : Try.prog.keyLits (n + 3) 79 (pairV x).cells.toList = some [.int .i64 x.t, .int .i64 x.l, .int .i64 x.b, .int .i64 x.r, .int .i64 x.row, .int .i64 x.col] := by
    simp [Program.keyLits, Try.underlying79, Try.underlying47, Try.underlying33, Try.underlying3, hc, hc2, hc3, hc4, pairV, Value.cells, w1, w2, w3, w4, w5, w6]
    rw [if_pos (by
      intro i hi
      match i, hi with
      | 0, _ => simp
      | 1, _ => simp
      | 2, _ => simp
      | 3, _ => simp), if_pos (by
      intro i hi
      match i, hi with
      | 0, _ => simp
      | 1, _ => simp)]
    rfl
  refine ⟨.string (keyBytes [.int .i64 x.t, .int .i64 x.l, .int .i64 x.b, .int .i64 x.r, .int .i64 x.row, .int .i64 x.col]), ?_⟩
  unfold keyOf
  rw [Try.underlying79]
  simp only [hk, hf, Bool.and_self, if_true]
  rw [hn, hl]
  rfl
theorem zero_unit (w : World) : (zeroValue 66).run Try.prog w = .ok (.agg #[]) w := by kernel_rfl
theorem zero_map (w : World) : (zeroValue 73).run Try.prog w = .ok (.map none) w := by kernel_rfl

/-- How a band's map reads in the map of bands: by its block. -/
def refE : Value → Option (DataW Unit × List MemPlace)
  | .map (some g) => some (.lit (.int .i64 g), [])
  | .map none => some (.nil, [])
  | _ => none
def refD : Option Nat → DataW Unit
  | some g => .lit (.int .i64 g)
  | none => .nil
theorem refE_inv {v : Value} {F : Option Nat} {ps : List MemPlace} (h : refE v = some (refD F, ps)) : v = .map F := by
  unfold refE at h
  split at h
  · rename_i g
    cases F with
    | none => simp [refD] at h
    | some g' =>
      simp [refD] at h
      have e : g = g' := by omega
      rw [e]
  · cases F with
    | none => rfl
    | some g' => simp [refD] at h
  · cases h

/-- An own set of pairs. -/
abbrev PSet (w : World) (b n : Nat) (L : List Pr) : Prop := MSet Try.prog 79 pairV rngP w b n L
/-- The map of bands: F tells each band's block, G what is in it. -/
structure BG (w : World) (mb nb n : Nat) (F : Int → Option Nat) (G : Int → List Pr) : Prop where
  band : ∃ D : DataW Unit, w.ownsMap Try.prog 3 refE mb nb D ∧ ∀ k, D.atKey (.int .i64 k) .nil = refD (F k)
  grp : ∀ k g, F k = some g → PSet w g n (G k)
  non : ∀ k, F k = none → G k = []
  inj : ∀ k k' g, F k = some g → F k' = some g → k = k'
  ne : ∀ k g, F k = some g → g ≠ mb

section
variable {w w' : World} {mb nb n : Nat} {F : Int → Option Nat} {G : Int → List Pr}
theorem BG.kept {row : Option Nat} (h : BG w mb nb n F G) (hg : w.grownBy w' row) (h1 : some mb ≠ row) (h2 : ∀ k g, F k = some g → some g ≠ row) : BG w' mb nb n F G := by
  obtain ⟨D, hD, hat⟩ := h.band
  exact ⟨⟨D, hD.kept hg h1, hat⟩, fun k g hk => (h.grp k g hk).kept hg (h2 k g hk), h.non, h.inj, h.ne⟩
theorem BG.below (h : BG w mb nb n F G) (hb : Below w.heap.size w w') : BG w' mb nb n F G := h.kept (row := none) (grown_of_below hb none) (by simp) (by simp)
theorem BG.ltm (h : BG w mb nb n F G) : mb < w.heap.size := by
  obtain ⟨D, hD, _⟩ := h.band
  exact hD.lt
theorem BG.ltg (h : BG w mb nb n F G) {k : Int} {g : Nat} (hk : F k = some g) : g < w.heap.size := (h.grp k g hk).lt
theorem BG.mono (h : BG w mb nb n F G) {nb' n' : Nat} (h1 : nb ≤ nb') (h2 : n ≤ n') : BG w mb nb' n' F G := by
  obtain ⟨D, hD, hat⟩ := h.band
  exact ⟨⟨D, hD.mono h1, hat⟩, fun k g hk => (h.grp k g hk).mono h2, h.non, h.inj, h.ne⟩
theorem BG.ext (h : BG w mb nb n F G) {G' : Int → List Pr} (e : ∀ k x, x ∈ G k ↔ x ∈ G' k) : BG w mb nb n F G' :=
  ⟨h.band, fun k g hk => (h.grp k g hk).ext (e k), fun k hk => by
    rw [List.eq_nil_iff_forall_not_mem]
    intro x hx
    rw [← e k, h.non k hk] at hx
    simp at hx, h.inj, h.ne⟩
/-- The look-up of a band. -/
theorem BG.look (h : BG w mb nb n F G) {k : Int} (hk : i64P k) : (Instr.lookup 74 (.map (some mb)) (.int .i64 k) false).run Try.prog w = .ok (.map (F k)) w := by
  obtain ⟨D, hD, hat⟩ := h.band
  obtain ⟨v, ps, hrun, hv⟩ := hD.lookup law_int Try.underlying74 (zero_map w) (zd := .nil) (zp := []) rfl (key_int hk)
  rw [hat k] at hv
  rw [hrun, refE_inv hv]
theorem BG.put (h : BG w mb nb n F G) {k : Int} {g : Nat} {p : Pr} (hF : F k = some g) (hw : w.grownBy w' (some g)) (hs : PSet w' g (n + 1) (p :: G k)) : BG w' mb nb (n + 1) F (fun q => if q = k then p :: G k else G q) := by
  have hm := h.ne k g hF
  obtain ⟨D, hD, hat⟩ := h.band
  refine ⟨⟨D, hD.kept hw (by simpa using hm.symm), hat⟩, fun q g' hq => ?_, fun q hq => ?_, h.inj, h.ne⟩
  · by_cases e : q = k
    · subst e
      rw [hF] at hq
      injection hq with hq
      subst hq
      rw [if_pos rfl]
      exact hs
    · rw [if_neg e]
      refine ((h.grp q g' hq).kept hw ?_).mono (Nat.le_succ n)
      intro he
      injection he with he
      subst he
      exact e (h.inj q k g' hq hF)
  · have e : q ≠ k := by
      rintro rfl
      rw [hF] at hq
      cases hq
    rw [if_neg e]
    exact h.non q hq
theorem BG.fresh (h : BG w mb nb n F G) {k : Int} (hk : i64P k) (hF : F k = none) {g : Nat} (hg : PSet w g n []) (hne : g ≠ mb) (hfr : ∀ q g', F q = some g' → g' ≠ g) (hnb : nb < maxLen) :
    ∃ w', (Instr.mapUpdate 74 (.map (some mb)) (.int .i64 k) (.map (some g))).run Try.prog w = .ok () w' ∧ BG w' mb (nb + 1) n (fun q => if q = k then some g else F q) G ∧ w.grownBy w' (some mb) := by
  obtain ⟨D, hD, hat⟩ := h.band
  obtain ⟨w', hrun, ho, hw⟩ := hD.update law_int Try.underlying74 hnb (key_int hk) (val := .map (some g)) (d := .lit (.int .i64 g)) (ps := []) rfl
  refine ⟨w', hrun, ⟨⟨_, ho, fun q => ?_⟩, fun q g' hq => ?_, fun q hq => ?_, fun q q' g' h1 h2 => ?_, fun q g' hq => ?_⟩, hw⟩
  · by_cases e : q = k
    · subst e
      rw [if_pos rfl, Maps.atKey_put_same hD.isMap (law_int.key (key_int hk))]
      rfl
    · rw [if_neg e, Maps.atKey_put_other (by intro e'; injection e' with _ e'; exact e e')]
      exact hat q
  · by_cases e : q = k
    · subst e
      rw [if_pos rfl] at hq
      injection hq with hq
      subst hq
      rw [h.non q hF]
      exact hg.kept hw (by simpa using hne)
    · rw [if_neg e] at hq
      exact (h.grp q g' hq).kept hw (by simpa using h.ne q g' hq)
  · by_cases e : q = k
    · rw [if_pos e] at hq
      cases hq
    · rw [if_neg e] at hq
      exact h.non q hq
  · by_cases e1 : q = k
    · by_cases e2 : q' = k
      · rw [e1, e2]
      · rw [if_pos e1] at h1
        rw [if_neg e2] at h2
        exact absurd (Option.some.inj h1).symm (hfr q' g' h2)
    · by_cases e2 : q' = k
      · rw [if_neg e1] at h1
        rw [if_pos e2] at h2
        exact absurd (Option.some.inj h2).symm (hfr q g' h1)
      · rw [if_neg e1] at h1
        rw [if_neg e2] at h2
        exact h.inj q q' g' h1 h2
  · by_cases e : q = k
    · rw [if_pos e] at hq
      injection hq with hq
      rw [← hq]
      exact hne
    · rw [if_neg e] at hq
      exact h.ne q g' hq
end

def okP (p : Pr) : Prop := mayR p.t p.l p.b p.r = true ∧ mayB p.row p.col = true
theorem okP_rng {p : Pr} (h : okP p) : (1 ≤ p.t ∧ p.t ≤ p.b ∧ p.b ≤ 4096) ∧ rngP p := by
  obtain ⟨h1, h2⟩ := h
  have h3 := mayB_true h2
  simp [mayR, mayB] at h1
  unfold rngP i64P
  refine ⟨by omega, ⟨⟨?_, ?_⟩, ⟨?_, ?_⟩, ⟨?_, ?_⟩⟩, ⟨?_, ?_⟩, ⟨?_, ?_⟩, ⟨?_, ?_⟩⟩ <;> omega
/-- Does a pair reach into a band? -/
def reach (k : Int) (p : Pr) : Bool := decide (p.t.tdiv 64 ≤ k ∧ k ≤ p.b.tdiv 64)
/-- What the program holds. -/
structure BIs (w : World) (bb ma mb nb n : Nat) (L : List Pr) (F : Int → Option Nat) : Prop where
  top : Blk w bb 76 #[.map (some ma), .map (some mb)]
  all : PSet w ma n L
  bg : BG w mb nb n F (fun k => L.filter (reach k))
  ne : ma ≠ mb
  nel : ∀ k g, F k = some g → g ≠ ma
  may : ∀ p, p ∈ L → okP p
end Go.Proofs.Ytpgnebhlnkoajaa

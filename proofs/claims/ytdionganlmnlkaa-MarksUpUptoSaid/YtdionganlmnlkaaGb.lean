/-
  Bands: all, who is over a cell. Conditions: those of each theorem.
-/
import Derived.Test.YtdionganlmnlkaaGa
import Derived.Test.YtdionganlmnlkaaGp
import Derived.Test.YtdionganlmnlkaaBLay
import Derived.Laws.IdiomRangeMap
import Derived.WalkMore
import Derived.Deep.LoopGhost
namespace Go.Proofs.Ytdionganlmnlkaa
open Go.ChangeShapes Go.WideShapes Go.ChangeAt Go.RowKit Go.Deep Go.Sort Go.Lib

instance : Inhabited Pr := ⟨⟨0, 0, 0, 0, 0, 0⟩⟩
theorem ltOf_edge (x y : Pr) : ltOf edgeI x y = decide (ltP x y) := by
  unfold ltOf
  exact decide_eq_decide.2 (edgeI_lt x y)
theorem swo_edge : SWO (ltOf edgeI) where
  irrefl x := by rw [ltOf_edge]; exact decide_eq_false (ltP_irrefl x)
  trans x y z h1 h2 := by
    rw [ltOf_edge] at *
    exact decide_eq_true (ltP_trans (of_decide_eq_true h1) (of_decide_eq_true h2))
  ntrans x y z h1 h2 := by
    rw [ltOf_edge] at *
    have h1 := of_decide_eq_false h1
    have h2 := of_decide_eq_false h2
    refine decide_eq_false fun h => ?_
    rcases ltP_total x y with h3 | h3 | h3
    · exact h1 h3
    · subst h3; exact h2 h
    · exact h2 (ltP_trans h3 h)
end Go.Proofs.Ytdionganlmnlkaa
namespace Go.Proofs.Ytdionganlmnlkaa
open Go.ChangeShapes Go.WideShapes Go.ChangeAt Go.RowKit Go.Deep

section
variable {w : World} {ops : Array Oper} {rest : List Oper} {o : Oper} {a : Act} {Q : Exit → Act → World → Prop}
/-- The next pair of a map of pairs. -/
theorem wp_pair_next (hg : o.guard = none) (it : Operand) (hop : o.op = Op.next it false) (ma r n : Nat) (D : DataW Unit) (left : Lit → Bool) (cnt : Nat)
    (hD : ∀ l, Maps.has D l = true → ∃ x : Pr, rngP x ∧ keyOf Try.prog 91 (pairV x) = some l) (hsub : ∀ l, left l = true → Maps.has D l = true)
    (hit : a.eval it = .pointer (some ⟨r, 0, none⟩)) (h : w.ranges Try.prog 91 unitElem ma r n D left cnt)
    (hDone : cnt = 0 → (∀ kl, left kl = false) → wpList Try.prog ops Q rest (a.put o.dst (.tuple #[.bool false])) w)
    (hMore : ∀ (p : Pr) (kl : Lit) (w' : World) (cnt' : Nat), keyOf Try.prog 91 (pairV p) = some kl → left kl = true → w'.ranges Try.prog 91 unitElem ma r n D (fun z => left z && !z.sameKey kl) cnt' → cnt' < cnt →
      w.grownBy w' (some r) → w'.heap.size = w.heap.size → (Instr.entry (.pointer (some ⟨r, 0, none⟩))).run Try.prog w' = .ok (.tuple #[.agg #[.int .i64 p.t, .int .i64 p.l, .int .i64 p.b, .int .i64 p.r, .int .i64 p.row, .int .i64 p.col], .agg #[]]) w' →
      wpList Try.prog ops Q rest (a.put o.dst (.tuple #[.bool true, .agg #[.int .i64 p.t, .int .i64 p.l, .int .i64 p.b, .int .i64 p.r, .int .i64 p.row, .int .i64 p.col], .agg #[]])) w') :
    wpList Try.prog ops Q (o :: rest) a w := by
  refine wpList_next_ranges w hg it hop 91 law_pair unitElem (fun v : Value => v) (fun v : Value => v) (fun key kl _ => ⟨key, rfl⟩) (fun v y _ => ⟨v, rfl⟩) ma r n D left cnt hit h hDone ?_
  intro x c kl y w' cnt' hkx hlk hRc hat hrg hlt hgr hsz hen
  obtain ⟨p, _, hp⟩ := hD kl (hsub kl hlk)
  have hxp : x = pairV p := law_pair.inj hkx hp
  subst hxp
  obtain ⟨rfl, _⟩ := unitElem_inv hRc
  exact hMore p kl w' cnt' hp hlk hrg hlt hgr hsz hen
end

/-- What All answers. -/
def AllIs (w : World) (Ls : List Pr) (e : Ending) (w' : World) : Prop :=
  ∃ A, e = .returned (.slice A Ls.length Ls.length) ∧ Lies KE w' A Ls ∧ (A = none ∨ ∃ (g : Nat) (cur : Array Value), A = some ⟨g, 0, none⟩ ∧ w.heap.size ≤ g ∧ Blk w' g 55 cur ∧ Ls.length * 7 ≤ cur.size) ∧ Below w.heap.size w w'

theorem ol_blk {α : Type} {K : Knd α} {w : World} {B n c g : Nat} {L : List α} (h : OL K w B (.slice (some ⟨g, 0, none⟩) n c) L) : ∃ cur : Array Value, Blk w g K.t cur ∧ cur.size = c * K.size ∧ B ≤ g ∧ c ≤ maxLen := by
  rcases h.2 with ⟨h2, _⟩ | ⟨g', cap, cur, hv, hB, hg, hn, hm, hs, ht⟩
  · cases h2
  · injection hv with e1 e2 e3
    injection e1 with e1
    injection e1 with e1
    subst e1 e3
    exact ⟨cur, hg, by simpa using hs, hB, hm⟩
theorem ol_lies {α : Type} {K : Knd α} {w : World} {B n c : Nat} {A : Option Addr} {L : List α} (h : OL K w B (.slice A n c) L) : Lies K w A L := by
  obtain ⟨A', c', h1, _, _, h2, _⟩ := h.see
  injection h1 with h1 _ _
  subst h1
  exact h2

theorem ol_ne_iter {α : Type} {K : Knd α} {w : World} {B : Nat} {v : Value} {L : List α} (h : OL K w B v L) {P : Program} {k : TypeId} {R : Value → Option (DataW Unit × List MemPlace)} {b r n cnt : Nat} {D : DataW Unit} {left : Lit → Bool} (hr : w.ranges P k R b r n D left cnt) : ∀ g, v.ownBlock = some g → g ≠ r := by
  rintro g hg rfl
  obtain ⟨cur, e1⟩ := h.type g hg
  obtain ⟨_, _, _, _, _, _, _, _, _, e2, _⟩ := hr
  rw [e1] at e2
  injection e2 with e2
  cases e2
theorem ol_ne_map' {α : Type} {K : Knd α} {w : World} {B : Nat} {v : Value} {L : List α} (h : OL K w B v L) {P : Program} {k : TypeId} {R : Value → Option (DataW Unit × List MemPlace)} {b n : Nat} {D : DataW Unit} (hm : w.ownsMap P k R b n D) : ∀ g, v.ownBlock = some g → g ≠ b := by
  rintro g hg rfl
  obtain ⟨cur, e1⟩ := h.type g hg
  obtain ⟨es, clock, e2, _⟩ := hm
  rw [e1] at e2
  injection e2 with e2
  cases e2
end Go.Proofs.Ytdionganlmnlkaa
namespace Go.Proofs.Ytdionganlmnlkaa
open Go.ChangeShapes Go.WideShapes Go.ChangeAt Go.RowKit Go.Deep Go.Sort Go.Lib

instance : Inhabited Cl := ⟨⟨0, 0⟩⟩
/-- The order of cells. -/
def ltC (x y : Cl) : Prop := x.row < y.row ∨ x.row = y.row ∧ x.col < y.col
instance (x y : Cl) : Decidable (ltC x y) := by unfold ltC; infer_instance
theorem ltC_irrefl (x : Cl) : ¬ ltC x x := by unfold ltC; omega
theorem ltC_trans {x y z : Cl} (h1 : ltC x y) (h2 : ltC y z) : ltC x z := by unfold ltC at *; omega
theorem ltC_total (x y : Cl) : ltC x y ∨ x = y ∨ ltC y x := by
  obtain ⟨a, b⟩ := x
  obtain ⟨c, d⟩ := y
  simp only [ltC, Cl.mk.injEq]
  omega
abbrev SrtC (L : List Cl) : Prop := L.Pairwise ltC
def cellI (x y : Cl) : Int := rowI x.row x.col y.row y.col
theorem cellI_lt (x y : Cl) : cellI x y < 0 ↔ ltC x y := by
  unfold cellI rowI ltC
  have hn : ¬ orI [] < 0 := by decide
  simp only [(or_neg _ _).1, (cmp_neg _ _).1, (cmp_neg _ _).2, hn]
  simp only [and_false, or_false]
theorem srtC_ext : ∀ {L M : List Cl}, SrtC L → SrtC M → (∀ x, x ∈ L ↔ x ∈ M) → L = M
  | [], [], _, _, _ => rfl
  | [], y :: M, _, _, h => absurd ((h y).2 (by simp)) (by simp)
  | x :: L, [], _, _, h => absurd ((h x).1 (by simp)) (by simp)
  | x :: L, y :: M, h1, h2, h => by
    rw [SrtC, List.pairwise_cons] at h1 h2
    have hxy : x = y := by
      rcases List.mem_cons.1 ((h x).1 (by simp)) with e | e
      · exact e
      · rcases List.mem_cons.1 ((h y).2 (by simp)) with e' | e'
        · exact e'.symm
        · exact absurd (ltC_trans (h1.1 y e') (h2.1 x e)) (ltC_irrefl x)
    subst hxy
    rw [srtC_ext h1.2 h2.2 (fun z => by
      have hz := h z
      rw [List.mem_cons, List.mem_cons] at hz
      refine ⟨fun hm => ?_, fun hm => ?_⟩
      · rcases hz.1 (.inr hm) with e | e
        · subst e; exact absurd (h1.1 z hm) (ltC_irrefl z)
        · exact e
      · rcases hz.2 (.inr hm) with e | e
        · subst e; exact absurd (h2.1 z hm) (ltC_irrefl z)
        · exact e)]
theorem clipc_any (A : Option Addr) (n c : Nat) (w : World) (hc : n ≤ c) :
    Calls Try.prog 61 #[.slice A n c] w fun e w' => e = .returned (.slice A n n) ∧ w = w' := by
  cases A with
  | none =>
    go_enter Try.func61, Try.ntmps61
    go_wp2_with fail
    go_ret
    exact ⟨rfl, rfl⟩
  | some a =>
    obtain ⟨g, off, sp⟩ := a
    go_enter Try.func61, Try.ntmps61
    go_wp2_with fail
    go_ret
    exact ⟨rfl, rfl⟩

theorem ltOf_cell (x y : Cl) : ltOf cellI x y = decide (ltC x y) := by
  unfold ltOf
  exact decide_eq_decide.2 (cellI_lt x y)
theorem swo_cell : SWO (ltOf cellI) where
  irrefl x := by rw [ltOf_cell]; exact decide_eq_false (ltC_irrefl x)
  trans x y z h1 h2 := by
    rw [ltOf_cell] at *
    exact decide_eq_true (ltC_trans (of_decide_eq_true h1) (of_decide_eq_true h2))
  ntrans x y z h1 h2 := by
    rw [ltOf_cell] at *
    have h1 := of_decide_eq_false h1
    have h2 := of_decide_eq_false h2
    refine decide_eq_false fun h => ?_
    rcases ltC_total x y with h3 | h3 | h3
    · exact h1 h3
    · subst h3; exact h2 h
    · exact h2 (ltC_trans h3 h)
theorem lays_cell (blk off size : Nat) (w : World) : CmpLays Try.prog 60 #[] KC.enc 2 cellI blk off size w :=
  fun _ _ _ _ x y => row_any x.row x.col y.row y.col _
theorem sort_cells {w : World} {B : Nat} {v : Value} {L : List Cl} (h : OL KC w B v L) (hnd : L.Nodup) (hl : L.length < 4611686018427387904) :
    Calls Try.prog 48 #[v, .func (.func 60) #[] #[]] w fun e w' => e = .returned (.tuple #[]) ∧ ∃ M, OL KC w' B v M ∧ M.length = L.length ∧ SrtC M ∧ (∀ x, x ∈ M ↔ x ∈ L) ∧ w.grownBy w' v.ownBlock := by
  obtain ⟨A, c, rfl, hc, hcm, hLi, hA⟩ := h.see
  rcases hA with rfl | ⟨g, rfl, hg1, hg2⟩
  · obtain ⟨e1, e2⟩ := ol_none h
    have hL : L = [] := List.length_eq_zero_iff.1 e1
    subst hL
    have hcon := AnyF.slices_SortFunc_none sortCell none c (.func (.func 60) #[] #[]) w
    change Calls Try.prog 48 _ _ _ at hcon
    refine hcon.mono fun e w' ⟨he, hw⟩ => ⟨he, [], by rw [hw]; exact h, rfl, List.Pairwise.nil, fun x => Iff.rfl, by rw [hw]; exact grown_refl w _⟩
  · have eg : ∀ args w, (callFunc 60 args).run Try.prog w = .ok (.enter 60 args) w := enters_of Try.func60 (by kernel_rfl) rfl
    have hcon := AnyQ.slices_SortFunc_total sortCell 2 Try.isAgg32 Try.sizeOf32 KC.enc KC.len KC.one cellI swo_cell 60 #[] g 0 c L.toArray w eg (lays_cell g 0 _ w) (ol_holds h) hg2 (by simpa using hl)
      (fun x y h1 h2 => by
        rw [ltOf_cell] at h1 h2
        rcases ltC_total x y with h3 | h3 | h3
        · exact absurd h3 (of_decide_eq_false h1)
        · exact h3
        · exact absurd h3 (of_decide_eq_false h2))
    change Calls Try.prog 48 _ _ _ at hcon
    refine hcon.mono fun e w' ⟨he, n, os, hw⟩ => ⟨he, L.mergeSort (fun x y => !(ltOf cellI) y x), ?_⟩
    have hp := List.mergeSort_perm L (fun x y => !(ltOf cellI) y x)
    obtain ⟨h1, h2⟩ := ol_sorted (n := n) (os := os) h hp.length_eq
    refine ⟨by rw [hw]; exact h1, hp.length_eq, ?_, fun x => hp.mem_iff, by rw [hw]; exact h2⟩
    have hs := List.pairwise_mergeSort (le := fun x y => !(ltOf cellI) y x) (fun a b c h1 h2 => by
      simp only [ltOf_cell, Bool.not_eq_true', decide_eq_false_iff_not] at *
      intro h3
      rcases ltC_total b a with h4 | h4 | h4
      · exact h1 h4
      · subst h4; exact h2 h3
      · exact h2 (ltC_trans h3 h4)) (fun a b => by
      simp only [ltOf_cell, Bool.or_eq_true, Bool.not_eq_true', decide_eq_false_iff_not]
      rcases ltC_total a b with h4 | h4 | h4
      · exact .inl fun h5 => ltC_irrefl _ (ltC_trans h4 h5)
      · subst h4; exact .inl (ltC_irrefl _)
      · exact .inr fun h5 => ltC_irrefl _ (ltC_trans h4 h5)) L
    have hn : (L.mergeSort (fun x y => !(ltOf cellI) y x)).Nodup := hp.nodup_iff.2 hnd
    refine List.Pairwise.imp₂ (fun a b h1 h2 => ?_) hs hn
    simp only [ltOf_cell, Bool.not_eq_true', decide_eq_false_iff_not] at h1
    rcases ltC_total a b with h4 | h4 | h4
    · exact h4
    · exact absurd h4 h2
    · exact absurd h4 h1
end Go.Proofs.Ytdionganlmnlkaa
namespace Go.Proofs.Ytdionganlmnlkaa
open Go.ChangeShapes Go.WideShapes Go.ChangeAt Go.RowKit Go.Deep

theorem eql_cell (w : World) (a b c d : Int) : (binOp .eql 32 (.agg #[.int .i64 a, .int .i64 b]) (.agg #[.int .i64 c, .int .i64 d])).run Try.prog w = .ok (.bool (decide ((⟨a, b⟩ : Cl) = ⟨c, d⟩))) w := by
  have h : (Op.equalIn (9998 + 2) 32 (.agg #[.int .i64 a, .int .i64 b]) (.agg #[.int .i64 c, .int .i64 d])).run Try.prog w = .ok (decide ((⟨a, b⟩ : Cl) = ⟨c, d⟩)) w := by
    by_cases h1 : a = c
    · by_cases h2 : b = d
      · simp [go_sem, h1, h2]
      · simp [go_sem, h1, h2]
    · simp [go_sem, h1]
  rw [run_eql_struct, show (10000 : Nat) = 9998 + 2 from rfl, h]
  rfl
theorem cl_at {w : World} {A : Option Addr} {L : List Cl} (h : Lies KC w A L) {i : Nat} {x : Cl} (hx : L[i]? = some x) : ∃ g off, A = some ⟨g, off, none⟩ ∧ g < w.heap.size ∧ w.cell? ⟨g, off + i * 2, none⟩ = some (.int .i64 x.row) ∧ w.cell? ⟨g, off + i * 2 + 1, none⟩ = some (.int .i64 x.col) := by
  obtain ⟨g, off, h1, h2, h3⟩ := h i x hx
  exact ⟨g, off, h1, h2, h3 0 _ rfl, h3 1 _ rfl⟩

end Go.Proofs.Ytdionganlmnlkaa
namespace Go.Proofs.Ytdionganlmnlkaa
open Go.ChangeShapes Go.WideShapes Go.ChangeAt Go.RowKit Go.Deep
attribute [local go_sem] Cls

theorem i64_quo {row : Int} (h : i64P row) : i64P (row.tdiv 64) := by
  have h1 : (row.tdiv 64).natAbs = row.natAbs / 64 := Int.natAbs_tdiv row 64
  have h2 : 0 ≤ row → 0 ≤ row.tdiv 64 := fun h => Int.tdiv_nonneg h (by decide)
  unfold i64P at *
  omega
/-- What Over answers. -/
def OverIs (w : World) (Cs : List Cl) (e : Ending) (w' : World) : Prop :=
  ∃ A, e = .returned (.slice A Cs.length Cs.length) ∧ Lies KC w' A Cs ∧ (A = none ∨ ∃ (g : Nat) (cur : Array Value), A = some ⟨g, 0, none⟩ ∧ w.heap.size ≤ g ∧ Blk w' g 32 cur ∧ Cs.length * 2 ≤ cur.size) ∧ Below w.heap.size w w'

set_option maxHeartbeats 6400000 in
set_option maxRecDepth 100000 in
theorem over_none (bb ma mb nb n : Nat) (row col : Int) (L : List Pr) (F : Int → Option Nat) (w : World) (h : BIs w bb ma mb nb n L F) (hr : i64P row) (hF : F (row.tdiv 64) = none) :
    Calls Try.prog 47 #[.pointer (some ⟨bb, 0, none⟩), .agg #[.int .i64 row, .int .i64 col]] w (OverIs w []) := by
  go_enter Try.func47, Try.ntmps47
  go_wp2_with fail
  go_step3
  go_wp2_with fail
  go_step3
  go_upto_region 2 with fail
  have hk : i64P (row.tdiv 64) := i64_quo hr
  have HK := Lib.hid hk
  have wq : IntKind.i64.wrap (row.tdiv 64) = row.tdiv 64 := IntWalk.i64_in _ (by unfold i64P at hk; omega)
  have HF := Lib.hid hF
  clear hk hF hr
  have hB3 := bel_alloc (bel_refl w) (.cells #[.int .i64 row, .int .i64 col] 32)
  have h3 := h.below hB3
  have k3 := Blk.new w rfl 32 #[.int .i64 row, .int .i64 col]
  generalize hwz : w.alloc (.cells #[.int .i64 row, .int .i64 col] 32) = w3 at hB3 h3 k3 ⊢
  clear hwz
  obtain ⟨S, hSS⟩ : ∃ S : World → Prop, S = fun w' => BIs w' bb ma mb nb n L F ∧ Blk w' w.heap.size 32 #[.int .i64 row, .int .i64 col] := ⟨_, rfl⟩
  have q0 := fun x => (held_of hSS x).1.top.rd
  have q1 := fun x => (held_of hSS x).2.rd
  have q2 : ∀ x : Held S, (Instr.lookup 94 (.map (some mb)) (.int .i64 (row.tdiv 64)) false).run Try.prog x.w = .ok (.map none) x.w := fun x => by
    rw [(held_of hSS x).1.bg.look HK.out, HF.out]
  have HSS := Lib.hid hSS
  have hS0 := held_in HSS.out ⟨h3.below (bel_drew (bel_refl w3)), k3.drew⟩
  haveI : Nonempty (Held S) := ⟨⟨_, hS0⟩⟩
  clear hSS
  refine wp_region_tree (S := S) 9 (.q 0 <| .q 1 <| .q 2 <| .q 3 <| .q 4 <| .q 5 <| .q 6 <| .q 7 <| .a 8 <| .done) [] (by kernel_rfl) (by kernel_rfl) hS0 ?_
  repeat (refine tree_q (by rfl) (by rfl) (fun K hK => ?_); go_simp; refine hK _ ?_; clear hK K)
  refine tree_a (by rfl) (by rfl) (fun K hK => ?_)
  have hrg := run_range_nilMap (P := Try.prog) w3.drew 93 91 79 Try.underlying93
  go_simp
  refine hK _ _ (held_in HSS.out ⟨(h3.below (bel_drew (bel_refl w3))).below (bel_alloc (bel_refl _) _), k3.drew.alloc _⟩) ?_
  clear hK K hrg
  refine tree_nil ?_
  have hnx : ∀ ty, (Instr.next (.pointer (some ⟨w3.heap.size, 0, none⟩)) false ty).run Try.prog (w3.alloc (.mapIter none 0 #[] 0)).drew = .ok (.tuple #[.bool false]) (w3.alloc (.mapIter none 0 #[] 0)).drew := fun ty => run_next_nilMap w3.drew ty 0 0 #[]
  have hB5 := bel_drew (bel_alloc hB3 (.mapIter none 0 #[] 0))
  generalize (w3.alloc (.mapIter none 0 #[] 0)).drew = w5 at hnx hB5 ⊢
  go_wp2_with fail
  refine wp_loop_rounds 1 ?_
  rw [rounds_succ]
  go_wp2_with fail
  refine (sort_cells (OL.nil w5 w.heap.size) (by simp) (by simp)).mono ?_
  rintro e w6 ⟨rfl, M, hO6, hlen, hsM, hM, hg6⟩
  obtain rfl : M = [] := List.length_eq_zero_iff.1 hlen
  have hB6 := bel_grown hB5 hg6 (fun z hz => by cases hz)
  go_wp2_with fail
  refine (clipc_any none 0 0 w6 (Nat.le_refl _)).mono ?_
  rintro e w7 ⟨rfl, rfl⟩
  go_wp2_with fail
  try rw [Exit.noGoto_ret]
  go_ret
  exact ⟨none, rfl, ol_lies hO6, .inl rfl, hB6⟩
end Go.Proofs.Ytdionganlmnlkaa
namespace Go.Proofs.Ytdionganlmnlkaa
open Go.ChangeShapes Go.WideShapes Go.ChangeAt Go.RowKit Go.Deep
attribute [local go_sem] Cls

set_option maxHeartbeats 6400000 in
set_option maxRecDepth 100000 in
theorem over_some (bb ma mb nb n g : Nat) (row col : Int) (L : List Pr) (Cs : List Cl) (F : Int → Option Nat) (w : World) (h : BIs w bb ma mb nb n L F) (hr : i64P row) (hF : F (row.tdiv 64) = some g) (hs : SrtC Cs) (hm : ∀ x, x ∈ Cs ↔ ∃ p, p ∈ L ∧ reach (row.tdiv 64) p = true ∧ inB p.t p.l p.b p.r row col = true ∧ x = ⟨p.row, p.col⟩) (hn : (n + 1) * 56 ≤ 140737488355328) :
    Calls Try.prog 47 #[.pointer (some ⟨bb, 0, none⟩), .agg #[.int .i64 row, .int .i64 col]] w (OverIs w Cs) := by
  go_enter Try.func47, Try.ntmps47
  go_wp2_with fail
  go_step3
  go_wp2_with fail
  go_step3
  go_upto_region 2 with fail
  have hk : i64P (row.tdiv 64) := i64_quo hr
  have HK := Lib.hid hk
  have wq : IntKind.i64.wrap (row.tdiv 64) = row.tdiv 64 := IntWalk.i64_in _ (by unfold i64P at hk; omega)
  have HF := Lib.hid hF
  clear hk hF hr
  have hB3 := bel_alloc (bel_refl w) (.cells #[.int .i64 row, .int .i64 col] 32)
  have h3 := h.below hB3
  have k3 := Blk.new w rfl 32 #[.int .i64 row, .int .i64 col]
  generalize hwz : w.alloc (.cells #[.int .i64 row, .int .i64 col] 32) = w3 at hB3 h3 k3 ⊢
  clear hwz
  obtain ⟨S, hSS⟩ : ∃ S : World → Prop, S = fun w' => BIs w' bb ma mb nb n L F ∧ Blk w' w.heap.size 32 #[.int .i64 row, .int .i64 col] := ⟨_, rfl⟩
  have q0 := fun x => (held_of hSS x).1.top.rd
  have q1 := fun x => (held_of hSS x).2.rd
  have q2 : ∀ x : Held S, (Instr.lookup 94 (.map (some mb)) (.int .i64 (row.tdiv 64)) false).run Try.prog x.w = .ok (.map (some g)) x.w := fun x => by
    rw [(held_of hSS x).1.bg.look HK.out, HF.out]
  have HSS := Lib.hid hSS
  have hS0 := held_in HSS.out ⟨h3.below (bel_drew (bel_refl w3)), k3.drew⟩
  haveI : Nonempty (Held S) := ⟨⟨_, hS0⟩⟩
  clear hSS
  refine wp_region_tree (S := S) 9 (.q 0 <| .q 1 <| .q 2 <| .q 3 <| .q 4 <| .q 5 <| .q 6 <| .q 7 <| .a 8 <| .done) [] (by kernel_rfl) (by kernel_rfl) hS0 ?_
  repeat (refine tree_q (by rfl) (by rfl) (fun K hK => ?_); go_simp; refine hK _ ?_; clear hK K)
  refine tree_a (by rfl) (by rfl) (fun K hK => ?_)
  obtain ⟨D, hown, hk1, hk2⟩ := (h3.below (bel_drew (bel_refl w3))).bg.grp _ g HF.out
  have hsz := hown.size_le
  obtain ⟨w5, hrun, hrg0, hg0, hs0⟩ := hown.range law_pair Try.underlying93
  have hb5 := below_of_grown' hg0
  have h5 := (h3.below (bel_drew (bel_refl w3))).below hb5
  have k5 := k3.drew.below hb5
  go_simp
  refine hK _ _ (held_in HSS.out ⟨h5, k5⟩) ?_
  clear hK K hrun
  refine tree_nil ?_
  have HK1 := Lib.hid hk1
  have HK2 := Lib.hid hk2
  clear hk1 hk2
  have hB0 : Below w.heap.size w w5 := bel_grown (bel_drew hB3) hg0 (fun z hz => by cases hz)
  have hri : w.heap.size < w3.heap.size := k3.lt
  have hszr : w5.heap.size = w3.heap.size + 1 := hs0
  have hrg0 : w5.ranges Try.prog 91 unitElem g w3.heap.size n D (Maps.has D) (Maps.size D) := hrg0
  generalize w3.heap.size = ri at hri hszr hrg0 ⊢
  clear hs0 hg0 hb5 hown hS0 this HSS q0 q1 q2 h5 h3 k3 hB3
  go_wp2_with fail
  go_loopg [5] (Maps.size D) (fun gk s5 wr => ∃ (out : List Cl) (left : Lit → Bool) (cnt : Nat), cnt ≤ gk ∧ wr.ranges Try.prog 91 unitElem g ri n D left cnt ∧ OL KC wr (ri + 1) s5 out ∧ out.Nodup ∧ out.length + cnt ≤ n ∧ Hid (∀ x, x ∈ out → x ∈ Cs) ∧
      Hid (∀ p l, keyOf Try.prog 91 (pairV p) = some l → p ∈ L → reach (row.tdiv 64) p = true → inB p.t p.l p.b p.r row col = true → left l = false → (⟨p.row, p.col⟩ : Cl) ∈ out) ∧ Hid (∀ l, left l = true → Maps.has D l = true) ∧ Blk wr w.heap.size 32 #[.int .i64 row, .int .i64 col] ∧ Below w.heap.size w wr)
  case atStart =>
    refine ⟨[], _, _, Nat.le_refl _, hrg0, OL.nil _ _, List.nodup_nil, by simpa using hsz, Lib.hid (fun p hp => by simp at hp), Lib.hid (fun p l hl h1 h2 _ h4 => ?_), Lib.hid (fun l hl => hl), k5, hB0⟩
    have := (HK1.out p l hl).2 (List.mem_filter.2 ⟨h1, h2⟩)
    rw [h4] at this
    cases this
  case round =>
    obtain ⟨out, left, cnt, hcg, hrg, hO, hnd, hcl, HIN, HLF, HSUB, hk, hW⟩ := hrel
    clear hrg0 hB0 k5 hszr
    have rdk := hk.rd
    go_upto_region 5 with (at_next; refine wp_pair_next rfl _ rfl g ri n D left cnt HK2.out HSUB.out rfl hrg (fun hc0 hl0 => ?_) (fun p kl w1 cnt1 hkp hlk hrg1 hlt1 hg1 hsz1 hen => ?_))
    · clear hrg rdk
      obtain ⟨A, c, rfl, hcle, hcm, _, hA⟩ := hO.see
      have HL0 := Lib.hid hl0
      clear hl0 hc0
      refine (sort_cells hO hnd (by omega)).mono ?_
      rintro e w6 ⟨rfl, M, hO5, hlen, hsM, hM, hg5⟩
      obtain rfl : M = Cs := srtC_ext hsM hs (fun x => by
        rw [hM x]
        refine ⟨fun hx => HIN.out x hx, fun hx => ?_⟩
        obtain ⟨p, hpL, hpr, hpi, rfl⟩ := (hm x).1 hx
        obtain ⟨kl, hkl⟩ := key_pair p (okP_rng (h.may p hpL)).2
        exact HLF.out p kl hkl hpL hpr hpi (HL0.out kl))
      have hB5 := bel_grown hW hg5 (fun z hz => by have := (hO.lt z hz).1; omega)
      have HLEN := Lib.hid hlen
      clear hlen
      go_wp2_with fail
      refine (clipc_any A out.length c w6 hcle).mono ?_
      rintro e w7 ⟨rfl, rfl⟩
      go_wp2_with fail
      try rw [Exit.noGoto_ret]
      go_ret
      refine ⟨A, by rw [HLEN.out]; rfl, ol_lies hO5, ?_, hB5⟩
      rcases hA with rfl | ⟨g', rfl, hg1, hg2⟩
      · exact .inl rfl
      · obtain ⟨cur, b1, b2, b3, b4⟩ := ol_blk hO5
        exact .inr ⟨g', cur, rfl, by omega, b1, by have := HLEN.out; rw [b2]; show _ ≤ c * 2; omega⟩
    · obtain ⟨hpL, hpr⟩ := List.mem_filter.1 ((HK1.out p kl hkp).1 (HSUB.out kl hlk))
      have hB1 := bel_grown hW hg1 (fun z hz => by injection hz with hz; omega)
      have hO1 := hO.grown hg1 (fun g' hg' e => ol_ne_iter hO hrg g' hg' (by injection e with e; exact e.symm))
      have hk1 := hk.grown hg1 (by omega)
      have hHLF : ∀ (q : Pr) (l : Lit), keyOf Try.prog 91 (pairV q) = some l → q ∈ L → reach (row.tdiv 64) q = true → inB q.t q.l q.b q.r row col = true → (left l && !l.sameKey kl) = false → (⟨q.row, q.col⟩ : Cl) ∈ out ∨ q = p := fun q l hl h1 h2 h3 h4 => by
        cases hll : left l with
        | false => exact .inl (HLF.out q l hl h1 h2 h3 hll)
        | true =>
          rw [hll, Bool.true_and, Bool.not_eq_false'] at h4
          have := WideAt.sameKey_eq h4
          subst this
          exact .inr (pairV_inj q p (law_pair.inj hl hkp))
      have hHSUB : ∀ l, (left l && !l.sameKey kl) = true → Maps.has D l = true := fun l hl => HSUB.out l (by rw [Bool.and_eq_true] at hl; exact hl.1)
      have HLF' := Lib.hid hHLF
      have HSUB' := Lib.hid hHSUB
      have HPL := Lib.hid (And.intro hpL hpr)
      clear hHLF hHSUB hen hrg hW hg1 hO HLF HSUB rdk hk hlk hpL hpr
      rw [← hsz1]
      have k4 := Blk.new w1 (g := w1.heap.size) rfl 91 #[.int .i64 p.t, .int .i64 p.l, .int .i64 p.b, .int .i64 p.r, .int .i64 p.row, .int .i64 p.col]
      have hO2 := hO1.alloc (.cells #[.int .i64 p.t, .int .i64 p.l, .int .i64 p.b, .int .i64 p.r, .int .i64 p.row, .int .i64 p.col] 91)
      have hB2 := bel_alloc hB1 (.cells #[.int .i64 p.t, .int .i64 p.l, .int .i64 p.b, .int .i64 p.r, .int .i64 p.row, .int .i64 p.col] 91)
      have hrg2 := hrg1.alloc (.cells #[.int .i64 p.t, .int .i64 p.l, .int .i64 p.b, .int .i64 p.r, .int .i64 p.row, .int .i64 p.col] 91)
      have hk2 := hk1.alloc (.cells #[.int .i64 p.t, .int .i64 p.l, .int .i64 p.b, .int .i64 p.r, .int .i64 p.row, .int .i64 p.col] 91)
      have hlt4 := k4.lt
      generalize hwz : w1.alloc (.cells #[.int .i64 p.t, .int .i64 p.l, .int .i64 p.b, .int .i64 p.r, .int .i64 p.row, .int .i64 p.col] 91) = w2 at k4 hO2 hB2 hrg2 hk2 hlt4 ⊢
      generalize w1.heap.size = gp at k4 hlt4 ⊢
      clear hwz hrg1 hO1 hB1 hk1 hsz1
      have rd4 := k4.rd
      have rd2 := hk2.rd
      go_wp2_with fail
      refine (pin_any p.t p.l p.b p.r row col w2).mono ?_
      rintro e w4 ⟨rfl, hb4⟩
      have hrg4 := hrg2.kept (grown_of_below hb4 none) (by simp) (by simp)
      have hO4 := hO2.below hb4
      have hk4 := hk2.below hb4
      have hp4 := k4.below hb4
      have hB4 := bel_call hB2 hb4
      clear hrg2 hO2 hk2 k4 hb4 rd4 rd2 hlt4 hB2
      cases hib : inB p.t p.l p.b p.r row col with
      | false =>
        have HIB := Lib.hid hib
        clear hib
        go_wp2_with fail
        go_roundg cnt1
        case measure => omega
        case rel =>
          refine ⟨out, _, cnt1, Nat.le_refl _, hrg4, hO4, hnd, by omega, HIN, Lib.hid (fun q l hl h1 h2 h3 h4 => ?_), HSUB', hk4, hB4⟩
          rcases HLF'.out q l hl h1 h2 h3 h4 with h5 | h5
          · exact h5
          · rw [h5, HIB.out] at h3
            cases h3
      | true =>
        have hpC : (⟨p.row, p.col⟩ : Cl) ∈ Cs := (hm _).2 ⟨p, HPL.out.1, HPL.out.2, hib, rfl⟩
        have HPC := Lib.hid hpC
        clear hib hpC
        have rd4 := hp4.rd
        obtain ⟨A, c, rfl, hcle, hcm, hLi, hA⟩ := hO4.see
        go_wp2_with fail
        go_loopg [29] out.length (fun g2 s29 wy => ∃ j : Nat, j + g2 = out.length ∧ s29 = .int .i64 j ∧ Hid (∀ x, x ∈ out.take j → x ≠ (⟨p.row, p.col⟩ : Cl)) ∧ Below w4.heap.size w4 wy)
        case atStart => exact ⟨0, by omega, rfl, Lib.hid (fun x hx => by simp at hx), bel_refl w4⟩
        case round =>
          obtain ⟨j, hj, rfl, HJ, hby⟩ := hrel
          have hpy := hp4.below hby
          have hOy := hO4.below hby
          have hLy := hLi.below hby
          have rdp := hpy.rd
          have ltp := hpy.lt
          clear rd4
          by_cases hjl : j < out.length
          · obtain ⟨x, hx⟩ : ∃ x, out[j]? = some x := ⟨_, List.getElem?_eq_getElem hjl⟩
            obtain ⟨gx, off, hAe, hgx, c0, c1⟩ := cl_at hLy hx
            subst hAe
            have i0 : (0 : Int) ≤ (j : Int) := by omega
            have i1 : (j : Int) < (out.length : Int) := by omega
            have hE := fun W => eql_cell W x.row x.col p.row p.col
            obtain ⟨q, hq⟩ : ∃ q, q = decide ((⟨x.row, x.col⟩ : Cl) = ⟨p.row, p.col⟩) := ⟨_, rfl⟩
            rw [← hq] at hE
            have HQ := Lib.hid hq
            have HX := Lib.hid hx
            have hb6 := bel_alloc hby (.cells #[.int .i64 x.row, .int .i64 x.col] 32)
            clear hq hx
            cases q with
            | true =>
              have hin : (⟨p.row, p.col⟩ : Cl) ∈ out := by
                have e : x = (⟨p.row, p.col⟩ : Cl) := of_decide_eq_true HQ.out.symm
                rw [← e]
                exact List.mem_of_getElem? HX.out
              have HIN2 := Lib.hid hin
              clear hin
              go_wp2_with fail
              go_roundg cnt1
              case measure => omega
              case rel =>
                refine ⟨out, _, cnt1, Nat.le_refl _, hrg4.kept (grown_of_below hb6 none) (by simp) (by simp), hO4.below hb6, hnd, by omega, HIN, Lib.hid (fun q l hl h1 h2 h3 h4 => ?_), HSUB', hk4.below hb6, bel_call hB4 hb6⟩
                rcases HLF'.out q l hl h1 h2 h3 h4 with h5 | h5
                · exact h5
                · rw [h5]; exact HIN2.out
            | false =>
              have hne : ∀ y, y ∈ out.take (j + 1) → y ≠ (⟨p.row, p.col⟩ : Cl) := fun y hy => by
                rw [List.take_add_one, List.mem_append, HX.out] at hy
                rcases hy with h1 | h1
                · exact HJ.out y h1
                · have h2 : y = x := by simpa using h1
                  rw [h2]
                  exact of_decide_eq_false HQ.out.symm
              have HNE := Lib.hid hne
              clear hne
              go_wp2_with fail
              go_roundg (out.length - (j + 1))
              case measure => omega
              case rel => exact ⟨j + 1, by omega, by go_num, HNE, hb6⟩
          · obtain rfl : j = out.length := by omega
            have hno : (⟨p.row, p.col⟩ : Cl) ∉ out := fun h9 => HJ.out _ (by rw [List.take_length]; exact h9) rfl
            have hnd' : (out ++ [(⟨p.row, p.col⟩ : Cl)]).Nodup := by
              rw [List.nodup_append]
              exact ⟨hnd, by simp, fun a ha b hb => by rw [List.mem_singleton.1 hb]; rintro rfl; exact hno ha⟩
            have hlen' : (out ++ [(⟨p.row, p.col⟩ : Cl)]).length + cnt1 ≤ n := by rw [List.length_append, List.length_singleton]; omega
            have HIN' : Hid (∀ x, x ∈ out ++ [(⟨p.row, p.col⟩ : Cl)] → x ∈ Cs) := Lib.hid (fun x hx => by
              rcases List.mem_append.1 hx with h1 | h1
              · exact HIN.out x h1
              · rw [List.mem_singleton.1 h1]; exact HPC.out)
            clear hno
            have hB6 := bel_alloc (bel_call hB4 hby) (.cells #[.int .i64 p.row, .int .i64 p.col] 32)
            have hO6 := hOy.alloc (.cells #[.int .i64 p.row, .int .i64 p.col] 32)
            have hrg6 := (hrg4.kept (grown_of_below hby none) (by simp) (by simp)).alloc (.cells #[.int .i64 p.row, .int .i64 p.col] 32)
            have hk6 := (hk4.below hby).alloc (.cells #[.int .i64 p.row, .int .i64 p.col] 32)
            have hlies : Lies KC (wr.alloc (.cells #[.int .i64 p.row, .int .i64 p.col] 32)) (some ⟨wr.heap.size, 0, none⟩) [(⟨p.row, p.col⟩ : Cl)] := Lies.blk (Blk.new wr rfl 32 #[.int .i64 p.row, .int .i64 p.col]) rfl
            have hb1 : out.length + [(⟨p.row, p.col⟩ : Cl)].length ≤ maxLen := by show out.length + 1 ≤ _; unfold maxLen; omega
            have hb2 : (out.length + [(⟨p.row, p.col⟩ : Cl)].length) * KC.bytes ≤ 140737488355328 := by show (out.length + 1) * 16 ≤ _; omega
            have hb3 : ri + 1 ≤ (wr.alloc (.cells #[.int .i64 p.row, .int .i64 p.col] 32)).heap.size := hrg6.lt
            go_wp2_with (at_builtin; (refine wp_ol_append info_kc rfl Try.underlying41 rfl _ _ rfl rfl hO6 (M := [(⟨p.row, p.col⟩ : Cl)]) (c := 1) rfl rfl hlies hb1 hb2 hb3 ?_); intro v7 w7 hO7 hg7)
            have hB7 := bel_grown hB6 hg7 (fun z hz => by have := (hO6.lt z hz).1; omega)
            have hrg7 := hrg6.kept hg7 (fun e => ol_ne_map' hO6 hrg6.owns _ e.symm rfl) (fun e => ol_ne_iter hO6 hrg6 _ e.symm rfl)
            have hk7 := hk6.grownX hg7 (fun e => by have := (hO6.lt _ e.symm).1; omega)
            go_roundg cnt1
            case measure => omega
            case rel =>
              refine ⟨out ++ [(⟨p.row, p.col⟩ : Cl)], _, cnt1, Nat.le_refl _, hrg7, hO7, hnd', hlen', HIN', Lib.hid (fun q l hl h1 h2 h3 h4 => ?_), HSUB', hk7, hB7⟩
              rcases HLF'.out q l hl h1 h2 h3 h4 with h5 | h5
              · exact List.mem_append_left _ h5
              · rw [h5]; exact List.mem_append_right _ (by simp)
end Go.Proofs.Ytdionganlmnlkaa
namespace Go.Proofs.Ytdionganlmnlkaa

/-- One step of the document's Over. -/
def ovS (row col : Int) (out : List Cl) (p : Pr) : List Cl := if inB p.t p.l p.b p.r row col = true ∧ out.getLast? ≠ some ⟨p.row, p.col⟩ then out ++ [⟨p.row, p.col⟩] else out
def ovs (row col : Int) (L : List Pr) : List Cl := L.foldl (ovS row col) []
theorem ovS_spec (row col : Int) (out : List Cl) (p : Pr) (h1 : SrtC out) (h2 : ∀ x, x ∈ out → x = (⟨p.row, p.col⟩ : Cl) ∨ ltC x ⟨p.row, p.col⟩) :
    SrtC (ovS row col out p) ∧ ∀ x, x ∈ ovS row col out p ↔ x ∈ out ∨ inB p.t p.l p.b p.r row col = true ∧ x = (⟨p.row, p.col⟩ : Cl) := by
  unfold ovS
  by_cases hi : inB p.t p.l p.b p.r row col = true
  case neg => rw [if_neg (fun h => hi h.1)]; exact ⟨h1, fun x => ⟨.inl, fun h => h.elim id (fun h => absurd h.1 hi)⟩⟩
  by_cases hl : out.getLast? = some ⟨p.row, p.col⟩
  · rw [if_neg (fun h => h.2 hl)]
    exact ⟨h1, fun x => ⟨.inl, fun h => h.elim id (fun h => by rw [h.2]; exact List.mem_of_getLast? hl)⟩⟩
  · rw [if_pos ⟨hi, hl⟩]
    refine ⟨?_, fun x => ?_⟩
    · rw [SrtC, List.pairwise_append]
      refine ⟨h1, by simp, fun x hx y hy => ?_⟩
      rw [List.mem_singleton.1 hy]
      rcases h2 x hx with e | e
      · exfalso
        subst e
        cases hz : out.getLast? with
        | none => rw [List.getLast?_eq_none_iff.1 hz] at hx; cases hx
        | some z =>
          obtain ⟨ys, hys⟩ := List.getLast?_eq_some_iff.1 hz
          have hzm : z ∈ out := List.mem_of_getLast? hz
          have hne : z ≠ (⟨p.row, p.col⟩ : Cl) := fun e => hl (by rw [hz, e])
          rcases h2 z hzm with e | e
          · exact hne e
          · rw [hys, List.mem_append] at hx
            rcases hx with hx | hx
            · rw [hys, SrtC, List.pairwise_append] at h1
              exact ltC_irrefl _ (ltC_trans e (h1.2.2 _ hx z (by simp)))
            · exact hne (List.mem_singleton.1 hx).symm
      · exact e
    · rw [List.mem_append, List.mem_singleton]
      exact ⟨fun h => h.elim .inl (fun h => .inr ⟨hi, h⟩), fun h => h.elim .inl (fun h => .inr h.2)⟩
theorem cell_le {p q : Pr} (h : ltP p q) : (⟨p.row, p.col⟩ : Cl) = ⟨q.row, q.col⟩ ∨ ltC ⟨p.row, p.col⟩ ⟨q.row, q.col⟩ := by
  unfold ltP at h
  simp only [ltC, Cl.mk.injEq]
  omega
theorem ovs_from (row col : Int) : ∀ (L : List Pr) (out : List Cl), SrtP L → SrtC out → (∀ x, x ∈ out → ∀ p, p ∈ L → x = (⟨p.row, p.col⟩ : Cl) ∨ ltC x ⟨p.row, p.col⟩) →
    SrtC (L.foldl (ovS row col) out) ∧ ∀ x, x ∈ L.foldl (ovS row col) out ↔ x ∈ out ∨ ∃ p, p ∈ L ∧ inB p.t p.l p.b p.r row col = true ∧ x = (⟨p.row, p.col⟩ : Cl)
  | [], out, _, h2, _ => ⟨h2, fun x => ⟨.inl, fun h => h.elim id (fun ⟨p, hp, _⟩ => by cases hp)⟩⟩
  | p :: L, out, h1, h2, h3 => by
    rw [SrtP, List.pairwise_cons] at h1
    obtain ⟨s1, s2⟩ := ovS_spec row col out p h2 (fun x hx => h3 x hx p (by simp))
    obtain ⟨r1, r2⟩ := ovs_from row col L (ovS row col out p) h1.2 s1 (fun x hx q hq => by
      rcases (s2 x).1 hx with h | ⟨_, rfl⟩
      · exact h3 x h q (by simp [hq])
      · exact cell_le (h1.1 q hq))
    refine ⟨r1, fun x => ?_⟩
    rw [List.foldl_cons, r2 x, s2 x]
    constructor
    · rintro ((h | h) | ⟨q, hq, h⟩)
      · exact .inl h
      · exact .inr ⟨p, by simp, h⟩
      · exact .inr ⟨q, by simp [hq], h⟩
    · rintro (h | ⟨q, hq, h⟩)
      · exact .inl (.inl h)
      · rcases List.mem_cons.1 hq with rfl | hq
        · exact .inl (.inr h)
        · exact .inr ⟨q, hq, h⟩
/-- The document's answer holds the cells of those that cover the cell, sorted, each once. -/
theorem ovs_spec (row col : Int) {L : List Pr} (h : SrtP L) : SrtC (ovs row col L) ∧ ∀ x, x ∈ ovs row col L ↔ ∃ p, p ∈ L ∧ inB p.t p.l p.b p.r row col = true ∧ x = (⟨p.row, p.col⟩ : Cl) := by
  obtain ⟨h1, h2⟩ := ovs_from row col L [] h List.Pairwise.nil (fun x hx => by cases hx)
  exact ⟨h1, fun x => (h2 x).trans (by simp)⟩
end Go.Proofs.Ytdionganlmnlkaa
namespace Go.Proofs.Ytdionganlmnlkaa

theorem in_reach {p : Pr} {row col : Int} (ho : okP p) (h : inB p.t p.l p.b p.r row col = true) : reach (row.tdiv 64) p = true := by
  obtain ⟨⟨h1, h2, h3⟩, _⟩ := okP_rng ho
  obtain ⟨h4, h5, _, _⟩ := inB_true h
  unfold reach
  rw [Int.tdiv_eq_ediv_of_nonneg (by omega), Int.tdiv_eq_ediv_of_nonneg (by omega), Int.tdiv_eq_ediv_of_nonneg (by omega)]
  exact decide_eq_true (by omega)
theorem over_any (bb ma mb nb n : Nat) (row col : Int) (L Ls : List Pr) (F : Int → Option Nat) (w : World) (h : BIs w bb ma mb nb n L F) (hr : i64P row) (hs : SrtP Ls) (hm : ∀ x, x ∈ Ls ↔ x ∈ L) (hn : (n + 1) * 56 ≤ 140737488355328) :
    Calls Try.prog 47 #[.pointer (some ⟨bb, 0, none⟩), .agg #[.int .i64 row, .int .i64 col]] w (OverIs w (ovs row col Ls)) := by
  obtain ⟨s1, s2⟩ := ovs_spec row col hs
  cases hF : F (row.tdiv 64) with
  | none =>
    have hnil := h.bg.non _ hF
    have he : ovs row col Ls = [] := by
      rw [List.eq_nil_iff_forall_not_mem]
      intro x hx
      obtain ⟨p, hp, hi, _⟩ := (s2 x).1 hx
      have hpL := (hm p).1 hp
      have := List.mem_filter.2 ⟨hpL, in_reach (h.may p hpL) hi⟩
      rw [hnil] at this
      cases this
    rw [he]
    exact over_none bb ma mb nb n row col L F w h hr hF
  | some g =>
    refine over_some bb ma mb nb n g row col L (ovs row col Ls) F w h hr hF s1 (fun x => ?_) hn
    rw [s2 x]
    constructor
    · rintro ⟨p, hp, hi, e⟩
      have hpL := (hm p).1 hp
      exact ⟨p, hpL, in_reach (h.may p hpL) hi, hi, e⟩
    · rintro ⟨p, hp, _, hi, e⟩
      exact ⟨p, (hm p).2 hp, hi, e⟩
end Go.Proofs.Ytdionganlmnlkaa
namespace Go.Proofs.Ytdionganlmnlkaa
open Go.ChangeShapes Go.WideShapes Go.ChangeAt Go.RowKit Go.Deep
open Go.Maps (Keyed)

theorem pick_le {α β γ : Type} [DecidableEq β] (f : β → Option γ) (g : α → γ) : ∀ (es : List α) (L : List β), es.Pairwise (fun p q => g p ≠ g q) → (∀ p, p ∈ es → ∃ x, x ∈ L ∧ f x = some (g p)) → es.length ≤ L.length
  | [], L, _, _ => Nat.zero_le _
  | p :: es, L, hp, h => by
    rw [List.pairwise_cons] at hp
    obtain ⟨x, hx, hfx⟩ := h p (by simp)
    have := pick_le f g es (L.erase x) hp.2 (fun q hq => by
      obtain ⟨y, hy, hfy⟩ := h q (by simp [hq])
      refine ⟨y, ?_, hfy⟩
      have hne : y ≠ x := fun e => hp.1 q hq (by rw [e, hfx] at hfy; exact Option.some.inj hfy)
      exact (List.mem_erase_of_ne hne).2 hy)
    rw [List.length_erase_of_mem hx] at this
    have h0 : 0 < L.length := List.length_pos_of_mem hx
    rw [List.length_cons]
    omega
section
variable {α : Type} {P : Program} {k : TypeId} {V : α → Value} {Rg : α → Prop} {w w' : World} {b n : Nat} {L : List α}
theorem MSet.tight [DecidableEq α] (h : MSet P k V Rg w b n L) (K : Keyed P k) : MSet P k V Rg w b L.length L := by
  obtain ⟨D, hown, h1, h2⟩ := h
  refine ⟨D, ?_, h1, h2⟩
  have hle : Maps.size D ≤ L.length := by
    obtain ⟨es, rfl, hpw, hkey⟩ := hown.entries K
    rw [Maps.size_eq]
    refine pick_le (fun x => keyOf P k (V x)) (fun p => p.1) es L hpw (fun p hp => ?_)
    have hs : Maps.has (.map es : DataW Unit) p.1 = true := by
      rw [Maps.has_eq, List.any_eq_true]
      exact ⟨p, hp, WideAt.sameKey_self (hkey p hp)⟩
    obtain ⟨x, _, hx⟩ := h2 _ hs
    exact ⟨x, (h1 x _ hx).1 hs, hx⟩
  obtain ⟨es, clock, hb, F, hs, rfl⟩ := hown
  exact ⟨es, clock, hb, F, by simpa [Maps.size, length_sorted] using hle, rfl⟩
theorem MSet.frm (h : MSet P k V Rg w b n L) {S : Nat → Prop} (hF : Frm S w w') (hn : ¬ S b) : MSet P k V Rg w' b n L := by
  obtain ⟨D, hown, h1, h2⟩ := h
  have hlt := hown.lt
  obtain ⟨es, clock, hb, F, hs, hD⟩ := hown
  exact ⟨D, ⟨es, clock, (hF.block b hlt hn).trans hb, F, hs, hD⟩, h1, h2⟩
end
section
variable {w w' : World} {bb ma mb nb n : Nat} {L : List Pr} {F : Int → Option Nat}
theorem BIs.tight (h : BIs w bb ma mb nb n L F) : BIs w bb ma mb nb L.length L F :=
  ⟨h.top, h.all.tight law_pair, ⟨h.bg.band, fun k g hk => ((h.bg.grp k g hk).tight law_pair).mono (List.length_filter_le _ _), h.bg.non, h.bg.inj, h.bg.ne⟩, h.ne, h.nel, h.may⟩
theorem BIs.frm (h : BIs w bb ma mb nb n L F) {S : Nat → Prop} (hF : Frm S w w') (hn : ∀ z, ownB bb ma mb F z → ¬ S z) : BIs w' bb ma mb nb n L F := by
  obtain ⟨D, hown, hat⟩ := h.bg.band
  have hlt := hown.lt
  obtain ⟨es, clock, hb, F', hs, hD⟩ := hown
  exact ⟨hF.blk h.top (hn _ (.inl rfl)), h.all.frm hF (hn _ (.inr (.inl rfl))),
    ⟨⟨D, ⟨es, clock, (hF.block mb hlt (hn _ (.inr (.inr (.inl rfl))))).trans hb, F', hs, hD⟩, hat⟩, fun k g hk => (h.bg.grp k g hk).frm hF (hn _ (.inr (.inr (.inr ⟨k, hk⟩)))), h.bg.non, h.bg.inj, h.bg.ne⟩, h.ne, h.nel, h.may⟩
theorem BIs.lt (h : BIs w bb ma mb nb n L F) {z : Nat} (hz : ownB bb ma mb F z) : z < w.heap.size := by
  rcases hz with rfl | rfl | rfl | ⟨k, hk⟩
  · exact h.top.lt
  · exact h.all.lt
  · exact h.bg.ltm
  · exact h.bg.ltg hk
end

instance (p : Pr) : Decidable (okP p) := by unfold okP; infer_instance
/-- Is it added? And what is there then. -/
def addB (p : Pr) (L : List Pr) : Bool := decide (okP p ∧ p ∉ L)
def addP (p : Pr) (L : List Pr) : List Pr := if okP p ∧ p ∉ L then insP p L else L
theorem insP_len (p : Pr) (L : List Pr) : (insP p L).length = L.length + 1 := by
  have := cbP_le p L
  unfold insP
  simp
  omega
theorem srt_addP {p : Pr} {L : List Pr} (h : SrtP L) : SrtP (addP p L) := by
  unfold addP
  split
  · rename_i h1; exact srt_insP h h1.2
  · exact h
theorem mem_addP (p x : Pr) (L : List Pr) : x ∈ addP p L ↔ x ∈ L ∨ okP p ∧ x = p := by
  unfold addP
  split
  · rename_i h1
    rw [mem_insP]
    exact ⟨fun h => h.elim (fun e => .inr ⟨h1.1, e⟩) .inl, fun h => h.elim .inr (fun h => .inl h.2)⟩
  · rename_i h1
    refine ⟨.inl, fun h => h.elim id (fun h => ?_)⟩
    rw [h.2]
    exact Classical.byContradiction (fun hn => h1 ⟨h.1, hn⟩)
theorem addP_len (p : Pr) (L : List Pr) : (addP p L).length ≤ L.length + 1 := by
  unfold addP
  split
  · rw [insP_len]; omega
  · omega

/-- The program's bands, told by the sorted list: their blocks are O's, at most N were added. -/
def PB (w : World) (bb N : Nat) (O : Nat → Prop) (Ls : List Pr) : Prop :=
  ∃ ma mb nb L F, BIs w bb ma mb nb L.length L F ∧ (∀ z, O z ↔ ownB bb ma mb F z) ∧ nb ≤ 65 * N ∧ L.length ≤ N ∧ SrtP Ls ∧ (∀ x, x ∈ Ls ↔ x ∈ L)
section
variable {w w' : World} {bb N : Nat} {O : Nat → Prop} {Ls : List Pr}
theorem PB.lt (h : PB w bb N O Ls) : ∀ z, O z → z < w.heap.size := by
  obtain ⟨ma, mb, nb, L, F, h, hO, _⟩ := h
  exact fun z hz => h.lt ((hO z).1 hz)
theorem PB.frm (h : PB w bb N O Ls) {S : Nat → Prop} (hF : Frm S w w') (hn : ∀ z, O z → ¬ S z) : PB w' bb N O Ls := by
  obtain ⟨ma, mb, nb, L, F, h, hO, h1⟩ := h
  exact ⟨ma, mb, nb, L, F, h.frm hF (fun z hz => hn z ((hO z).2 hz)), hO, h1⟩
theorem PB.below (h : PB w bb N O Ls) (hb : Below w.heap.size w w') : PB w' bb N O Ls := h.frm (Frm.of_below (S := fun _ => False) hb) (fun _ _ h => h)
theorem PB.alloc (h : PB w bb N O Ls) (o : Obj) : PB (w.alloc o) bb N O Ls := h.below (bel_alloc (bel_refl w) o)
theorem PB.drew (h : PB w bb N O Ls) : PB w.drew bb N O Ls := h.below (bel_drew (bel_refl w))
theorem PB.srt (h : PB w bb N O Ls) : SrtP Ls := by
  obtain ⟨ma, mb, nb, L, F, h, hO, _, _, h1, _⟩ := h
  exact h1
theorem PB.may (h : PB w bb N O Ls) : ∀ x, x ∈ Ls → okP x := by
  obtain ⟨ma, mb, nb, L, F, h, hO, _, _, _, h1⟩ := h
  exact fun x hx => h.may x ((h1 x).1 hx)
theorem PB.mono (h : PB w bb N O Ls) {N' : Nat} (hN : N ≤ N') : PB w bb N' O Ls := by
  obtain ⟨ma, mb, nb, L, F, h, hO, h1, h2, h3⟩ := h
  exact ⟨ma, mb, nb, L, F, h, hO, by omega, by omega, h3⟩
theorem PB.top (h : PB w bb N O Ls) : O bb := by
  obtain ⟨ma, mb, nb, L, F, h, hO, h1, h2, h3⟩ := h
  exact (hO bb).2 (.inl rfl)
end
theorem pb_new (w : World) : Calls Try.prog 38 #[] w fun e w' => ∃ bb O, e = .returned (.pointer (some ⟨bb, 0, none⟩)) ∧ PB w' bb 0 O [] ∧ (∀ z, O z → w.heap.size ≤ z) ∧ Below w.heap.size w w' := by
  refine (new_any w).mono ?_
  rintro e w' ⟨bb, ma, mb, rfl, h, ⟨h1, h2, h3⟩, hb⟩
  refine ⟨bb, ownB bb ma mb (fun _ => none), rfl, ⟨ma, mb, 0, [], _, h, fun z => Iff.rfl, by omega, Nat.le_refl _, List.Pairwise.nil, fun x => Iff.rfl⟩, fun z hz => ?_, hb⟩
  rcases hz with rfl | rfl | rfl | ⟨k, hk⟩
  · exact h1
  · exact h2
  · exact h3
  · cases hk
/-- What Add leaves. -/
def PbAdd (w : World) (bb N : Nat) (O : Nat → Prop) (Ls : List Pr) (p : Pr) (e : Ending) (w' : World) : Prop :=
  ∃ O', e = .returned (.bool (addB p Ls)) ∧ PB w' bb (N + 1) O' (addP p Ls) ∧ Frm O w w' ∧ ∀ z, O' z → O z ∨ w.heap.size ≤ z
theorem pb_add (bb N : Nat) (O : Nat → Prop) (Ls : List Pr) (t l b r row col : Int) (w : World) (h : PB w bb N O Ls) (hr : rngP ⟨row, col, t, l, b, r⟩) (hN : N * 56 ≤ 140737488355328) :
    Calls Try.prog 26 #[.pointer (some ⟨bb, 0, none⟩), .agg #[.int .i64 t, .int .i64 l, .int .i64 b, .int .i64 r], .agg #[.int .i64 row, .int .i64 col]] w (PbAdd w bb N O Ls ⟨row, col, t, l, b, r⟩) := by
  obtain ⟨ma, mb, nb, L, F, h, hO, h1, h2, h3, h4⟩ := h
  by_cases hc : okP ⟨row, col, t, l, b, r⟩ ∧ (⟨row, col, t, l, b, r⟩ : Pr) ∉ Ls
  · refine (add_yes bb ma mb nb L.length L F t l b r row col w h hc.1 (fun hm => hc.2 ((h4 _).2 hm)) (by unfold maxLen; omega) (by unfold maxLen; omega)).mono ?_
    rintro e w' ⟨F', rfl, h', hF, hn⟩
    refine ⟨ownB bb ma mb F', by rw [addB, decide_eq_true hc], ⟨ma, mb, nb + 65, _, F', h'.tight, fun z => Iff.rfl, by omega, by simp; omega, srt_addP h3, fun x => ?_⟩, ?_, fun z hz => ?_⟩
    · rw [mem_addP, h4 x, List.mem_cons]
      exact ⟨fun h => h.elim .inr (fun h => .inl h.2), fun h => h.elim (fun e => .inr ⟨hc.1, e⟩) .inl⟩
    · exact ⟨hF.os, hF.tape, hF.output, hF.size, fun k hk hn => hF.block k hk (fun hz => hn ((hO k).2 hz))⟩
    · rcases hz with rfl | rfl | rfl | ⟨k, hk⟩
      · exact .inl ((hO _).2 (.inl rfl))
      · exact .inl ((hO _).2 (.inr (.inl rfl)))
      · exact .inl ((hO _).2 (.inr (.inr (.inl rfl))))
      · rcases hn k z hk with h | h
        · exact .inl ((hO _).2 (.inr (.inr (.inr ⟨k, h⟩))))
        · exact .inr h
  · refine (add_no bb ma mb nb L.length L F t l b r row col w h hr ?_).mono ?_
    · by_cases ho : okP ⟨row, col, t, l, b, r⟩
      · exact .inl (Classical.byContradiction (fun hm => hc ⟨ho, fun hm' => hm ((h4 _).1 hm')⟩))
      · exact .inr ho
    · rintro e w' ⟨rfl, hb⟩
      refine ⟨O, by rw [addB, decide_eq_false hc], ⟨ma, mb, nb, L, F, h.below hb, hO, by omega, by omega, srt_addP h3, fun x => ?_⟩, Frm.of_below hb, fun z hz => .inl hz⟩
      rw [addP, if_neg hc]
      exact h4 x
def PbRem (w : World) (bb N : Nat) (O : Nat → Prop) (Ls : List Pr) (p : Pr) (e : Ending) (w' : World) : Prop :=
  ∃ O', e = .returned (.bool (decide (p ∈ Ls))) ∧ PB w' bb N O' (Ls.erase p) ∧ Frm O w w' ∧ ∀ z, O' z → O z
theorem srt_nodup : ∀ {L : List Pr}, SrtP L → L.Nodup
  | [], _ => List.nodup_nil
  | x :: L, h => by
    rw [SrtP, List.pairwise_cons] at h
    exact List.nodup_cons.2 ⟨fun hx => ltP_irrefl x (h.1 x hx), srt_nodup h.2⟩
theorem mem_erase_srt {p x : Pr} {L : List Pr} (h : SrtP L) : x ∈ L.erase p ↔ x ∈ L ∧ x ≠ p := by
  rw [(srt_nodup h).mem_erase_iff]
  exact And.comm
theorem pb_rem (bb N : Nat) (O : Nat → Prop) (Ls : List Pr) (t l b r row col : Int) (w : World) (h : PB w bb N O Ls) (hr : rngP ⟨row, col, t, l, b, r⟩) :
    Calls Try.prog 23 #[.pointer (some ⟨bb, 0, none⟩), .agg #[.int .i64 t, .int .i64 l, .int .i64 b, .int .i64 r], .agg #[.int .i64 row, .int .i64 col]] w (PbRem w bb N O Ls ⟨row, col, t, l, b, r⟩) := by
  obtain ⟨ma, mb, nb, L, F, h, hO, h1, h2, h3, h4⟩ := h
  by_cases hc : (⟨row, col, t, l, b, r⟩ : Pr) ∈ Ls
  · refine (rem_yes bb ma mb nb L.length L F t l b r row col w h ((h4 _).1 hc)).mono ?_
    rintro e w' ⟨F', rfl, h', hF, hn⟩
    refine ⟨ownB bb ma mb F', by rw [decide_eq_true hc], ⟨ma, mb, nb, _, F', h'.tight, fun z => Iff.rfl, by omega, Nat.le_trans (List.length_filter_le _ _) h2, srt_erase h3, fun x => ?_⟩, ?_, fun z hz => ?_⟩
    · rw [mem_erase_srt h3, h4 x, List.mem_filter, decide_eq_true_iff]
    · exact ⟨hF.os, hF.tape, hF.output, hF.size, fun k hk hn => hF.block k hk (fun hz => hn ((hO k).2 hz))⟩
    · rcases hz with rfl | rfl | rfl | ⟨k, hk⟩
      · exact (hO _).2 (.inl rfl)
      · exact (hO _).2 (.inr (.inl rfl))
      · exact (hO _).2 (.inr (.inr (.inl rfl)))
      · exact (hO _).2 (.inr (.inr (.inr ⟨k, hn k z hk⟩)))
  · refine (rem_no bb ma mb nb L.length L F t l b r row col w h hr (fun hm => hc ((h4 _).2 hm))).mono ?_
    rintro e w' ⟨rfl, hb⟩
    refine ⟨O, by rw [decide_eq_false hc], ⟨ma, mb, nb, L, F, h.below hb, hO, h1, h2, srt_erase h3, fun x => ?_⟩, Frm.of_below hb, fun z hz => hz⟩
    rw [List.erase_of_not_mem hc]
    exact h4 x
theorem pb_over (bb N : Nat) (O : Nat → Prop) (Ls : List Pr) (row col : Int) (w : World) (h : PB w bb N O Ls) (hr : i64P row) (hN : (N + 1) * 56 ≤ 140737488355328) :
    Calls Try.prog 47 #[.pointer (some ⟨bb, 0, none⟩), .agg #[.int .i64 row, .int .i64 col]] w (OverIs w (ovs row col Ls)) := by
  obtain ⟨ma, mb, nb, L, F, h, hO, h1, h2, h3, h4⟩ := h
  exact over_any bb ma mb nb L.length row col L Ls F w h hr h3 h4 (by omega)
end Go.Proofs.Ytdionganlmnlkaa

/-
  Marks: memory; New, State, Clean, Peak. Conditions: those of each theorem.
-/
import Derived.Test.YtdionganlmnlkaaDState
import Derived.Test.YtdionganlmnlkaaRS
namespace Go.Proofs.Ytdionganlmnlkaa
open Go.ChangeShapes Go.WideShapes Go.ChangeAt Go.RowKit Go.Deep
attribute [local go_sem] Cls

/-- A store at a key that is there: no entry more. -/
theorem MFun.put_keep {α : Type} {P : Program} {k : TypeId} {V : α → Value} {Rg : α → Prop} {w : World} {b n : Nat} {f : α → Option Value} [DecidableEq α] (h : MFun P k V Rg w b n f) (K : Maps.Keyed P k) {t e : TypeId} (ht : P.underlying t = some (.map k e)) (hV : ∀ x y, V x = V y → x = y) (hn : n < maxLen) (y : α) (hr : Rg y) (u : Value) {l : Lit} (hl : keyOf P k (V y) = some l) (hf : (f y).isSome = true) :
    ∃ w', (Instr.mapUpdate t (.map (some b)) (V y) u).run P w = .ok () w' ∧ MFun P k V Rg w' b n (fun x => if x = y then some u else f x) ∧ w.grownBy w' (some b) := by
  obtain ⟨D, hown, h1, h2⟩ := h
  have hD : Maps.has D l = true := by rw [MFun.has h1 hl]; exact hf
  obtain ⟨w', hrun, ho, hg⟩ := hown.update K ht hn hl (val := u) (d := .held u) (ps := []) rfl
  have ho2 : w'.ownsMap P k heldE b n (D.put l (.held u)) := by
    obtain ⟨es, clock, hb, F, _, hDe⟩ := ho
    refine ⟨es, clock, hb, F, ?_, hDe⟩
    have e1 : es.size = Maps.size (D.put l (.held u)) := by rw [hDe]; simp [Maps.size, length_sorted]
    rw [e1, Maps.size_put (hown.tidy K), if_pos hD]
    exact hown.size_le
  refine ⟨w', hrun, ⟨_, ho2, fun x l' hl' z => ?_, fun l' hl' => ?_⟩, hg⟩
  · by_cases e' : l' = l
    · subst e'
      have : x = y := hV _ _ (K.inj hl' hl)
      subst this
      rw [Maps.atKey_put_same hown.isMap (K.key hl)]
      dsimp only
      rw [if_pos rfl]
      rfl
    · have : x ≠ y := by
        rintro rfl
        rw [hl] at hl'
        injection hl' with hl'
        exact e' hl'.symm
      rw [Maps.atKey_put_other e']
      dsimp only
      rw [if_neg this]
      exact h1 x l' hl' z
  · by_cases e' : l' = l
    · subst e'
      exact ⟨y, hr, hl⟩
    · rw [Maps.has_put_other e'] at hl'
      exact h2 l' hl'
def sv (f : Cl → Option Int) : Cl → Option Value := fun c => (f c).map fun s => .int .i64 s
/-- The memory of Marks: states f, over the references that lie at db. -/
structure MM (w : World) (mb sm db n : Nat) (pk : Int) (f : Cl → Option Int) : Prop where
  top : Blk w mb 83 #[.pointer (some ⟨db, 0, none⟩), .map (some sm), .int .i64 pk]
  sts : CFun w sm n (sv f)
section
variable {w w' : World} {mb sm db n : Nat} {pk : Int} {f : Cl → Option Int}
theorem MM.frm (h : MM w mb sm db n pk f) {S : Nat → Prop} (hF : Frm S w w') (h1 : ¬ S mb) (h2 : ¬ S sm) : MM w' mb sm db n pk f := ⟨hF.blk h.top h1, h.sts.frm hF h2⟩
theorem MM.below (h : MM w mb sm db n pk f) (hb : Below w.heap.size w w') : MM w' mb sm db n pk f := h.frm (Frm.of_below (S := fun _ => False) hb) id id
theorem MM.ne (h : MM w mb sm db n pk f) : mb ≠ sm := (mp_fun h.sts).ne h.top
theorem MM.mono (h : MM w mb sm db n pk f) {n' : Nat} (hn : n ≤ n') : MM w' mb sm db n' pk f ∨ MM w mb sm db n' pk f := .inr ⟨h.top, h.sts.mono hn⟩
theorem MM.up (h : MM w mb sm db n pk f) {n' : Nat} (hn : n ≤ n') : MM w mb sm db n' pk f := ⟨h.top, h.sts.mono hn⟩
theorem zero_i (w : World) : (zeroValue 3).run Try.prog w = .ok (.int .i64 0) w := by kernel_rfl
theorem MM.look_ok (h : MM w mb sm db n pk f) (row col : Int) (hrc : rngC ⟨row, col⟩) : (Instr.lookup 81 (.map (some sm)) (.agg #[.int .i64 row, .int .i64 col]) true).run Try.prog w = .ok (.tuple #[.int .i64 ((f ⟨row, col⟩).getD 0), .bool (f ⟨row, col⟩).isSome]) w := by
  obtain ⟨kl, hkl⟩ := key_cell ⟨row, col⟩ hrc
  have := h.sts.look_ok law_cell Try.underlying81 zero_i ⟨row, col⟩ hkl
  rw [show (Value.agg #[.int .i64 row, .int .i64 col]) = cellV ⟨row, col⟩ from rfl, this]
  unfold sv
  cases f ⟨row, col⟩ <;> rfl
theorem MM.look (h : MM w mb sm db n pk f) (row col : Int) (hrc : rngC ⟨row, col⟩) : (Instr.lookup 81 (.map (some sm)) (.agg #[.int .i64 row, .int .i64 col]) false).run Try.prog w = .ok (.int .i64 ((f ⟨row, col⟩).getD 0)) w := by
  obtain ⟨kl, hkl⟩ := key_cell ⟨row, col⟩ hrc
  have := h.sts.look_run law_cell Try.underlying81 zero_i ⟨row, col⟩ hkl
  rw [show (Value.agg #[.int .i64 row, .int .i64 col]) = cellV ⟨row, col⟩ from rfl, this]
  unfold sv
  cases f ⟨row, col⟩ <;> rfl
/-- A cell's state is set. -/
def upS (f : Cl → Option Int) (c : Cl) (s : Option Int) : Cl → Option Int := fun x => if x = c then s else f x
theorem MM.put (h : MM w mb sm db n pk f) (row col : Int) (hrc : rngC ⟨row, col⟩) (s : Int) (hn : n < 4611686018427387904) : ∃ w', (Instr.mapUpdate 81 (.map (some sm)) (.agg #[.int .i64 row, .int .i64 col]) (.int .i64 s)).run Try.prog w = .ok () w' ∧ MM w' mb sm db (n + 1) pk (upS f ⟨row, col⟩ (some s)) ∧ w.grownBy w' (some sm) := by
  obtain ⟨kl, hkl⟩ := key_cell ⟨row, col⟩ hrc
  obtain ⟨w', h1, h2, h3⟩ := h.sts.put_run law_cell Try.underlying81 cellV_inj (by unfold maxLen; omega) ⟨row, col⟩ hrc (.int .i64 s) hkl
  refine ⟨w', h1, ⟨h.top.grown h3 h.ne, ?_⟩, h3⟩
  have e : sv (upS f ⟨row, col⟩ (some s)) = fun x => if x = (⟨row, col⟩ : Cl) then some (Value.int .i64 s) else sv f x := by
    funext x
    unfold sv upS
    split <;> rfl
  rw [e]
  exact h2
theorem MM.put_at (h : MM w mb sm db n pk f) (row col : Int) (hrc : rngC ⟨row, col⟩) (s : Int) (hn : n < 4611686018427387904) (hf : (f ⟨row, col⟩).isSome = true) : ∃ w', (Instr.mapUpdate 81 (.map (some sm)) (.agg #[.int .i64 row, .int .i64 col]) (.int .i64 s)).run Try.prog w = .ok () w' ∧ MM w' mb sm db n pk (upS f ⟨row, col⟩ (some s)) ∧ w.grownBy w' (some sm) := by
  obtain ⟨kl, hkl⟩ := key_cell ⟨row, col⟩ hrc
  obtain ⟨w', h1, h2, h3⟩ := h.sts.put_keep law_cell Try.underlying81 cellV_inj (by unfold maxLen; omega) ⟨row, col⟩ hrc (.int .i64 s) hkl (by show (sv f _).isSome = true; unfold sv; rw [Option.isSome_map]; exact hf)
  refine ⟨w', h1, ⟨h.top.grown h3 h.ne, ?_⟩, h3⟩
  have e : sv (upS f ⟨row, col⟩ (some s)) = fun x => if x = (⟨row, col⟩ : Cl) then some (Value.int .i64 s) else sv f x := by
    funext x
    unfold sv upS
    split <;> rfl
  rw [e]
  exact h2
theorem MM.del (h : MM w mb sm db n pk f) (row col : Int) (hrc : rngC ⟨row, col⟩) (ty : TypeId) : ∃ w', (Builtin.delete_ #[81, 32] ty #[.map (some sm), .agg #[.int .i64 row, .int .i64 col]]).run Try.prog w = .ok (.tuple #[]) w' ∧ MM w' mb sm db n pk (upS f ⟨row, col⟩ none) ∧ w.grownBy w' (some sm) := by
  obtain ⟨kl, hkl⟩ := key_cell ⟨row, col⟩ hrc
  obtain ⟨w', h1, h2, h3⟩ := h.sts.del_run law_cell Try.underlying81 cellV_inj ⟨row, col⟩ hkl ty
  refine ⟨w', h1, ⟨h.top.grown h3 h.ne, ?_⟩, h3⟩
  have e : sv (upS f ⟨row, col⟩ none) = fun x => if x = (⟨row, col⟩ : Cl) then none else sv f x := by
    funext x
    unfold sv upS
    split <;> rfl
  rw [e]
  exact h2
end
theorem mnew_any (db : Nat) (w : World) : Calls Try.prog 20 #[.pointer (some ⟨db, 0, none⟩)] w fun e w' => ∃ mb sm, e = .returned (.pointer (some ⟨mb, 0, none⟩)) ∧ MM w' mb sm db 0 0 (fun _ => none) ∧ w.heap.size ≤ mb ∧ w.heap.size ≤ sm ∧ Below w.heap.size w w' := by
  have hmk := fun w => run_makeMap (P := Try.prog) 81 w
  go_enter Try.func20, Try.ntmps20
  go_wp2_with fail
  go_ret
  refine ⟨w.heap.size + 1, w.heap.size, by simp, ⟨Blk.new (w.alloc (.map #[] 0)) (g := w.heap.size + 1) (by simp) 83 #[.pointer (some ⟨db, 0, none⟩), .map (some w.heap.size), .int .i64 0], ?_⟩, by omega, Nat.le_refl _, bel_alloc (bel_alloc (bel_refl w) _) _⟩
  exact (MFun.made Try.prog 32 cellV rngC w).below (bel_alloc (bel_refl _) _)
theorem mnil_any (w : World) : Calls Try.prog 20 #[.pointer none] w fun e w' => e = .returned (.pointer none) ∧ Below w.heap.size w w' := by
  go_enter Try.func20, Try.ntmps20
  go_wp2_with fail
  go_ret
  exact ⟨rfl, bel_refl w⟩
theorem mpeak_any {mb sm db n : Nat} {pk : Int} {f : Cl → Option Int} {w : World} (h : MM w mb sm db n pk f) : Calls Try.prog 16 #[.pointer (some ⟨mb, 0, none⟩)] w fun e w' => e = .returned (.int .i64 pk) ∧ Below w.heap.size w w' := by
  have q0 := h.top.rd
  have l0 := h.top.lt
  go_enter Try.func16, Try.ntmps16
  go_wp2_with fail
  go_ret
  exact ⟨rfl, bel_refl w⟩
set_option maxHeartbeats 1600000 in
set_option maxRecDepth 100000 in
theorem mstate_any {mb sm db n : Nat} {pk : Int} {f : Cl → Option Int} (row col : Int) {w : World} (h : MM w mb sm db n pk f) (hrc : rngC ⟨row, col⟩) : Calls Try.prog 13 #[.pointer (some ⟨mb, 0, none⟩), .agg #[.int .i64 row, .int .i64 col]] w fun e w' => e = .returned (.tuple #[.int .i64 ((f ⟨row, col⟩).getD 0), .bool (f ⟨row, col⟩).isSome]) ∧ Below w.heap.size w w' := by
  go_enter Try.func13, Try.ntmps13
  go_wp2_with fail
  have k0 := Blk.new w rfl 32 #[.int .i64 row, .int .i64 col]
  have hB0 := bel_alloc (bel_refl w) (.cells #[.int .i64 row, .int .i64 col] 32)
  replace h := h.below hB0
  generalize hwz : w.alloc (.cells #[.int .i64 row, .int .i64 col] 32) = w1 at k0 hB0 h ⊢
  generalize w.heap.size = bc at k0 ⊢
  clear hwz
  obtain ⟨S, hSS⟩ : ∃ S : World → Prop, S = fun W => MM W mb sm db n pk f ∧ Blk W bc 32 #[.int .i64 row, .int .i64 col] := ⟨_, rfl⟩
  have q0 := fun x => (held_of hSS x).1.top.rd
  have l0 := fun x => (held_of hSS x).1.top.lt
  have q1 := fun x => (held_of hSS x).2.rd
  have lk := fun x : Held S => (held_of hSS x).1.look_ok row col hrc
  have HSS := Lib.hid hSS
  have HCL : Hid (∀ W', Below w1.heap.size w1 W' → S W') := Lib.hid (fun W' hB => held_in HSS.out ⟨h.below hB, k0.below hB⟩)
  have hS0 : S w1.drew := HCL.out _ (bel_drew (bel_refl w1))
  haveI : Nonempty (Held S) := ⟨⟨_, hS0⟩⟩
  clear hSS
  refine wp_region_tree (S := S) 11 (.q 0 <| .q 1 <| .q 2 <| .q 3 <| .q 4 <| .q 5 <| .q 6 <| .q 7 <| .q 8 <| .q 9 <| .q 10 <| .done) [] (by kernel_rfl) (by kernel_rfl) hS0 ?_
  repeat (refine tree_q (by rfl) (by rfl) (fun K hK => ?_); go_simp; refine hK _ ?_; clear hK K)
  refine tree_nil ?_
  clear q0 l0 q1 lk hS0 HSS HCL
  go_wp2_with fail
  exact bodyPost_ret (v := .tuple #[.int .i64 ((f ⟨row, col⟩).getD 0), .bool (f ⟨row, col⟩).isSome]) (by simp [results, Try.results13, go_sem]) rfl ⟨rfl, bel_drew hB0⟩
/-- What Clean leaves. -/
def clnS (f : Cl → Option Int) (c : Cl) : Cl → Option Int := if (f c).isSome then upS f c (some 0) else f
set_option maxHeartbeats 1600000 in
set_option maxRecDepth 100000 in
theorem mclean_any {mb sm db n : Nat} {pk : Int} {f : Cl → Option Int} (row col : Int) {w : World} (h : MM w mb sm db n pk f) (hrc : rngC ⟨row, col⟩) (hn : n < 4611686018427387904) : Calls Try.prog 29 #[.pointer (some ⟨mb, 0, none⟩), .agg #[.int .i64 row, .int .i64 col]] w fun e w' => e = .returned (.tuple #[]) ∧ MM w' mb sm db n pk (clnS f ⟨row, col⟩) ∧ Frm (fun z => z = sm) w w' := by
  go_enter Try.func29, Try.ntmps29
  go_wp2_with fail
  have k0 := Blk.new w rfl 32 #[.int .i64 row, .int .i64 col]
  have hB0 := bel_alloc (bel_refl w) (.cells #[.int .i64 row, .int .i64 col] 32)
  replace h := h.below hB0
  have hF0 : Frm (fun z => z = sm) w (w.alloc (.cells #[.int .i64 row, .int .i64 col] 32)) := Frm.of_below hB0
  generalize hwz : w.alloc (.cells #[.int .i64 row, .int .i64 col] 32) = w1 at k0 hB0 hF0 h ⊢
  generalize w.heap.size = bc at k0 ⊢
  clear hwz
  obtain ⟨u, hu⟩ : ∃ u, u = f ⟨row, col⟩ := ⟨_, rfl⟩
  obtain ⟨S, hSS⟩ : ∃ S : World → Prop, S = fun W => MM W mb sm db n pk f ∧ Blk W bc 32 #[.int .i64 row, .int .i64 col] := ⟨_, rfl⟩
  have q0 := fun x => (held_of hSS x).1.top.rd
  have l0 := fun x => (held_of hSS x).1.top.lt
  have q1 := fun x => (held_of hSS x).2.rd
  have lk := fun x : Held S => (held_of hSS x).1.look_ok row col hrc
  have HSS := Lib.hid hSS
  have HCL : Hid (∀ W', Below w1.heap.size w1 W' → S W') := Lib.hid (fun W' hB => held_in HSS.out ⟨h.below hB, k0.below hB⟩)
  have hS0 : S w1.drew := HCL.out _ (bel_drew (bel_refl w1))
  haveI : Nonempty (Held S) := ⟨⟨_, hS0⟩⟩
  clear hSS
  refine wp_region_tree (S := S) 11 (.q 0 <| .q 1 <| .q 2 <| .q 3 <| .q 4 <| .q 5 <| .q 6 <| .q 7 <| .q 8 <| .q 9 <| .q 10 <| .done) [] (by kernel_rfl) (by kernel_rfl) hS0 ?_
  repeat (refine tree_q (by rfl) (by rfl) (fun K hK => ?_); go_simp; refine hK _ ?_; clear hK K)
  refine tree_nil ?_
  clear q0 l0 q1 lk hS0 HSS HCL
  rw [← hu]
  have HU := Lib.hid hu
  clear hu
  replace h := h.below (bel_drew (bel_refl w1))
  replace k0 := k0.drew
  replace hF0 := hF0.drew
  generalize hwy : w1.drew = w2 at h k0 hF0 ⊢
  clear hwy
  cases u with
  | none =>
    go_wp2_with fail
    try simp only [Exit.inBlock, Exit.then]
    exact ⟨rfl, .tuple #[], by simp [results, Try.results29, go_sem], rfl, by rw [show clnS f ⟨row, col⟩ = f from by unfold clnS; rw [← HU.out]; rfl]; exact h, hF0⟩
  | some s =>
    replace h := h.below (bel_drew (bel_refl _))
    obtain ⟨w5, hrun, h5, hg5⟩ := h.put_at row col hrc 0 hn (by rw [← HU.out]; rfl)
    have q0 := h.top.rd
    have l0 := h.top.lt
    have q1 := k0.drew.rd
    have hF5 := hF0.drew.grown hg5 (fun g e => .inl (by injection e with e; exact e.symm))
    go_wp2_with fail
    go_still_tail 5, (by kernel_rfl)
    go_wp2_with fail
    try simp only [Exit.inBlock, Exit.then]
    exact ⟨rfl, .tuple #[], by simp [results, Try.results29, go_sem], rfl, by rw [show clnS f ⟨row, col⟩ = upS f ⟨row, col⟩ (some 0) from by unfold clnS; rw [← HU.out]; rfl]; exact h5, hF5⟩
end Go.Proofs.Ytdionganlmnlkaa

/-
  Marks: the closure push of Touch. Conditions: those of each theorem.
-/
import Derived.Test.YtdionganlmnlkaaMMem
import Derived.Test.YtdionganlmnlkaaOlF
namespace Go.Proofs.Ytdionganlmnlkaa
open Go.ChangeShapes Go.WideShapes Go.ChangeAt Go.RowKit Go.Deep
attribute [local go_sem] Cls

theorem frm_one {w w' : World} {y : Nat} (h : w.grownBy w' (some y)) : Frm (fun z => z = y) w w' := ⟨h.os, h.tape, h.output, h.size, fun k hk hn => h.block k hk (by simpa using hn)⟩
theorem Frm.wide {S S' : Nat → Prop} {w w' : World} (h : Frm S w w') (hS : ∀ z, S z → S' z) : Frm S' w w' := ⟨h.os, h.tape, h.output, h.size, fun k hk hn => h.block k hk (fun hz => hn (hS k hz))⟩
theorem Blk.same {w : World} {g : Nat} {t u : TypeId} {cs ds : Array Value} (h : Blk w g t cs) (k : Blk w g u ds) : t = u := by
  have h1 : w.heap[g]? = some (.cells cs t (0, 0)) := h
  have h2 : w.heap[g]? = some (.cells ds u (0, 0)) := k
  rw [h2] at h1
  injection h1 with h1
  injection h1 with _ h1 _
  exact h1.symm
/-- What push leaves. -/
def PushIs (w : World) (mb sm db n bm bs B : Nat) (pk : Int) (f : Cl → Option Int) (v : Value) (stk : List Cl) (c : Cl) (s : Int) (e : Ending) (w' : World) : Prop :=
  e = .returned (.tuple #[]) ∧ ∃ v', MM w' mb sm db (n + 1) (max pk ((stk.length : Int) + 1)) (upS f c (some s)) ∧ Blk w' bm 26 #[.pointer (some ⟨mb, 0, none⟩)] ∧ Blk w' bs 41 #[v'] ∧ OL KC w' B v' (stk ++ [c]) ∧ (∀ g, v'.ownBlock = some g → v.ownBlock = some g ∨ w.heap.size ≤ g) ∧ Frm (fun z => z = mb ∨ z = sm ∨ z = bs ∨ v.ownBlock = some z) w w'
set_option maxHeartbeats 3200000 in
set_option maxRecDepth 100000 in
theorem push_any {mb sm db n bm bs B : Nat} {pk : Int} {f : Cl → Option Int} {v : Value} {stk : List Cl} (row col s : Int) {w : World} (h : MM w mb sm db n pk f) (km : Blk w bm 26 #[.pointer (some ⟨mb, 0, none⟩)]) (ks : Blk w bs 41 #[v]) (hO : OL KC w B v stk) (hB : B ≤ w.heap.size) (hrc : rngC ⟨row, col⟩) (hn : n < 4611686018427387904) (hl : (stk.length + 1) * 16 ≤ 140737488355328) :
    Calls Try.prog 32 #[.agg #[.int .i64 row, .int .i64 col], .int .i64 s, .pointer (some ⟨bm, 0, none⟩), .pointer (some ⟨bs, 0, none⟩)] w (PushIs w mb sm db n bm bs B pk f v stk ⟨row, col⟩ s) := by
  have hmt : mb ≠ bs := fun e => absurd (Blk.same h.top (e ▸ ks)) (of_decide_eq_false (by kernel_rfl))
  have hmm : bm ≠ mb := fun e => absurd (Blk.same km (e ▸ h.top)) (of_decide_eq_false (by kernel_rfl))
  have hms : bm ≠ bs := fun e => absurd (Blk.same km (e ▸ ks)) (of_decide_eq_false (by kernel_rfl))
  have hvt : ∀ g, v.ownBlock = some g → g ≠ mb ∧ g ≠ bm ∧ g ≠ bs := fun g hg => by
    obtain ⟨cur, hc⟩ := hO.type g hg
    have hc' : Blk w g KC.t cur := hc
    exact ⟨fun e => absurd (Blk.same hc' (e ▸ h.top)) (of_decide_eq_false (by kernel_rfl)), fun e => absurd (Blk.same hc' (e ▸ km)) (of_decide_eq_false (by kernel_rfl)), fun e => absurd (Blk.same hc' (e ▸ ks)) (of_decide_eq_false (by kernel_rfl))⟩
  have hvs : ∀ g, v.ownBlock = some g → g ≠ sm := fun g hg => by
    obtain ⟨cur, hc⟩ := hO.type g hg
    have hc' : Blk w g KC.t cur := hc
    exact (mp_fun h.sts).ne hc'
  have hvl0 : ∀ g, v.ownBlock = some g → g < w.heap.size := fun g hg => (hO.lt g hg).2
  have hsb : bs ≠ sm := (mp_fun h.sts).ne ks
  have hsm : bm ≠ sm := (mp_fun h.sts).ne km
  have hlt := h.top.lt
  have hsl := h.sts.lt
  have hbs := ks.lt
  have hbm := km.lt
  go_enter Try.func32, Try.ntmps32
  go_wp2_with fail
  have k0 := Blk.new w rfl 32 #[.int .i64 row, .int .i64 col]
  have hB0 := bel_alloc (bel_refl w) (.cells #[.int .i64 row, .int .i64 col] 32)
  replace h := h.below hB0
  replace km := km.below hB0
  replace ks := ks.below hB0
  replace hO := hO.below hB0
  have hF : Frm (fun z => z = mb ∨ z = sm ∨ z = bs ∨ v.ownBlock = some z) w (w.alloc (.cells #[.int .i64 row, .int .i64 col] 32)) := Frm.of_below hB0
  have hsz := hB0.size
  generalize hwz : w.alloc (.cells #[.int .i64 row, .int .i64 col] 32) = w1 at k0 h km ks hO hF hsz ⊢
  have hvl : ∀ g, v.ownBlock = some g → g < w.heap.size := hvl0
  have hbg := hbs
  generalize hgcz : w.heap.size = gc at k0 hvl hbg
  have HGC := Lib.hid hgcz
  clear hwz hB0 hgcz
  obtain ⟨w2, hrun, h2, hg2⟩ := (h.below (bel_drew (bel_refl w1))).put row col hrc s hn
  have q0 := h.top.rd
  have l0 := h.top.lt
  have q1 := km.rd
  have l1 := km.lt
  have q2 := k0.rd
  have hgs : gc ≠ sm := (mp_fun h.sts).ne k0
  have km2 := km.drew.grown hg2 hsm
  have ks2 := ks.drew.grown hg2 hsb
  have k02 := k0.drew.grown hg2 hgs
  have hO2 := hO.drew.grown hg2 (fun g hg e => hvs g hg (by injection e with e; exact e.symm))
  have hF2 := hF.drew.grown hg2 (fun g e => .inl (.inr (.inl (by injection e with e; exact e.symm))))
  have hs2 := hg2.size
  have hb2 : B ≤ w2.heap.size := Nat.le_trans hB (Nat.le_trans hsz hs2)
  have kd2 : Blk (w2.alloc (.cells #[.int .i64 row, .int .i64 col] 32)) w2.heap.size 32 #[.int .i64 row, .int .i64 col] := Blk.new w2 rfl 32 #[.int .i64 row, .int .i64 col]
  have hO3 := hO2.alloc (.cells #[.int .i64 row, .int .i64 col] 32)
  have ks3 := ks2.alloc (.cells #[.int .i64 row, .int .i64 col] 32)
  have hlies : Lies KC (w2.alloc (.cells #[.int .i64 row, .int .i64 col] 32)) (some ⟨w2.heap.size, 0, none⟩) [(⟨row, col⟩ : Cl)] := Lies.blk kd2 rfl
  have ha1 : stk.length + 1 ≤ maxLen := by unfold maxLen; omega
  have ha2 : (stk.length + 1) * KC.bytes ≤ 140737488355328 := hl
  have ha3 : B ≤ (w2.alloc (.cells #[.int .i64 row, .int .i64 col] 32)).heap.size := by simp; omega
  have r2 := ks2.rd
  have t2 := ks2.lt
  have r3 := k02.rd
  have hFs := (Frm.refl (fun z => z = bs ∨ v.ownBlock = some z) w2).alloc (.cells #[.int .i64 row, .int .i64 col] 32)
  have hF3 := hF2.alloc (.cells #[.int .i64 row, .int .i64 col] 32)
  have hs3 : w2.heap.size ≤ (w2.alloc (.cells #[.int .i64 row, .int .i64 col] 32)).heap.size := by simp
  have HL7 : Hid ((stk ++ [(⟨row, col⟩ : Cl)]).length = stk.length + 1) := Lib.hid (by simp)
  have HS := Lib.hid (Nat.le_trans hsz (Nat.le_trans hs2 hs3))
  clear hF hF2 hO hO2 ks km k0 h hg2 hs2 hs3 hsz hb2 kd2
  go_still_tail 6, (by kernel_rfl)
  go_wp2_with (at_builtin; (refine wp_ol_append_f info_kc rfl Try.underlying41 rfl _ _ rfl rfl hO3 (x := (⟨row, col⟩ : Cl)) (c := 1) rfl hlies ha1 ha2 ha3 ?_); intro v7 w7 hO7 hg7 hn7; obtain ⟨A7, c7, hv7, hxa, hxb, hxc, hxd⟩ := hO7.see; rw [HL7.out] at hv7; subst hv7; clear hxa hxb hxc hxd; have ks7 := ks3.grownX hg7 (fun e => (hvt bs e.symm).2.2 rfl); have r7 := ks7.rd; have t7 := ks7.lt; have z7 := ks7.fz)
  have hFs8 := (hFs.grown hg7 (fun g e => .inl (.inr e))).set (b := bs) (o := 0) (.inl (.inl rfl)) (.slice A7 (stk.length + 1) c7)
  have hF8 := (hF3.grown hg7 (fun g e => .inl (.inr (.inr (.inr e))))).set (b := bs) (o := 0) (.inl (.inr (.inr (.inl rfl)))) (.slice A7 (stk.length + 1) c7)
  have h8 := h2.frm hFs8 (fun e => e.elim hmt (fun e => (hvt _ e).1 rfl)) (fun e => e.elim (fun e => hsb e.symm) (fun e => hvs _ e rfl))
  have km8 := hFs8.blk km2 (fun e => e.elim hms (fun e => (hvt _ e).2.1 rfl))
  have ks8 : Blk (w7.setCell ⟨bs, 0, none⟩ (.slice A7 (stk.length + 1) c7)) bs 41 #[.slice A7 (stk.length + 1) c7] := ks7.put 0 (.slice A7 (stk.length + 1) c7)
  have hv7s : ∀ g, (Value.slice A7 (stk.length + 1) c7).ownBlock = some g → g ≠ bs ∧ g ≠ mb := fun g hg => by
    obtain ⟨cur, hc⟩ := hO7.type g hg
    have hc' : Blk w7 g KC.t cur := hc
    refine ⟨fun e => absurd (Blk.same hc' (e ▸ ks7)) (of_decide_eq_false (by kernel_rfl)), fun e => ?_⟩
    have h7 := h2.frm (hFs.grown hg7 (fun g e => .inl (.inr e))) (fun e => e.elim hmt (fun e => (hvt _ e).1 rfl)) (fun e => e.elim (fun e => hsb e.symm) (fun e => hvs _ e rfl))
    exact absurd (Blk.same hc' (e ▸ h7.top)) (of_decide_eq_false (by kernel_rfl))
  have hO8 := hO7.set (fun g hg => (hv7s g hg).1) 0 (.slice A7 (stk.length + 1) c7)
  have hn8 : ∀ g, (Value.slice A7 (stk.length + 1) c7).ownBlock = some g → v.ownBlock = some g ∨ w.heap.size ≤ g := fun g hg => (hn7 g hg).imp id (fun h => Nat.le_trans HS.out h)
  generalize hwy : w7.setCell ⟨bs, 0, none⟩ (.slice A7 (stk.length + 1) c7) = w8 at hFs8 hF8 h8 km8 ks8 hO8 ⊢
  clear hwy hO7 hg7 ks7 r7 t7 z7 r2 t2 r3 hFs hF3 hn7 hO3 ks3 hlies k02 km2 ks2 h2 hFs8
  have q0 := h8.top.rd
  have l0 := h8.top.lt
  have z0 := h8.top.fz
  have q1 := km8.rd
  have l1 := km8.lt
  have q2 := ks8.rd
  have l2 := ks8.lt
  go_still_tail 10, (by kernel_rfl)
  go_wp2_with fail
  try simp only [Exit.inBlock, Exit.then]
  have hFm := ((Frm.refl (fun z => z = mb) w8).set (b := mb) (o := 2) (.inl rfl) (.int .i64 (max pk ((stk.length : Int) + 1)))).drew
  have htop : Blk (w8.setCell ⟨mb, 2, none⟩ (.int .i64 (max pk ((stk.length : Int) + 1)))).drew mb 83 #[.pointer (some ⟨db, 0, none⟩), .map (some sm), .int .i64 (max pk ((stk.length : Int) + 1))] := (h8.top.put 2 _).drew
  exact ⟨rfl, .tuple #[], by simp [results, Try.results32, go_sem], rfl, _, ⟨htop, h8.sts.frm hFm (fun e => h8.ne e.symm)⟩, hFm.blk km8 hmm, hFm.blk ks8 (fun e => hmt e.symm), hO8.keep (fun g hg => hFm.block g (hO8.lt g hg).2 (hv7s g hg).2), hn8, (hF8.set (.inl (.inl rfl)) _).drew⟩
end Go.Proofs.Ytdionganlmnlkaa

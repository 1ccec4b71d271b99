/-
  Bands: contract of Remove. Conditions: those of each theorem.
-/
import Derived.Test.YtpgnebhlnkoajaaBAdd2
namespace Go.Proofs.Ytpgnebhlnkoajaa
open Go.ChangeShapes Go.WideShapes Go.ChangeAt Go.RowKit Go.Deep
attribute [local go_sem] Cls

section
variable {w w' : World} {mb nb n : Nat} {F : Int → Option Nat} {G : Int → List Pr}
theorem BG.delp (h : BG w mb nb n F G) {k : Int} {g : Nat} {M : List Pr} (hF : F k = some g) (hw : w.grownBy w' (some g)) (hs : PSet w' g n M) : BG w' mb nb n F (fun q => if q = k then M else G q) := by
  have hm := h.ne k g hF
  obtain ⟨D, hD, hat⟩ := h.band
  refine ⟨⟨D, hD.kept hw (by simpa using hm.symm), hat⟩, fun q g' hq => ?_, fun q hq => ?_, h.inj, h.ne⟩
  · by_cases e : q = k
    · subst e
      rw [hF] at hq
      injection hq with hq
      subst hq
      rw [if_pos rfl]
      exact hs
    · rw [if_neg e]
      refine (h.grp q g' hq).kept hw ?_
      intro he
      injection he with he
      subst he
      exact e (h.inj q k g' hq hF)
  · have e : q ≠ k := by
      rintro rfl
      rw [hF] at hq
      cases hq
    rw [if_neg e]
    exact h.non q hq
theorem BG.drop (h : BG w mb nb n F G) {k : Int} (hk : i64P k) (hG : G k = []) (ty : TypeId) :
    ∃ w', (Builtin.delete_ #[74, 3] ty #[.map (some mb), .int .i64 k]).run Try.prog w = .ok (.tuple #[]) w' ∧ BG w' mb nb n (fun q => if q = k then none else F q) G ∧ w.grownBy w' (some mb) := by
  obtain ⟨D, hD, hat⟩ := h.band
  obtain ⟨w', hrun, ho, ht⟩ := hD.drop law_int Try.underlying74 (key_int hk) ty
  have hw := ht.grown
  refine ⟨w', hrun, ⟨⟨_, ho, fun q => ?_⟩, fun q g' hq => ?_, fun q hq => ?_, fun q q' g' h1 h2 => ?_, fun q g' hq => ?_⟩, hw⟩
  · by_cases e : q = k
    · subst e
      rw [if_pos rfl, Maps.atKey_del_same]
      rfl
    · rw [if_neg e, Maps.atKey_del_other (by intro e'; injection e' with _ e'; exact e e')]
      exact hat q
  · by_cases e : q = k
    · rw [if_pos e] at hq
      cases hq
    · rw [if_neg e] at hq
      exact (h.grp q g' hq).kept hw (by simpa using h.ne q g' hq)
  · by_cases e : q = k
    · rw [e]; exact hG
    · rw [if_neg e] at hq
      exact h.non q hq
  · by_cases e1 : q = k
    · rw [if_pos e1] at h1
      cases h1
    · by_cases e2 : q' = k
      · rw [if_pos e2] at h2
        cases h2
      · rw [if_neg e1] at h1
        rw [if_neg e2] at h2
        exact h.inj q q' g' h1 h2
  · by_cases e : q = k
    · rw [if_pos e] at hq
      cases hq
    · rw [if_neg e] at hq
      exact h.ne q g' hq
/-- len of a band's map. -/
theorem pset_len {g : Nat} {M : List Pr} (h : PSet w g n M) (hM : ∀ p, p ∈ M → rngP p) : ∃ z : Nat, (z = 0 ↔ M = []) ∧ ∀ ty, (Builtin.len_ #[73] ty #[.map (some g)]).run Try.prog w = .ok (.int .i64 z) w := by
  obtain ⟨D, hown, hz⟩ := MSet.size h law_pair (fun x hx => key_pair x (hM x hx))
  exact ⟨Maps.size D, hz, fun ty => hown.len Try.underlying73 ty⟩
theorem cut_at {p : Pr} {L : List Pr} {lo k : Int} (h : lo ≤ k) (q : Int) (x : Pr) : x ∈ (if q = k then (if lo ≤ k ∧ k < k then (L.filter (reach k)).filter (fun x => decide (x ≠ p)) else L.filter (reach k)).filter (fun x => decide (x ≠ p)) else (if lo ≤ q ∧ q < k then (L.filter (reach q)).filter (fun x => decide (x ≠ p)) else L.filter (reach q))) ↔ x ∈ (if lo ≤ q ∧ q < k + 1 then (L.filter (reach q)).filter (fun x => decide (x ≠ p)) else L.filter (reach q)) := by
  by_cases e : q = k
  · subst e
    rw [if_pos rfl, if_neg (by omega), if_pos (by omega)]
  · rw [if_neg e]
    by_cases e2 : lo ≤ q ∧ q < k
    · rw [if_pos e2, if_pos (by omega)]
    · rw [if_neg e2, if_neg (by omega)]
end

def RemIs (w : World) (bb ma mb nb n : Nat) (L : List Pr) (F : Int → Option Nat) (p : Pr) (e : Ending) (w' : World) : Prop :=
  ∃ F', e = .returned (.bool true) ∧ BIs w' bb ma mb nb n (L.filter fun x => decide (x ≠ p)) F' ∧ Frm (ownB bb ma mb F) w w' ∧ ∀ k g, F' k = some g → F k = some g

set_option maxHeartbeats 3200000 in
set_option maxRecDepth 100000 in
theorem rem_no (bb ma mb nb n : Nat) (L : List Pr) (F : Int → Option Nat) (t l b r row col : Int) (w : World) (h : BIs w bb ma mb nb n L F) (hr : rngP ⟨row, col, t, l, b, r⟩) (hno : ⟨row, col, t, l, b, r⟩ ∉ L) :
    Calls Try.prog 26 #[.pointer (some ⟨bb, 0, none⟩), .agg #[.int .i64 t, .int .i64 l, .int .i64 b, .int .i64 r], .agg #[.int .i64 row, .int .i64 col]] w fun e w' => e = .returned (.bool false) ∧ Below w.heap.size w w' := by
  obtain ⟨kl, hkl⟩ := key_pair ⟨row, col, t, l, b, r⟩ hr
  have HKL := Lib.hid hkl
  go_enter Try.func26, Try.ntmps26
  go_wp2_with fail
  have hB3 := bel_alloc (bel_alloc (bel_alloc (bel_refl w) (.cells #[.int .i64 t, .int .i64 l, .int .i64 b, .int .i64 r] 47)) (.cells #[.int .i64 row, .int .i64 col] 33)) (.cells #[.int .i64 t, .int .i64 l, .int .i64 b, .int .i64 r, .int .i64 row, .int .i64 col] 79)
  have h3 := h.below hB3
  have k4 := ((Blk.new w rfl 47 #[.int .i64 t, .int .i64 l, .int .i64 b, .int .i64 r]).alloc (.cells #[.int .i64 row, .int .i64 col] 33)).alloc (.cells #[.int .i64 t, .int .i64 l, .int .i64 b, .int .i64 r, .int .i64 row, .int .i64 col] 79)
  have k7 := Blk.new ((w.alloc (.cells #[.int .i64 t, .int .i64 l, .int .i64 b, .int .i64 r] 47)).alloc (.cells #[.int .i64 row, .int .i64 col] 33)) (g := w.heap.size + 1 + 1) (by simp) 79 #[.int .i64 t, .int .i64 l, .int .i64 b, .int .i64 r, .int .i64 row, .int .i64 col]
  generalize hwz : ((w.alloc (.cells #[.int .i64 t, .int .i64 l, .int .i64 b, .int .i64 r] 47)).alloc (.cells #[.int .i64 row, .int .i64 col] 33)).alloc (.cells #[.int .i64 t, .int .i64 l, .int .i64 b, .int .i64 r, .int .i64 row, .int .i64 col] 79) = w3 at hB3 h3 k4 k7 ⊢
  clear hwz
  obtain ⟨S, hSS⟩ : ∃ S : World → Prop, S = fun w' => BIs w' bb ma mb nb n L F ∧ Blk w' (w.heap.size + 1 + 1) 79 #[.int .i64 t, .int .i64 l, .int .i64 b, .int .i64 r, .int .i64 row, .int .i64 col] := ⟨_, rfl⟩
  have q0 := fun x => (held_of hSS x).1.top.rd
  have q1 := fun x => (held_of hSS x).2.rd
  have q2 : ∀ x : Held S, (Instr.lookup 73 (.map (some ma)) (.agg #[.int .i64 t, .int .i64 l, .int .i64 b, .int .i64 r, .int .i64 row, .int .i64 col]) true).run Try.prog x.w = .ok (.tuple #[.agg #[], .bool false]) x.w := fun x => by
    have := (held_of hSS x).1.all.look_run law_pair Try.underlying73 zero_unit ⟨row, col, t, l, b, r⟩ HKL.out
    rw [decide_eq_false hno] at this
    exact this
  have HSS := Lib.hid hSS
  have hS0 := held_in HSS.out ⟨h3.below (bel_drew (bel_refl w3)), k7.drew⟩
  haveI : Nonempty (Held S) := ⟨⟨_, hS0⟩⟩
  clear hSS
  refine wp_region_tree (S := S) 12 (.q 0 <| .q 1 <| .q 2 <| .q 3 <| .q 4 <| .q 5 <| .q 6 <| .q 7 <| .q 8 <| .a 9 <| .a 10 <| .q 11 <| .done) [] (by kernel_rfl) (by kernel_rfl) hS0 ?_
  repeat (refine tree_q (by rfl) (by rfl) (fun K hK => ?_); go_simp; refine hK _ ?_; clear hK K)
  refine tree_a (by rfl) (by rfl) (fun K hK => ?_)
  go_simp
  refine hK _ _ (held_in HSS.out ⟨h3.below (bel_drew (bel_alloc (bel_refl w3) (.cells #[] 66))), (k7.alloc (.cells #[] 66)).drew⟩) ?_
  clear hK K
  refine tree_a (by rfl) (by rfl) (fun K hK => ?_)
  go_simp
  refine hK _ _ (held_in HSS.out ⟨h3.below (bel_drew (bel_alloc (bel_refl w3) (.cells #[] 66))), (k7.alloc (.cells #[] 66)).drew⟩) ?_
  clear hK K
  repeat (refine tree_q (by rfl) (by rfl) (fun K hK => ?_); go_simp; refine hK _ ?_; clear hK K)
  refine tree_nil ?_
  have hb4 := bel_drew (bel_alloc (bel_refl w3) (.cells #[] 66))
  replace k4 := k4.below hb4
  replace k7 := k7.below hb4
  replace h3 := h3.below hb4
  have hB4 := bel_call hB3 hb4
  clear q0 q1 q2 hS0 HSS hb4 hB3
  go_wp2_with fail
  go_ret
  exact ⟨rfl, hB4⟩

set_option maxHeartbeats 6400000 in
set_option maxRecDepth 100000 in
theorem rem_yes (bb ma mb nb n : Nat) (L : List Pr) (F : Int → Option Nat) (t l b r row col : Int) (w : World) (h : BIs w bb ma mb nb n L F) (hin : ⟨row, col, t, l, b, r⟩ ∈ L) :
    Calls Try.prog 26 #[.pointer (some ⟨bb, 0, none⟩), .agg #[.int .i64 t, .int .i64 l, .int .i64 b, .int .i64 r], .agg #[.int .i64 row, .int .i64 col]] w (RemIs w bb ma mb nb n L F ⟨row, col, t, l, b, r⟩) := by
  obtain ⟨⟨ht1, ht2, ht3⟩, hr⟩ := okP_rng (h.may _ hin)
  obtain ⟨kl, hkl⟩ := key_pair ⟨row, col, t, l, b, r⟩ hr
  dsimp only at ht1 ht2 ht3
  have HKL := Lib.hid hkl
  have HIN := Lib.hid hin
  have hmay := h.may
  have HMAY := Lib.hid hmay
  clear hmay
  have hbbl := h.top.lt
  go_enter Try.func26, Try.ntmps26
  go_wp2_with fail
  have hB3 := bel_alloc (bel_alloc (bel_alloc (bel_refl w) (.cells #[.int .i64 t, .int .i64 l, .int .i64 b, .int .i64 r] 47)) (.cells #[.int .i64 row, .int .i64 col] 33)) (.cells #[.int .i64 t, .int .i64 l, .int .i64 b, .int .i64 r, .int .i64 row, .int .i64 col] 79)
  have h3 := h.below hB3
  have k4 := ((Blk.new w rfl 47 #[.int .i64 t, .int .i64 l, .int .i64 b, .int .i64 r]).alloc (.cells #[.int .i64 row, .int .i64 col] 33)).alloc (.cells #[.int .i64 t, .int .i64 l, .int .i64 b, .int .i64 r, .int .i64 row, .int .i64 col] 79)
  have k7 := Blk.new ((w.alloc (.cells #[.int .i64 t, .int .i64 l, .int .i64 b, .int .i64 r] 47)).alloc (.cells #[.int .i64 row, .int .i64 col] 33)) (g := w.heap.size + 1 + 1) (by simp) 79 #[.int .i64 t, .int .i64 l, .int .i64 b, .int .i64 r, .int .i64 row, .int .i64 col]
  generalize hwz : ((w.alloc (.cells #[.int .i64 t, .int .i64 l, .int .i64 b, .int .i64 r] 47)).alloc (.cells #[.int .i64 row, .int .i64 col] 33)).alloc (.cells #[.int .i64 t, .int .i64 l, .int .i64 b, .int .i64 r, .int .i64 row, .int .i64 col] 79) = w3 at hB3 h3 k4 k7 ⊢
  clear hwz
  obtain ⟨S, hSS⟩ : ∃ S : World → Prop, S = fun w' => BIs w' bb ma mb nb n L F ∧ Blk w' (w.heap.size + 1 + 1) 79 #[.int .i64 t, .int .i64 l, .int .i64 b, .int .i64 r, .int .i64 row, .int .i64 col] := ⟨_, rfl⟩
  have q0 := fun x => (held_of hSS x).1.top.rd
  have q1 := fun x => (held_of hSS x).2.rd
  have q2 : ∀ x : Held S, (Instr.lookup 73 (.map (some ma)) (.agg #[.int .i64 t, .int .i64 l, .int .i64 b, .int .i64 r, .int .i64 row, .int .i64 col]) true).run Try.prog x.w = .ok (.tuple #[.agg #[], .bool true]) x.w := fun x => by
    have := (held_of hSS x).1.all.look_run law_pair Try.underlying73 zero_unit ⟨row, col, t, l, b, r⟩ HKL.out
    rw [decide_eq_true hin] at this
    exact this
  have HSS := Lib.hid hSS
  have hS0 := held_in HSS.out ⟨h3.below (bel_drew (bel_refl w3)), k7.drew⟩
  haveI : Nonempty (Held S) := ⟨⟨_, hS0⟩⟩
  clear hSS
  refine wp_region_tree (S := S) 12 (.q 0 <| .q 1 <| .q 2 <| .q 3 <| .q 4 <| .q 5 <| .q 6 <| .q 7 <| .q 8 <| .a 9 <| .a 10 <| .q 11 <| .done) [] (by kernel_rfl) (by kernel_rfl) hS0 ?_
  repeat (refine tree_q (by rfl) (by rfl) (fun K hK => ?_); go_simp; refine hK _ ?_; clear hK K)
  refine tree_a (by rfl) (by rfl) (fun K hK => ?_)
  go_simp
  refine hK _ _ (held_in HSS.out ⟨h3.below (bel_drew (bel_alloc (bel_refl w3) (.cells #[] 66))), (k7.alloc (.cells #[] 66)).drew⟩) ?_
  clear hK K
  refine tree_a (by rfl) (by rfl) (fun K hK => ?_)
  go_simp
  refine hK _ _ (held_in HSS.out ⟨h3.below (bel_drew (bel_alloc (bel_refl w3) (.cells #[] 66))), (k7.alloc (.cells #[] 66)).drew⟩) ?_
  clear hK K
  repeat (refine tree_q (by rfl) (by rfl) (fun K hK => ?_); go_simp; refine hK _ ?_; clear hK K)
  refine tree_nil ?_
  have hb4 := bel_drew (bel_alloc (bel_refl w3) (.cells #[] 66))
  replace k4 := k4.below hb4
  replace k7 := k7.below hb4
  replace h3 := h3.below hb4
  have hB4 := bel_call hB3 hb4
  clear q0 q1 q2 hS0 HSS hb4 hB3
  clear hin
  generalize hwz : (w3.alloc (.cells #[] 66)).drew = w6 at k4 k7 h3 hB4 ⊢
  clear hwz
  go_wp2_with fail
  have rd4 := k4.rd
  obtain ⟨w7, hrun7, hset7, hg7⟩ := (h3.below (bel_drew (bel_refl w6))).all.del_run law_pair Try.underlying73 pairV_inj ⟨row, col, t, l, b, r⟩ HKL.out 0
  have hrun7' : (Builtin.delete_ #[73, 79] 0 #[.map (some ma), .agg #[.int .i64 t, .int .i64 l, .int .i64 b, .int .i64 r, .int .i64 row, .int .i64 col]]).run Try.prog w6.drew = .ok (.tuple #[]) w7 := hrun7
  obtain ⟨S, hSS⟩ : ∃ S : World → Prop, S = fun w' => Blk w' bb 76 #[.map (some ma), .map (some mb)] ∧ Blk w' (w.heap.size + 1 + 1) 79 #[.int .i64 t, .int .i64 l, .int .i64 b, .int .i64 r, .int .i64 row, .int .i64 col] := ⟨_, rfl⟩
  have q0 := fun x => (held_of hSS x).1.rd
  have q1 := fun x => (held_of hSS x).2.rd
  have HSS := Lib.hid hSS
  have hS0 : S w6.drew := held_in HSS.out ⟨h3.top.drew, k7.drew⟩
  haveI : Nonempty (Held S) := ⟨⟨_, hS0⟩⟩
  clear hSS hrun7
  have hmal := h3.all.lt
  have hmaw := h.all.lt
  have htop7 := h3.top.drew.grownX hg7 (map_ne h3.top.drew (h3.below (bel_drew (bel_refl w6))).all)
  have k77 := k7.drew.grownX hg7 (by intro e; injection e with e; omega)
  have k47 := k4.drew.grownX hg7 (by intro e; injection e with e; omega)
  have hbg7 := (h3.below (bel_drew (bel_refl w6))).bg.kept hg7 (by intro e; injection e with e; exact h3.ne e.symm) (fun k g hk e => by injection e with e; exact h3.nel k g hk e)
  have hF7 := (Frm.of_below (S := ownB bb ma mb F) (bel_drew hB4)).grown hg7 (fun g e => by injection e with e; exact .inl (.inr (.inl e.symm)))
  refine wp_region_tree (S := S) 6 (.q 0 <| .q 1 <| .q 2 <| .q 3 <| .q 4 <| .a 5 <| .done) [] (by kernel_rfl) (by kernel_rfl) hS0 ?_
  repeat (refine tree_q (by rfl) (by rfl) (fun K hK => ?_); go_simp; refine hK _ ?_; clear hK K)
  refine tree_a (by rfl) (by rfl) (fun K hK => ?_)
  go_simp
  refine hK _ _ (held_in HSS.out ⟨htop7, k77⟩) ?_
  clear hK K
  refine tree_nil ?_
  clear q0 q1 hS0 HSS hrun7' k4 k7 rd4
  have rd4 := k47.rd
  have hdiv := tdiv_in ht1 ht2 ht3
  go_wp2_with fail
  obtain ⟨lo, hlo⟩ : ∃ lo, lo = t.tdiv 64 := ⟨_, rfl⟩
  obtain ⟨hi, hhi⟩ : ∃ hi, hi = b.tdiv 64 := ⟨_, rfl⟩
  rw [← hlo, ← hhi] at hdiv
  rw [← hlo]
  obtain ⟨hd1, hd2, hd3⟩ := hdiv
  have hreach : ∀ q, reach q ⟨row, col, t, l, b, r⟩ = decide (lo ≤ q ∧ q ≤ hi) := fun q => by
    show decide (t.tdiv 64 ≤ q ∧ q ≤ b.tdiv 64) = _
    rw [← hlo, ← hhi]
  have HRE := Lib.hid hreach
  have hquo := hhi.symm
  clear hlo hhi hreach
  have hbgs : BG w7 mb nb n F (fun q => if lo ≤ q ∧ q < lo then (L.filter (reach q)).filter (fun x => decide (x ≠ ⟨row, col, t, l, b, r⟩)) else L.filter (reach q)) := hbg7.ext (fun q x => by rw [if_neg (by omega)])
  clear hbg7
  go_loopw [10] (fun s10 wr => ∃ (k : Int) (Fx : Int → Option Nat), lo ≤ k ∧ k ≤ hi + 1 ∧ s10 = .int .i64 k ∧ BG wr mb nb n Fx (fun q => if lo ≤ q ∧ q < k then (L.filter (reach q)).filter (fun x => decide (x ≠ ⟨row, col, t, l, b, r⟩)) else L.filter (reach q)) ∧
      PSet wr ma n (L.filter fun x => decide (x ≠ ⟨row, col, t, l, b, r⟩)) ∧ Blk wr bb 76 #[.map (some ma), .map (some mb)] ∧ Blk wr w.heap.size 47 #[.int .i64 t, .int .i64 l, .int .i64 b, .int .i64 r] ∧ Blk wr (w.heap.size + 1 + 1) 79 #[.int .i64 t, .int .i64 l, .int .i64 b, .int .i64 r, .int .i64 row, .int .i64 col] ∧ Hid (∀ q g, Fx q = some g → F q = some g) ∧ Frm (ownB bb ma mb F) w wr) (fun s10 _ => (hi + 1 - intOf s10).toNat)
  case atStart => exact ⟨lo, F, Int.le_refl _, by omega, rfl, hbgs, hset7, htop7, k47, k77, (show ∀ q g, F q = some g → _ from fun q g h => h), hF7⟩
  case round =>
    obtain ⟨k, Fx, hk1, hk2, rfl, hbg, hset, htop, k4, k7, HFX, hFr⟩ := hrel
    clear hbgs hset7 htop7 k47 k77 hF7 rd4 hg7
    have rd4 := k4.rd
    by_cases hkh : k ≤ hi
    · have hki : i64P k := by unfold i64P; omega
      have hwk : IntKind.i64.wrap (k + 1) = k + 1 := IntWalk.i64_in _ (by omega)
      obtain ⟨g, hFk⟩ : ∃ g, Fx k = some g := by
        cases hF : Fx k with
        | some g => exact ⟨g, rfl⟩
        | none =>
          have := hbg.non k hF
          rw [if_neg (by omega)] at this
          have hm : ⟨row, col, t, l, b, r⟩ ∈ L.filter (reach k) := List.mem_filter.2 ⟨HIN.out, by rw [HRE.out k]; exact decide_eq_true ⟨hk1, hkh⟩⟩
          rw [this] at hm
          simp at hm
      go_wp2_with fail
      have hbgd := hbg.below (bel_drew (bel_refl wr))
      have hgrp := hbgd.grp k g hFk
      rw [if_neg (by omega)] at hgrp
      obtain ⟨w9, hrun9, hset9, hg9⟩ := hgrp.del_run law_pair Try.underlying73 pairV_inj ⟨row, col, t, l, b, r⟩ HKL.out 0
      have hrun9' : (Builtin.delete_ #[73, 79] 0 #[.map (some g), .agg #[.int .i64 t, .int .i64 l, .int .i64 b, .int .i64 r, .int .i64 row, .int .i64 col]]).run Try.prog wr.drew = .ok (.tuple #[]) w9 := hrun9
      obtain ⟨S, hSS⟩ : ∃ S : World → Prop, S = fun w' => Blk w' bb 76 #[.map (some ma), .map (some mb)] ∧ Blk w' (w.heap.size + 1 + 1) 79 #[.int .i64 t, .int .i64 l, .int .i64 b, .int .i64 r, .int .i64 row, .int .i64 col] ∧ (Instr.lookup 74 (.map (some mb)) (.int .i64 k) false).run Try.prog w' = .ok (.map (some g)) w' := ⟨_, rfl⟩
      have q0 := fun x => (held_of hSS x).1.rd
      have q1 := fun x => (held_of hSS x).2.1.rd
      have q2 := fun x => (held_of hSS x).2.2
      have HSS := Lib.hid hSS
      have hS0 : S wr.drew := held_in HSS.out ⟨htop.drew, k7.drew, by rw [hbgd.look hki, hFk]⟩
      haveI : Nonempty (Held S) := ⟨⟨_, hS0⟩⟩
      have hneb := map_ne htop.drew hgrp
      have hgm := hbgd.ne k g hFk
      have hgma := h.nel k g (HFX.out k g hFk)
      have hbg9 := hbgd.delp hFk hg9 hset9
      have hl9 : (Instr.lookup 74 (.map (some mb)) (.int .i64 k) false).run Try.prog w9 = .ok (.map (some g)) w9 := by rw [hbg9.look hki, hFk]
      have hbx := hbg9.ext (G' := fun q => if lo ≤ q ∧ q < k + 1 then (L.filter (reach q)).filter (fun x => decide (x ≠ ⟨row, col, t, l, b, r⟩)) else L.filter (reach q)) (fun q x => by have hc := cut_at (p := ⟨row, col, t, l, b, r⟩) (L := L) (lo := lo) (k := k) hk1 q x; rw [if_neg (show ¬ (lo ≤ k ∧ k < k) by omega)] at hc; exact hc)
      obtain ⟨z, hz0, hlen⟩ := pset_len hset9 (fun p hp => (okP_rng (HMAY.out p (List.mem_filter.1 (List.mem_filter.1 hp).1).1)).2)
      have htop9 := htop.drew.grownX hg9 hneb
      have k79 := k7.drew.grownX hg9 (map_ne k7.drew hgrp)
      have k49 := k4.drew.grownX hg9 (map_ne k4.drew hgrp)
      have hset9' := (hset.below (bel_drew (bel_refl wr))).kept hg9 (by intro e; injection e with e; exact hgma e.symm)
      have hfr9 := hFr.drew.grown hg9 (fun z e => by injection e with e; subst e; exact .inl (.inr (.inr (.inr ⟨k, HFX.out k g hFk⟩))))
      have HBX := Lib.hid hbx
      have HL9 := Lib.hid hl9
      have HFK := Lib.hid hFk
      have HZ0 := Lib.hid hz0
      clear hSS hrun9 hbg9 hl9 hbx hgrp hbgd hFk hz0 rd4
      refine wp_region_tree (S := S) 8 (.q 0 <| .q 1 <| .q 2 <| .q 3 <| .q 4 <| .q 5 <| .q 6 <| .a 7 <| .done) [] (by kernel_rfl) (by kernel_rfl) hS0 ?_
      repeat (refine tree_q (by rfl) (by rfl) (fun K hK => ?_); go_simp; refine hK _ ?_; clear hK K)
      refine tree_a (by rfl) (by rfl) (fun K hK => ?_)
      go_simp
      refine hK _ _ (held_in HSS.out ⟨htop9, k79, HL9.out⟩) ?_
      clear hK K
      refine tree_nil ?_
      clear q0 q1 q2 hS0 HSS hrun9'
      have rd9 := htop9.rd
      have hl9 := HL9.out
      have hlen3 := hlen 3
      by_cases hz : z = 0
      · have hGk : (if lo ≤ k ∧ k < k + 1 then (L.filter (reach k)).filter (fun x => decide (x ≠ ⟨row, col, t, l, b, r⟩)) else L.filter (reach k)) = [] := by rw [if_pos (by omega)]; exact HZ0.out.1 hz
        obtain ⟨w10, hrun10, hbg10, hg10⟩ := HBX.out.drop hki hGk 0
        obtain ⟨F8, hF8e⟩ : ∃ F8 : Int → Option Nat, F8 = (fun q => if q = k then none else Fx q) := ⟨_, rfl⟩
        rw [← hF8e] at hbg10
        have hfx8 : ∀ q g, F8 q = some g → F q = some g := fun q g hq => by
          rw [hF8e] at hq
          dsimp only at hq
          by_cases e : q = k
          · rw [if_pos e] at hq
            cases hq
          · rw [if_neg e] at hq
            exact HFX.out q g hq
        have htop10 := htop9.grownX hg10 (band_ne htop9 HBX.out)
        have k710 := k79.grownX hg10 (band_ne k79 HBX.out)
        have k410 := k49.grownX hg10 (band_ne k49 HBX.out)
        have hset10 := hset9'.kept hg10 (by intro e; injection e with e; exact h.ne e)
        have hfr10 := hfr9.grown hg10 (fun z e => by injection e with e; exact .inl (.inr (.inr (.inl e.symm))))
        have HX8 := Lib.hid hfx8
        subst hz
        clear hGk hF8e hfx8
        go_wp2_with fail
        go_roundw
        case rel => exact ⟨k + 1, F8, by omega, by omega, by go_num, hbg10, hset10, htop10, k410, k710, HX8, hfr10⟩
        case measure => simp [intOf]; omega
      · have bz : ((z : Int) == 0) = false := by rw [beq_eq_false_iff_ne]; omega
        go_wp2_with fail
        go_roundw
        case rel => exact ⟨k + 1, Fx, by omega, by omega, by go_num, HBX.out, hset9', htop9, k49, k79, HFX, hfr9⟩
        case measure => simp [intOf]; omega
    · obtain rfl : k = hi + 1 := by omega
      go_wp2_with fail
      go_ret
      refine ⟨Fx, rfl, ⟨htop, hset, hbg.ext (fun q x => ?_), h.ne, fun q g hq => h.nel q g (HFX.out q g hq), fun p hp => h.may p (List.mem_filter.1 hp).1⟩, hFr, HFX.out⟩
      by_cases e : lo ≤ q ∧ q ≤ hi
      · rw [if_pos (by omega)]
        simp only [List.mem_filter]
        exact ⟨fun h => ⟨⟨h.1.1, h.2⟩, h.1.2⟩, fun h => ⟨⟨h.1.1, h.2⟩, h.1.2⟩⟩
      · rw [if_neg (by omega), List.filter_filter, List.mem_filter, List.mem_filter]
        constructor
        · rintro ⟨h1, h2⟩
          refine ⟨h1, ?_⟩
          rw [h2, Bool.true_and]
          refine decide_eq_true ?_
          rintro rfl
          rw [HRE.out q] at h2
          exact e (of_decide_eq_true h2)
        · rintro ⟨h1, h2⟩
          rw [Bool.and_eq_true] at h2
          exact ⟨h1, h2.1⟩
end Go.Proofs.Ytpgnebhlnkoajaa

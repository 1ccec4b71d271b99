/-
  Bands: contract of Add where it adds. Conditions: the pair is none of those there and may be; few enough calls came ahead.
-/
import Derived.Test.YtpgnebhlnkoajaaBAdd
namespace Go.Proofs.Ytpgnebhlnkoajaa
open Go.ChangeShapes Go.WideShapes Go.ChangeAt Go.RowKit Go.Deep
attribute [local go_sem] Cls

theorem map_ne {w : World} {b g n : Nat} {t : TypeId} {cs : Array Value} {L : List Pr} (h : Blk w b t cs) (hs : PSet w g n L) : some b ≠ some g := by
  rintro e
  injection e with e
  subst e
  obtain ⟨D, ⟨es, clock, hb, _⟩, _⟩ := hs
  rw [h] at hb
  injection hb with hb
  cases hb
theorem band_ne {w : World} {b mb nb n : Nat} {t : TypeId} {cs : Array Value} {F : Int → Option Nat} {G : Int → List Pr} (h : Blk w b t cs) (hs : BG w mb nb n F G) : some b ≠ some mb := by
  rintro e
  injection e with e
  subst e
  obtain ⟨D, ⟨es, clock, hb, _⟩, _⟩ := hs.band
  rw [h] at hb
  injection hb with hb
  cases hb
theorem grow_at {p : Pr} {L : List Pr} {lo k : Int} (h : lo ≤ k) (q : Int) (x : Pr) : x ∈ (if q = k then p :: (if lo ≤ k ∧ k < k then p :: L.filter (reach k) else L.filter (reach k)) else (if lo ≤ q ∧ q < k then p :: L.filter (reach q) else L.filter (reach q))) ↔ x ∈ (if lo ≤ q ∧ q < k + 1 then p :: L.filter (reach q) else L.filter (reach q)) := by
  by_cases e : q = k
  · subst e
    rw [if_pos rfl, if_neg (by omega), if_pos (by omega)]
  · rw [if_neg e]
    by_cases e2 : lo ≤ q ∧ q < k
    · rw [if_pos e2, if_pos (by omega)]
    · rw [if_neg e2, if_neg (by omega)]
theorem tdiv_in {t b : Int} (h1 : 1 ≤ t) (h2 : t ≤ b) (h3 : b ≤ 4096) : 0 ≤ t.tdiv 64 ∧ t.tdiv 64 ≤ b.tdiv 64 ∧ b.tdiv 64 ≤ 64 := by
  rw [Int.tdiv_eq_ediv_of_nonneg (by omega), Int.tdiv_eq_ediv_of_nonneg (by omega)]
  omega
/-- What Add answers where it adds. -/
def AddIs (w : World) (bb ma mb nb n : Nat) (L : List Pr) (F : Int → Option Nat) (p : Pr) (e : Ending) (w' : World) : Prop :=
  ∃ F', e = .returned (.bool true) ∧ BIs w' bb ma mb (nb + 65) (n + 65) (p :: L) F' ∧ Frm (ownB bb ma mb F) w w' ∧ ∀ k g, F' k = some g → F k = some g ∨ w.heap.size ≤ g

set_option maxHeartbeats 6400000 in
set_option maxRecDepth 100000 in
theorem add_yes (bb ma mb nb n : Nat) (L : List Pr) (F : Int → Option Nat) (t l b r row col : Int) (w : World) (h : BIs w bb ma mb nb n L F) (hok : okP ⟨row, col, t, l, b, r⟩) (hno : ⟨row, col, t, l, b, r⟩ ∉ L) (hn : n + 65 < maxLen) (hnb : nb + 65 < maxLen) :
    Calls Try.prog 29 #[.pointer (some ⟨bb, 0, none⟩), .agg #[.int .i64 t, .int .i64 l, .int .i64 b, .int .i64 r], .agg #[.int .i64 row, .int .i64 col]] w (AddIs w bb ma mb nb n L F ⟨row, col, t, l, b, r⟩) := by
  obtain ⟨⟨ht1, ht2, ht3⟩, hr⟩ := okP_rng hok
  obtain ⟨kl, hkl⟩ := key_pair ⟨row, col, t, l, b, r⟩ hr
  dsimp only at ht1 ht2 ht3
  have HKL := Lib.hid hkl
  obtain ⟨hm1, hm2⟩ := hok
  dsimp only at hm1 hm2
  have hbbl := h.top.lt
  go_enter Try.func29, Try.ntmps29
  go_wp2_with fail
  have hB3 := bel_alloc (bel_alloc (bel_alloc (bel_refl w) (.cells #[.int .i64 t, .int .i64 l, .int .i64 b, .int .i64 r] 47)) (.cells #[.int .i64 row, .int .i64 col] 33)) (.cells #[.int .i64 t, .int .i64 l, .int .i64 b, .int .i64 r, .int .i64 row, .int .i64 col] 79)
  have h3 := h.below hB3
  have k4 := ((Blk.new w rfl 47 #[.int .i64 t, .int .i64 l, .int .i64 b, .int .i64 r]).alloc (.cells #[.int .i64 row, .int .i64 col] 33)).alloc (.cells #[.int .i64 t, .int .i64 l, .int .i64 b, .int .i64 r, .int .i64 row, .int .i64 col] 79)
  have k5 := (Blk.new (w.alloc (.cells #[.int .i64 t, .int .i64 l, .int .i64 b, .int .i64 r] 47)) (g := w.heap.size + 1) (by simp) 33 #[.int .i64 row, .int .i64 col]).alloc (.cells #[.int .i64 t, .int .i64 l, .int .i64 b, .int .i64 r, .int .i64 row, .int .i64 col] 79)
  have k7 := Blk.new ((w.alloc (.cells #[.int .i64 t, .int .i64 l, .int .i64 b, .int .i64 r] 47)).alloc (.cells #[.int .i64 row, .int .i64 col] 33)) (g := w.heap.size + 1 + 1) (by simp) 79 #[.int .i64 t, .int .i64 l, .int .i64 b, .int .i64 r, .int .i64 row, .int .i64 col]
  generalize hwz : ((w.alloc (.cells #[.int .i64 t, .int .i64 l, .int .i64 b, .int .i64 r] 47)).alloc (.cells #[.int .i64 row, .int .i64 col] 33)).alloc (.cells #[.int .i64 t, .int .i64 l, .int .i64 b, .int .i64 r, .int .i64 row, .int .i64 col] 79) = w3 at hB3 h3 k4 k5 k7 ⊢
  clear hwz
  obtain ⟨S, hSS⟩ : ∃ S : World → Prop, S = fun w' => BIs w' bb ma mb nb n L F ∧ Blk w' (w.heap.size + 1 + 1) 79 #[.int .i64 t, .int .i64 l, .int .i64 b, .int .i64 r, .int .i64 row, .int .i64 col] := ⟨_, rfl⟩
  have q0 := fun x => (held_of hSS x).1.top.rd
  have q1 := fun x => (held_of hSS x).2.rd
  have q2 : ∀ x : Held S, (Instr.lookup 73 (.map (some ma)) (.agg #[.int .i64 t, .int .i64 l, .int .i64 b, .int .i64 r, .int .i64 row, .int .i64 col]) true).run Try.prog x.w = .ok (.tuple #[.agg #[], .bool false]) x.w := fun x => by
    have := (held_of hSS x).1.all.look_run law_pair Try.underlying73 zero_unit ⟨row, col, t, l, b, r⟩ hkl
    rw [decide_eq_false hno] at this
    exact this
  have HSS := Lib.hid hSS
  have hS0 := held_in HSS.out ⟨h3.below (bel_drew (bel_refl w3)), k7.drew⟩
  haveI : Nonempty (Held S) := ⟨⟨_, hS0⟩⟩
  clear hSS
  refine wp_region_tree (S := S) 12 (.q 0 <| .q 1 <| .q 2 <| .q 3 <| .q 4 <| .q 5 <| .q 6 <| .q 7 <| .q 8 <| .a 9 <| .a 10 <| .q 11 <| .done) [] (by kernel_rfl) (by kernel_rfl) hS0 ?_
  repeat (refine tree_q (by rfl) (by rfl) (fun K hK => ?_); go_simp; refine hK _ ?_; clear hK K)
  refine tree_a (by rfl) (by rfl) (fun K hK => ?_)
  go_simp
  refine hK _ _ (held_in HSS.out ⟨h3.below (bel_drew (bel_alloc (bel_refl w3) (.cells #[] 66))), (k7.alloc (.cells #[] 66)).drew⟩) ?_
  clear hK K
  refine tree_a (by rfl) (by rfl) (fun K hK => ?_)
  go_simp
  refine hK _ _ (held_in HSS.out ⟨h3.below (bel_drew (bel_alloc (bel_refl w3) (.cells #[] 66))), (k7.alloc (.cells #[] 66)).drew⟩) ?_
  clear hK K
  repeat (refine tree_q (by rfl) (by rfl) (fun K hK => ?_); go_simp; refine hK _ ?_; clear hK K)
  refine tree_nil ?_
  have hb4 := bel_drew (bel_alloc (bel_refl w3) (.cells #[] 66))
  replace k4 := k4.below hb4
  replace k5 := k5.below hb4
  replace k7 := k7.below hb4
  replace h3 := h3.below hb4
  have rd4 := k4.rd
  have rd5 := k5.rd
  have hB4 := bel_call hB3 hb4
  clear q0 q1 q2 hS0 HSS hb4 hB3
  go_wp2_with fail
  refine (mayrect_any t l b r _).mono ?_
  rintro e w5 ⟨rfl, hb5⟩
  replace k4 := k4.below hb5
  replace k5 := k5.below hb5
  replace k7 := k7.below hb5
  replace h3 := h3.below hb5
  replace rd4 := k4.rd
  replace rd5 := k5.rd
  replace hB4 := bel_call hB4 hb5
  clear hb5
  rw [hm1]
  go_wp2_with fail
  refine (may_any row col _).mono ?_
  rintro e w6 ⟨rfl, hb6⟩
  replace k4 := k4.below hb6
  replace k7 := k7.below hb6
  replace h3 := h3.below hb6
  replace hB4 := bel_call hB4 hb6
  clear hb6 k5 rd5 rd4
  rw [hm2]
  go_wp2_with fail
  obtain ⟨w7, hrun7, hset7, hg7⟩ := (h3.below (bel_drew (bel_refl w6))).all.put_run law_pair Try.underlying73 pairV_inj (by omega) ⟨row, col, t, l, b, r⟩ hr HKL.out
  have hrun7' : (Instr.mapUpdate 73 (.map (some ma)) (.agg #[.int .i64 t, .int .i64 l, .int .i64 b, .int .i64 r, .int .i64 row, .int .i64 col]) (.agg #[])).run Try.prog w6.drew = .ok () w7 := hrun7
  obtain ⟨S, hSS⟩ : ∃ S : World → Prop, S = fun w' => Blk w' bb 76 #[.map (some ma), .map (some mb)] ∧ Blk w' (w.heap.size + 1 + 1) 79 #[.int .i64 t, .int .i64 l, .int .i64 b, .int .i64 r, .int .i64 row, .int .i64 col] := ⟨_, rfl⟩
  have q0 := fun x => (held_of hSS x).1.rd
  have q1 := fun x => (held_of hSS x).2.rd
  have HSS := Lib.hid hSS
  have hS0 : S w6.drew := held_in HSS.out ⟨h3.top.drew, k7.drew⟩
  haveI : Nonempty (Held S) := ⟨⟨_, hS0⟩⟩
  clear hSS hrun7
  have hmal := h3.all.lt
  have hmaw := h.all.lt
  have hbt := h3.top
  have htop7 := h3.top.drew.grownX hg7 (map_ne h3.top.drew (h3.below (bel_drew (bel_refl w6))).all)
  have k77 := k7.drew.grownX hg7 (by intro e; injection e with e; omega)
  have k47 := k4.drew.grownX hg7 (by intro e; injection e with e; omega)
  have hbg7 := (h3.below (bel_drew (bel_refl w6))).bg.kept hg7 (by intro e; injection e with e; exact h3.ne e.symm) (fun k g hk e => by injection e with e; exact h3.nel k g hk e)
  have hF7 := (Frm.of_below (S := ownB bb ma mb F) (bel_drew hB4)).grown hg7 (fun g e => by injection e with e; exact .inl (.inr (.inl e.symm)))
  refine wp_region_tree (S := S) 7 (.q 0 <| .q 1 <| .q 2 <| .q 3 <| .q 4 <| .q 5 <| .a 6 <| .done) [] (by kernel_rfl) (by kernel_rfl) hS0 ?_
  repeat (refine tree_q (by rfl) (by rfl) (fun K hK => ?_); go_simp; refine hK _ ?_; clear hK K)
  refine tree_a (by rfl) (by rfl) (fun K hK => ?_)
  go_simp
  refine hK _ _ (held_in HSS.out ⟨htop7, k77⟩) ?_
  clear hK K
  refine tree_nil ?_
  clear q0 q1 hS0 HSS hrun7' k4 k7
  have rd4 := k47.rd
  have hdiv := tdiv_in ht1 ht2 ht3
  go_wp2_with fail
  obtain ⟨lo, hlo⟩ : ∃ lo, lo = t.tdiv 64 := ⟨_, rfl⟩
  obtain ⟨hi, hhi⟩ : ∃ hi, hi = b.tdiv 64 := ⟨_, rfl⟩
  rw [← hlo, ← hhi] at hdiv
  rw [← hlo]
  obtain ⟨hd1, hd2, hd3⟩ := hdiv
  have hreach : ∀ q, reach q ⟨row, col, t, l, b, r⟩ = decide (lo ≤ q ∧ q ≤ hi) := fun q => by
    show decide (t.tdiv 64 ≤ q ∧ q ≤ b.tdiv 64) = _
    rw [← hlo, ← hhi]
  have HRE := Lib.hid hreach
  have hquo := hhi.symm
  clear hlo hhi hreach
  have hbgs : BG w7 mb nb n F (fun q => if lo ≤ q ∧ q < lo then ⟨row, col, t, l, b, r⟩ :: L.filter (reach q) else L.filter (reach q)) := hbg7.ext (fun q x => by rw [if_neg (by omega)])
  clear hbg7
  go_loopw [10] (fun s10 wr => ∃ (k : Int) (Fx : Int → Option Nat) (nb' n' : Nat), lo ≤ k ∧ k ≤ hi + 1 ∧ s10 = .int .i64 k ∧ BG wr mb nb' n' Fx (fun q => if lo ≤ q ∧ q < k then ⟨row, col, t, l, b, r⟩ :: L.filter (reach q) else L.filter (reach q)) ∧ nb' ≤ nb + (k - lo).toNat ∧ n' ≤ n + (k - lo).toNat ∧
      PSet wr ma (n + 1) (⟨row, col, t, l, b, r⟩ :: L) ∧ Blk wr bb 76 #[.map (some ma), .map (some mb)] ∧ Blk wr w.heap.size 47 #[.int .i64 t, .int .i64 l, .int .i64 b, .int .i64 r] ∧ Blk wr (w.heap.size + 1 + 1) 79 #[.int .i64 t, .int .i64 l, .int .i64 b, .int .i64 r, .int .i64 row, .int .i64 col] ∧ (∀ q g, Fx q = some g → g ≠ ma) ∧ Hid (∀ q g, Fx q = some g → F q = some g ∨ w.heap.size + 1 + 1 + 1 ≤ g) ∧ Frm (ownB bb ma mb F) w wr) (fun s10 _ => (hi + 1 - intOf s10).toNat)
  case atStart => exact ⟨lo, F, nb, n, Int.le_refl _, by omega, rfl, hbgs, by omega, by omega, hset7, htop7, k47, k77, h3.nel, (show ∀ q g, F q = some g → _ from fun q g h => .inl h), hF7⟩
  case round =>
    obtain ⟨k, Fx, nb', n', hk1, hk2, rfl, hbg, hnb', hn', hset, htop, k4, k7, hnel, HFX, hFr⟩ := hrel
    clear hbgs hset7 htop7 k47 k77 hF7 rd4 hg7
    have rd4 := k4.rd
    by_cases hkh : k ≤ hi
    · have hki : i64P k := by unfold i64P; omega
      have hwk : IntKind.i64.wrap (k + 1) = k + 1 := IntWalk.i64_in _ (by omega)
      have hlook := hbg.look hki
      have heqm := fun F w => run_eql_map_nil (P := Try.prog) w 73 _ _ F Try.underlying73
      have hwl := hFr.size
      cases hFk : Fx k with
      | none =>
        rw [hFk] at hlook
        have hmk := run_makeMap (P := Try.prog) 73 wr
        obtain ⟨w8, hrun8, hbg8, hg8⟩ := (hbg.below (bel_alloc (bel_refl wr) (.map #[] 0))).fresh hki hFk ((MSet.made Try.prog 79 pairV rngP wr).mono (Nat.zero_le n')) (Ne.symm (Nat.ne_of_lt hbg.ltm)) (fun q g' hq => Nat.ne_of_lt (hbg.ltg hq)) (by omega)
        have hset8 := (hset.below (bel_alloc (bel_refl wr) (.map #[] 0))).kept hg8 (by intro e; injection e with e; exact h.ne e)
        have htop8 := (htop.alloc (.map #[] 0)).grownX hg8 (band_ne (htop.alloc (.map #[] 0)) (hbg.below (bel_alloc (bel_refl wr) (.map #[] 0))))
        have k78 := (k7.alloc (.map #[] 0)).grownX hg8 (band_ne (k7.alloc (.map #[] 0)) (hbg.below (bel_alloc (bel_refl wr) (.map #[] 0))))
        have k48 := (k4.alloc (.map #[] 0)).grownX hg8 (band_ne (k4.alloc (.map #[] 0)) (hbg.below (bel_alloc (bel_refl wr) (.map #[] 0))))
        have hfr8 := (hFr.alloc (.map #[] 0)).grown hg8 (fun z e => by injection e with e; exact .inl (.inr (.inr (.inl e.symm))))
        obtain ⟨F8, hF8e⟩ : ∃ F8 : Int → Option Nat, F8 = (fun q => if q = k then some wr.heap.size else Fx q) := ⟨_, rfl⟩
        rw [← hF8e] at hbg8
        have hF8 : F8 k = some wr.heap.size := by rw [hF8e]; exact if_pos rfl
        have hset8l := hset.lt
        have hwll := k7.lt
        have hnel8 : ∀ q g, F8 q = some g → g ≠ ma := fun q g hq => by
          rw [hF8e] at hq
          dsimp only at hq
          by_cases e : q = k
          · rw [if_pos e] at hq
            have := Option.some.inj hq
            omega
          · rw [if_neg e] at hq
            exact hnel q g hq
        have hfx8 : ∀ q g, F8 q = some g → F q = some g ∨ w.heap.size + 1 + 1 + 1 ≤ g := fun q g hq => by
          rw [hF8e] at hq
          dsimp only at hq
          by_cases e : q = k
          · rw [if_pos e] at hq
            have := Option.some.inj hq
            exact .inr (by omega)
          · rw [if_neg e] at hq
            exact HFX.out q g hq
        have rdt := htop.rd
        have HF8 := Lib.hid hF8
        have HN8 := Lib.hid hnel8
        have HX8 := Lib.hid hfx8
        clear hFk hF8 hnel8 hfx8 hF8e
        go_wp2_with fail
        clear hlook hmk hrun8 rdt heqm
        have hbgd := hbg8.below (bel_drew (bel_refl w8))
        have hgrp := hbgd.grp k wr.heap.size HF8.out
        rw [if_neg (by omega)] at hgrp
        obtain ⟨w9, hrun9, hset9, hg9⟩ := hgrp.put_run law_pair Try.underlying73 pairV_inj (by omega) ⟨row, col, t, l, b, r⟩ hr HKL.out
        have hrun9' : (Instr.mapUpdate 73 (.map (some wr.heap.size)) (.agg #[.int .i64 t, .int .i64 l, .int .i64 b, .int .i64 r, .int .i64 row, .int .i64 col]) (.agg #[])).run Try.prog w8.drew = .ok () w9 := hrun9
        obtain ⟨S, hSS⟩ : ∃ S : World → Prop, S = fun w' => Blk w' bb 76 #[.map (some ma), .map (some mb)] ∧ Blk w' (w.heap.size + 1 + 1) 79 #[.int .i64 t, .int .i64 l, .int .i64 b, .int .i64 r, .int .i64 row, .int .i64 col] ∧ (Instr.lookup 74 (.map (some mb)) (.int .i64 k) false).run Try.prog w' = .ok (.map (some wr.heap.size)) w' := ⟨_, rfl⟩
        have q0 := fun x => (held_of hSS x).1.rd
        have q1 := fun x => (held_of hSS x).2.1.rd
        have q2 := fun x => (held_of hSS x).2.2
        have HSS := Lib.hid hSS
        have hS0 : S w8.drew := held_in HSS.out ⟨htop8.drew, k78.drew, by rw [hbgd.look hki, HF8.out]⟩
        haveI : Nonempty (Held S) := ⟨⟨_, hS0⟩⟩
        have hneb := map_ne htop8.drew hgrp
        have hgm := hbgd.ne k wr.heap.size HF8.out
        have hgma := HN8.out k wr.heap.size HF8.out
        have hbg9 := hbgd.put HF8.out hg9 (by rw [if_neg (by omega)]; exact hset9)
        have hl9 : (Instr.lookup 74 (.map (some mb)) (.int .i64 k) false).run Try.prog w9 = .ok (.map (some wr.heap.size)) w9 := by rw [hbg9.look hki, HF8.out]
        have hbx := hbg9.ext (G' := fun q => if lo ≤ q ∧ q < k + 1 then ⟨row, col, t, l, b, r⟩ :: L.filter (reach q) else L.filter (reach q)) (fun q x => grow_at (lo := lo) (k := k) hk1 q x)
        have htop9 := htop8.drew.grownX hg9 hneb
        have k79 := k78.drew.grownX hg9 (map_ne k78.drew hgrp)
        have k49 := k48.drew.grownX hg9 (map_ne k48.drew hgrp)
        have hset9' := ((hset8).below (bel_drew (bel_refl w8))).kept hg9 (by intro e; injection e with e; exact hgma e.symm)
        have hfr9 := (hfr8).drew.grown hg9 (fun z e => by injection e with e; subst e; exact (HX8.out k wr.heap.size HF8.out).imp (fun h => .inr (.inr (.inr ⟨k, h⟩))) (fun h => by omega))
        have HBX := Lib.hid hbx
        have HL9 := Lib.hid hl9
        clear hSS hrun9 hbg9 hl9 hbx hgrp hbgd
        refine wp_region_tree (S := S) 9 (.q 0 <| .q 1 <| .q 2 <| .q 3 <| .q 4 <| .q 5 <| .q 6 <| .q 7 <| .a 8 <| .done) [] (by kernel_rfl) (by kernel_rfl) hS0 ?_
        repeat (refine tree_q (by rfl) (by rfl) (fun K hK => ?_); go_simp; refine hK _ ?_; clear hK K)
        refine tree_a (by rfl) (by rfl) (fun K hK => ?_)
        go_simp
        refine hK _ _ (held_in HSS.out ⟨htop9, k79, HL9.out⟩) ?_
        clear hK K
        refine tree_nil ?_
        clear q0 q1 q2 hS0 HSS hrun9'
        go_wp2_with fail
        go_roundw
        case rel => exact ⟨k + 1, F8, (nb' + 1), n' + 1, by omega, by omega, by go_num, HBX.out, by omega, by omega, hset9', htop9, k49, k79, HN8.out, Lib.hid HX8.out, hfr9⟩
        case measure => simp [intOf]; omega

      | some g =>
        rw [hFk] at hlook
        have rdt := htop.rd
        have HFK := Lib.hid hFk
        clear hFk
        go_wp2_with fail
        clear hlook rdt heqm
        have hbgd := hbg.below (bel_drew (bel_refl wr))
        have hgrp := hbgd.grp k g HFK.out
        rw [if_neg (by omega)] at hgrp
        obtain ⟨w9, hrun9, hset9, hg9⟩ := hgrp.put_run law_pair Try.underlying73 pairV_inj (by omega) ⟨row, col, t, l, b, r⟩ hr HKL.out
        have hrun9' : (Instr.mapUpdate 73 (.map (some g)) (.agg #[.int .i64 t, .int .i64 l, .int .i64 b, .int .i64 r, .int .i64 row, .int .i64 col]) (.agg #[])).run Try.prog wr.drew = .ok () w9 := hrun9
        obtain ⟨S, hSS⟩ : ∃ S : World → Prop, S = fun w' => Blk w' bb 76 #[.map (some ma), .map (some mb)] ∧ Blk w' (w.heap.size + 1 + 1) 79 #[.int .i64 t, .int .i64 l, .int .i64 b, .int .i64 r, .int .i64 row, .int .i64 col] ∧ (Instr.lookup 74 (.map (some mb)) (.int .i64 k) false).run Try.prog w' = .ok (.map (some g)) w' := ⟨_, rfl⟩
        have q0 := fun x => (held_of hSS x).1.rd
        have q1 := fun x => (held_of hSS x).2.1.rd
        have q2 := fun x => (held_of hSS x).2.2
        have HSS := Lib.hid hSS
        have hS0 : S wr.drew := held_in HSS.out ⟨htop.drew, k7.drew, by rw [hbgd.look hki, HFK.out]⟩
        haveI : Nonempty (Held S) := ⟨⟨_, hS0⟩⟩
        have hneb := map_ne htop.drew hgrp
        have hgm := hbgd.ne k g HFK.out
        have hgma := hnel k g HFK.out
        have hbg9 := hbgd.put HFK.out hg9 (by rw [if_neg (by omega)]; exact hset9)
        have hl9 : (Instr.lookup 74 (.map (some mb)) (.int .i64 k) false).run Try.prog w9 = .ok (.map (some g)) w9 := by rw [hbg9.look hki, HFK.out]
        have hbx := hbg9.ext (G' := fun q => if lo ≤ q ∧ q < k + 1 then ⟨row, col, t, l, b, r⟩ :: L.filter (reach q) else L.filter (reach q)) (fun q x => grow_at (lo := lo) (k := k) hk1 q x)
        have htop9 := htop.drew.grownX hg9 hneb
        have k79 := k7.drew.grownX hg9 (map_ne k7.drew hgrp)
        have k49 := k4.drew.grownX hg9 (map_ne k4.drew hgrp)
        have hset9' := ((hset).below (bel_drew (bel_refl wr))).kept hg9 (by intro e; injection e with e; exact hgma e.symm)
        have hfr9 := (hFr).drew.grown hg9 (fun z e => by injection e with e; subst e; exact (HFX.out k g HFK.out).imp (fun h => .inr (.inr (.inr ⟨k, h⟩))) (fun h => by omega))
        have HBX := Lib.hid hbx
        have HL9 := Lib.hid hl9
        clear hSS hrun9 hbg9 hl9 hbx hgrp hbgd
        refine wp_region_tree (S := S) 9 (.q 0 <| .q 1 <| .q 2 <| .q 3 <| .q 4 <| .q 5 <| .q 6 <| .q 7 <| .a 8 <| .done) [] (by kernel_rfl) (by kernel_rfl) hS0 ?_
        repeat (refine tree_q (by rfl) (by rfl) (fun K hK => ?_); go_simp; refine hK _ ?_; clear hK K)
        refine tree_a (by rfl) (by rfl) (fun K hK => ?_)
        go_simp
        refine hK _ _ (held_in HSS.out ⟨htop9, k79, HL9.out⟩) ?_
        clear hK K
        refine tree_nil ?_
        clear q0 q1 q2 hS0 HSS hrun9'
        go_wp2_with fail
        go_roundw
        case rel => exact ⟨k + 1, Fx, nb', n' + 1, by omega, by omega, by go_num, HBX.out, by omega, by omega, hset9', htop9, k49, k79, hnel, Lib.hid HFX.out, hfr9⟩
        case measure => simp [intOf]; omega

    · obtain rfl : k = hi + 1 := by omega
      go_wp2_with fail
      go_ret
      refine ⟨Fx, rfl, ⟨htop, hset.mono (by omega), (hbg.mono (by omega) (by omega)).ext (fun q x => ?_), h.ne, hnel, fun p hp => ?_⟩, hFr, fun q g hq => (HFX.out q g hq).imp id (by omega)⟩
      · rw [List.filter_cons, HRE.out q]
        by_cases e : lo ≤ q ∧ q ≤ hi
        · rw [if_pos (by omega), if_pos (decide_eq_true e)]
        · rw [if_neg (by omega), if_neg (by simp only [decide_eq_true_eq]; exact e)]
      · rcases List.mem_cons.1 hp with rfl | hp
        · exact ⟨hm1, hm2⟩
        · exact h.may p hp
end Go.Proofs.Ytpgnebhlnkoajaa

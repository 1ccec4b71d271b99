/-
  Bands: the walk of BandsBack. Conditions: the steps lie as said; they take less than the reach.
-/
import Derived.Test.YtgmojgchbgmkeaaBTurn
import Derived.Test.YtgmojgchbgmkeaaForkG
namespace Go.Proofs.Ytgmojgchbgmkeaa
open Go.ChangeShapes Go.WideShapes Go.ChangeAt Go.RowKit Go.Deep
attribute [local go_sem] Cls

def prS (ops : Nat → OpB) (k : Nat) : Pr := ⟨(ops k).row, (ops k).col, (ops k).t, (ops k).l, (ops k).b, (ops k).r⟩
theorem pb_add_no (bb N : Nat) (O : Nat → Prop) (Ls : List Pr) (t l b r row col : Int) (w : World) (h : PB w bb N O Ls) (hr : rngP ⟨row, col, t, l, b, r⟩) (hno : addB ⟨row, col, t, l, b, r⟩ Ls = false) :
    Calls Try.prog 8 #[.pointer (some ⟨bb, 0, none⟩), .agg #[.int .i64 t, .int .i64 l, .int .i64 b, .int .i64 r], .agg #[.int .i64 row, .int .i64 col]] w fun e w' => e = .returned (.bool false) ∧ Below w.heap.size w w' := by
  obtain ⟨ma, mb, nb, L, F, h, hO, h1, h2, h3, h4⟩ := h
  refine add_no bb ma mb nb L.length L F t l b r row col w h hr ?_
  have hc := of_decide_eq_false hno
  by_cases ho : okP ⟨row, col, t, l, b, r⟩
  · exact .inl (Classical.byContradiction (fun hm => hc ⟨ho, fun hm' => hm ((h4 _).1 hm')⟩))
  · exact .inr ho
theorem addB_addP (p : Pr) (L : List Pr) : addB p (addP p L) = false := by
  refine decide_eq_false (fun h => h.2 ((mem_addP p p L).2 (.inr ⟨h.1, rfl⟩)))
theorem addP_is (p : Pr) (L : List Pr) : (addP p L).length = L.length + (if addB p L = true then 1 else 0) := by
  unfold addB addP
  by_cases h : okP p ∧ p ∉ L
  · rw [if_pos h, if_pos (decide_eq_true h), insP_len]
  · rw [if_neg h, if_neg (by rw [decide_eq_false h]; simp)]; rfl

set_option maxHeartbeats 6400000 in
set_option maxRecDepth 100000 in
theorem bandsBack_walk (A : Option Addr) (len cap : Nat) (ops : Nat → OpB) (row col : Int) (w : World) (hS : ScrB w A len ops) (hlen : len * 56 ≤ 140737488351232) (hrow : i64P row) :
    Calls Try.prog 4 #[.slice A len cap, .agg #[.int .i64 row, .int .i64 col]] w fun e w' => e = .returned (.bool true) ∧ Below w.heap.size w w' := by
  have HROW := Lib.hid hrow
  clear hrow
  go_enter Try.func4, Try.ntmps4
  go_wp2_with fail
  have hc0 := Blk.new w rfl 33 #[.int .i64 row, .int .i64 col]
  have hB0 := bel_alloc (bel_refl w) (.cells #[.int .i64 row, .int .i64 col] 33)
  refine (pb_new _).mono ?_
  rintro e w1 ⟨ba, Oa0, rfl, hPa0, hOa0, hb1⟩
  replace hc0 := hc0.below hb1
  replace hB0 := bel_call hB0 hb1
  have hOa1 : ∀ z, Oa0 z → w.heap.size < z := fun z hz => by have := hOa0 z hz; simp at this; omega
  clear hb1 hOa0
  go_wp2_with fail
  refine (pb_new _).mono ?_
  rintro e w2 ⟨bb, Ob, rfl, hPb0, hOb0, hb1⟩
  have hAB0 : ∀ z, Oa0 z → ¬ Ob z := fun z hz hz' => by have := hPa0.lt z hz; have := hOb0 z hz'; omega
  have hOb : ∀ z, Ob z → w.heap.size < z := fun z hz => by have := hOb0 z hz; have := hc0.lt; omega
  replace hc0 := hc0.below hb1
  replace hB0 := bel_call hB0 hb1
  replace hPa0 := hPa0.below hb1
  clear hb1 hOb0
  go_wp2_with fail
  refine (known_any _).mono ?_
  rintro e w5 ⟨rfl, hb5⟩
  replace hc0 := hc0.below hb5
  replace hB0 := bel_call hB0 hb5
  replace hPa0 := hPa0.below hb5
  replace hPb0 := hPb0.below hb5
  clear hb5
  go_wp2_with fail
  go_loopw [7, 8] (fun s7 s8 wr => ∃ (k : Nat) (Oa : Nat → Prop) (La : List Pr), k ≤ len ∧ s7 = .int .i64 La.length ∧ s8 = .int .i64 k ∧ PB wr ba k Oa La ∧ PB wr bb 0 Ob [] ∧ (∀ z, Oa z → ¬ Ob z) ∧ (∀ z, Oa z → w.heap.size < z) ∧ Blk wr w.heap.size 33 #[.int .i64 row, .int .i64 col] ∧ Below w.heap.size w wr ∧ Hid (∀ x, x ∈ La ↔ ∃ j, j < k ∧ okP (prS ops j) ∧ x = prS ops j)) (fun _ s8 _ => len - (intOf s8).toNat)
  case atStart => exact ⟨0, Oa0, [], Nat.zero_le _, rfl, rfl, hPa0, hPb0, hAB0, hOa1, hc0, hB0, Lib.hid (fun x => by simp)⟩
  case round =>
    obtain ⟨k, Oa, La, hk, rfl, rfl, hPa, hPb, hAB, hOa, hc, hW, HM⟩ := hrel
    clear hPa0 hPb0 hAB0 hOa1 hc0 hB0
    have hln := hPa.len
    by_cases hkl : k < len
    · skip
      obtain ⟨b1, o1, hA1, hb1, ⟨c0, c1, c2, c3, c4, c5, c6⟩, hr⟩ := hS k hkl
      subst hA1
      replace c1 := (hW.cell hb1).trans c1
      replace c2 := (hW.cell hb1).trans c2
      replace c3 := (hW.cell hb1).trans c3
      replace c4 := (hW.cell hb1).trans c4
      replace c5 := (hW.cell hb1).trans c5
      replace c6 := (hW.cell hb1).trans c6
      have HPK : Hid (prS ops k = (⟨(ops k).row, (ops k).col, (ops k).t, (ops k).l, (ops k).b, (ops k).r⟩ : Pr)) := Lib.hid rfl
      have HR := Lib.hid hr
      clear c0 hr
      generalize (ops k).t = t at *
      generalize (ops k).l = l at *
      generalize (ops k).b = b at *
      generalize (ops k).r = r at *
      generalize (ops k).row = row2 at *
      generalize (ops k).col = col2 at *
      have i0 : (0 : Int) ≤ (k : Int) := by omega
      have i1 : (k : Int) < (len : Int) := by omega
      go_wp2_with fail
      obtain ⟨S, hSS⟩ : ∃ S : World → Prop, S = fun w' => ∀ o, w'.cell? ⟨b1, o, none⟩ = wr.cell? ⟨b1, o, none⟩ := ⟨_, rfl⟩
      have q1 := fun x => (held_of hSS x (o1 + k * 7 + 1)).trans c1
      have q2 := fun x => (held_of hSS x (o1 + k * 7 + 2)).trans c2
      have q3 := fun x => (held_of hSS x (o1 + k * 7 + 3)).trans c3
      have q4 := fun x => (held_of hSS x (o1 + k * 7 + 4)).trans c4
      have q5 := fun x => (held_of hSS x (o1 + k * 7 + 5)).trans c5
      have q6 := fun x => (held_of hSS x (o1 + k * 7 + 6)).trans c6
      have HSS := Lib.hid hSS
      have hS0 : S wr.drew := held_in HSS.out (fun o => rfl)
      haveI : Nonempty (Held S) := ⟨⟨_, hS0⟩⟩
      clear hSS
      refine wp_region_tree (S := S) 13 (.q 0 <| .q 1 <| .q 2 <| .q 3 <| .q 4 <| .q 5 <| .q 6 <| .q 7 <| .q 8 <| .q 9 <| .q 10 <| .a 11 <| .q 12 <| .done) [] (by kernel_rfl) (by kernel_rfl) hS0 ?_
      repeat (first | (refine tree_q (by rfl) (by rfl) (fun K hK => ?_); go_simp; refine hK _ ?_; clear hK K) | (refine tree_qg (by rfl) (by rfl) (by rfl) (fun K hK => ?_); go_simp; refine hK _ ?_; clear hK K) | (refine tree_qn (by rfl) (by rfl) (by rfl) rfl ?_; go_simp))
      first | refine tree_a (by rfl) (by rfl) (fun K hK => ?_) | refine tree_ag (by rfl) (by rfl) (by rfl) (fun K hK => ?_)
      go_simp
      refine (pb_add ba k Oa La t l b r row2 col2 _ (hPa.below (bel_drew (bel_refl wr))) HR.out (by omega)).mono ?_
      rintro e w4 ⟨O4, rfl, hP4, hF4, hO4⟩
      have e4 : ∀ o, w4.cell? ⟨b1, o, none⟩ = wr.cell? ⟨b1, o, none⟩ := fun o => hF4.cell (by exact Nat.lt_of_lt_of_le hb1 hW.size) (fun hz => by have := hOa _ hz; omega) o
      have hc4 := hF4.blk hc.drew (fun hz => by have := hOa _ hz; omega)
      have hW4 := hF4.bel (bel_drew hW) (fun z hz => Nat.le_of_lt (hOa z hz))
      have hPb4 := (hPb.below (bel_drew (bel_refl wr))).frm hF4 (fun z hz hz' => hAB z hz' hz)
      have hAB4 : ∀ z, O4 z → ¬ Ob z := fun z hz hz' => (hO4 z hz).elim (fun h => hAB z h hz') (fun h => by have := (hPb.below (bel_drew (bel_refl wr))).lt z hz'; omega)
      have hOa4 : ∀ z, O4 z → w.heap.size < z := fun z hz => (hO4 z hz).elim (hOa z) (fun h => by have := hc.drew.lt; omega)
      refine hK _ _ (held_in HSS.out e4) ?_
      clear hK K
      repeat (first | (refine tree_q (by rfl) (by rfl) (fun K hK => ?_); go_simp; refine hK _ ?_; clear hK K) | (refine tree_qg (by rfl) (by rfl) (by rfl) (fun K hK => ?_); go_simp; refine hK _ ?_; clear hK K) | (refine tree_qn (by rfl) (by rfl) (by rfl) rfl ?_; go_simp))
      refine tree_nil ?_
      clear q1 q2 q3 q4 q5 q6 hS0 HSS
      have HM4 : Hid (∀ x, x ∈ addP ⟨row2, col2, t, l, b, r⟩ La ↔ ∃ j, j < k + 1 ∧ okP (prS ops j) ∧ x = prS ops j) := Lib.hid (fun x => by
        rw [mem_addP, HM.out x]
        constructor
        · rintro (⟨j, h1, h2, h3⟩ | ⟨h1, h2⟩)
          · exact ⟨j, by omega, h2, h3⟩
          · exact ⟨k, by omega, by rw [HPK.out]; exact h1, by rw [HPK.out]; exact h2⟩
        · rintro ⟨j, h1, h2, h3⟩
          rcases Nat.lt_succ_iff_lt_or_eq.1 h1 with h4 | rfl
          · exact .inl ⟨j, h4, h2, h3⟩
          · rw [HPK.out] at h2 h3
            exact .inr ⟨h2, h3⟩)
      have hlen4 := addP_is ⟨row2, col2, t, l, b, r⟩ La
      have hz4 : IntKind.i64.wrap ((La.length : Int) + 1) = (La.length : Int) + 1 := IntWalk.i64_in _ (by omega)
      obtain ⟨v, hv⟩ : ∃ v, v = addB ⟨row2, col2, t, l, b, r⟩ La := ⟨_, rfl⟩
      rw [← hv] at hlen4 ⊢
      clear hv
      cases v with
      | true =>
        have HLEN : Hid ((addP ⟨row2, col2, t, l, b, r⟩ La).length = La.length + 1) := Lib.hid (by rw [hlen4]; rfl)
        clear hlen4
        go_wp2_with fail
        obtain ⟨S, hSS⟩ : ∃ S : World → Prop, S = fun w' => ∀ o, w'.cell? ⟨b1, o, none⟩ = wr.cell? ⟨b1, o, none⟩ := ⟨_, rfl⟩
        have q1 := fun x => (held_of hSS x (o1 + k * 7 + 1)).trans c1
        have q2 := fun x => (held_of hSS x (o1 + k * 7 + 2)).trans c2
        have q3 := fun x => (held_of hSS x (o1 + k * 7 + 3)).trans c3
        have q4 := fun x => (held_of hSS x (o1 + k * 7 + 4)).trans c4
        have q5 := fun x => (held_of hSS x (o1 + k * 7 + 5)).trans c5
        have q6 := fun x => (held_of hSS x (o1 + k * 7 + 6)).trans c6
        have HSS := Lib.hid hSS
        have hS0 : S w4.drew := held_in HSS.out (fun o => e4 o)
        haveI : Nonempty (Held S) := ⟨⟨_, hS0⟩⟩
        clear hSS
        refine wp_region_tree (S := S) 17 (.q 0 <| .q 1 <| .q 2 <| .q 3 <| .q 4 <| .q 5 <| .q 6 <| .q 7 <| .q 8 <| .q 9 <| .q 10 <| .q 11 <| .a 12 <| .q 13 <| .q 14 <| .q 15 <| .q 16 <| .done) [] (by kernel_rfl) (by kernel_rfl) hS0 ?_
        repeat (first | (refine tree_q (by rfl) (by rfl) (fun K hK => ?_); go_simp; refine hK _ ?_; clear hK K) | (refine tree_qg (by rfl) (by rfl) (by rfl) (fun K hK => ?_); go_simp; refine hK _ ?_; clear hK K) | (refine tree_qn (by rfl) (by rfl) (by rfl) rfl ?_; go_simp))
        first | refine tree_a (by rfl) (by rfl) (fun K hK => ?_) | refine tree_ag (by rfl) (by rfl) (by rfl) (fun K hK => ?_)
        go_simp
        refine (pb_add_no ba (k + 1) O4 _ t l b r row2 col2 _ (hP4.below (bel_drew (bel_refl w4))) HR.out (addB_addP _ _)).mono ?_
        rintro e w5 ⟨rfl, hb5⟩
        have hb5' := bel_call (bel_drew (bel_refl w4)) hb5
        refine hK _ _ (held_in HSS.out (fun o => (hb5'.cell (p := ⟨b1, o, none⟩) (by exact Nat.lt_of_lt_of_le hb1 hW4.size)).trans (e4 o))) ?_
        clear hK K
        repeat (first | (refine tree_q (by rfl) (by rfl) (fun K hK => ?_); go_simp; refine hK _ ?_; clear hK K) | (refine tree_qg (by rfl) (by rfl) (by rfl) (fun K hK => ?_); go_simp; refine hK _ ?_; clear hK K) | (refine tree_qn (by rfl) (by rfl) (by rfl) rfl ?_; go_simp))
        refine tree_nil ?_
        clear q1 q2 q3 q4 q5 q6 hS0 HSS
        go_wp2_with fail
        go_roundw
        case rel => exact ⟨k + 1, O4, addP ⟨row2, col2, t, l, b, r⟩ La, by omega, by rw [HLEN.out]; try go_num, by go_num, hP4.below hb5', hPb4.below hb5', hAB4, hOa4, hc4.below hb5', bel_call hW4 hb5', HM4⟩
        case measure => simp [intOf]; omega
      | false =>
        have HLEN : Hid ((addP ⟨row2, col2, t, l, b, r⟩ La).length = La.length) := Lib.hid (by rw [hlen4]; rfl)
        clear hlen4
        go_wp2_with fail
        obtain ⟨S, hSS⟩ : ∃ S : World → Prop, S = fun w' => ∀ o, w'.cell? ⟨b1, o, none⟩ = wr.cell? ⟨b1, o, none⟩ := ⟨_, rfl⟩
        have q1 := fun x => (held_of hSS x (o1 + k * 7 + 1)).trans c1
        have q2 := fun x => (held_of hSS x (o1 + k * 7 + 2)).trans c2
        have q3 := fun x => (held_of hSS x (o1 + k * 7 + 3)).trans c3
        have q4 := fun x => (held_of hSS x (o1 + k * 7 + 4)).trans c4
        have q5 := fun x => (held_of hSS x (o1 + k * 7 + 5)).trans c5
        have q6 := fun x => (held_of hSS x (o1 + k * 7 + 6)).trans c6
        have HSS := Lib.hid hSS
        have hS0 : S w4.drew := held_in HSS.out (fun o => e4 o)
        haveI : Nonempty (Held S) := ⟨⟨_, hS0⟩⟩
        clear hSS
        refine wp_region_tree (S := S) 17 (.q 0 <| .q 1 <| .q 2 <| .q 3 <| .q 4 <| .q 5 <| .q 6 <| .q 7 <| .q 8 <| .q 9 <| .q 10 <| .q 11 <| .a 12 <| .q 13 <| .q 14 <| .q 15 <| .q 16 <| .done) [] (by kernel_rfl) (by kernel_rfl) hS0 ?_
        repeat (first | (refine tree_q (by rfl) (by rfl) (fun K hK => ?_); go_simp; refine hK _ ?_; clear hK K) | (refine tree_qg (by rfl) (by rfl) (by rfl) (fun K hK => ?_); go_simp; refine hK _ ?_; clear hK K) | (refine tree_qn (by rfl) (by rfl) (by rfl) rfl ?_; go_simp))
        first | refine tree_a (by rfl) (by rfl) (fun K hK => ?_) | refine tree_ag (by rfl) (by rfl) (by rfl) (fun K hK => ?_)
        go_simp
        refine (pb_add_no ba (k + 1) O4 _ t l b r row2 col2 _ (hP4.below (bel_drew (bel_refl w4))) HR.out (addB_addP _ _)).mono ?_
        rintro e w5 ⟨rfl, hb5⟩
        have hb5' := bel_call (bel_drew (bel_refl w4)) hb5
        refine hK _ _ (held_in HSS.out (fun o => (hb5'.cell (p := ⟨b1, o, none⟩) (by exact Nat.lt_of_lt_of_le hb1 hW4.size)).trans (e4 o))) ?_
        clear hK K
        repeat (first | (refine tree_q (by rfl) (by rfl) (fun K hK => ?_); go_simp; refine hK _ ?_; clear hK K) | (refine tree_qg (by rfl) (by rfl) (by rfl) (fun K hK => ?_); go_simp; refine hK _ ?_; clear hK K) | (refine tree_qn (by rfl) (by rfl) (by rfl) rfl ?_; go_simp))
        refine tree_nil ?_
        clear q1 q2 q3 q4 q5 q6 hS0 HSS
        go_wp2_with fail
        go_roundw
        case rel => exact ⟨k + 1, O4, addP ⟨row2, col2, t, l, b, r⟩ La, by omega, by rw [HLEN.out]; try go_num, by go_num, hP4.below hb5', hPb4.below hb5', hAB4, hOa4, hc4.below hb5', bel_call hW4 hb5', HM4⟩
        case measure => simp [intOf]; omega
    obtain rfl : k = len := by omega
    have i1 : ¬ ((k : Int) < (k : Int)) := by omega
    have hz3 : IntKind.i64.wrap ((k : Int) - 1) = (k : Int) - 1 := IntWalk.i64_in _ (by omega)
    have HMA := HM
    clear HM hkl
    go_wp2_with fail
    generalize k = len at *
    have hPb0 := hPb
    have hAB0 := hAB
    have hc0 := hc
    have hW0 := hW
    have hPa0 := hPa
    have hOb0 := hOb
    clear hPb hAB hc hW hPa hOb i1 hz3 hln
    go_loopw [10] (fun s10 wr => ∃ (m k : Nat) (Ob : Nat → Prop) (Lb : List Pr), m + k = len ∧ s10 = .int .i64 ((m : Int) - 1) ∧ PB wr ba len Oa La ∧ PB wr bb k Ob Lb ∧ (∀ z, Oa z → ¬ Ob z) ∧ (∀ z, Ob z → w.heap.size < z) ∧ Blk wr w.heap.size 33 #[.int .i64 row, .int .i64 col] ∧ Below w.heap.size w wr ∧ Hid (∀ x, x ∈ Lb ↔ ∃ j, m ≤ j ∧ j < len ∧ okP (prS ops j) ∧ x = prS ops j)) (fun s10 _ => (intOf s10 + 1).toNat)
    case atStart => exact ⟨len, 0, Ob, [], rfl, rfl, hPa0, hPb0, hAB0, hOb0, hc0, hW0, Lib.hid (fun x => ⟨fun h => (by cases h), fun ⟨j, h1, h2, _⟩ => by omega⟩)⟩
    case round =>
      obtain ⟨m, k, Ob, Lb, hmk, rfl, hPa, hPb, hAB, hOb, hc, hW, HM⟩ := hrel
      clear hPb0 hAB0 hc0 hW0 hPa0 hOb0
      have hln := hPb.len
      cases m with
      | succ m =>
        have hkl : m < len := by omega
        have em : ((m + 1 : Nat) : Int) - 1 = (m : Int) := by omega
        rw [em]
        clear em
        obtain ⟨b1, o1, hA1, hb1, ⟨c0, c1, c2, c3, c4, c5, c6⟩, hr⟩ := hS m hkl
        subst hA1
        replace c1 := (hW.cell hb1).trans c1
        replace c2 := (hW.cell hb1).trans c2
        replace c3 := (hW.cell hb1).trans c3
        replace c4 := (hW.cell hb1).trans c4
        replace c5 := (hW.cell hb1).trans c5
        replace c6 := (hW.cell hb1).trans c6
        have HPK : Hid (prS ops m = (⟨(ops m).row, (ops m).col, (ops m).t, (ops m).l, (ops m).b, (ops m).r⟩ : Pr)) := Lib.hid rfl
        have HR := Lib.hid hr
        clear c0 hr
        generalize (ops m).t = t at *
        generalize (ops m).l = l at *
        generalize (ops m).b = b at *
        generalize (ops m).r = r at *
        generalize (ops m).row = row2 at *
        generalize (ops m).col = col2 at *
        have i0 : (0 : Int) ≤ (m : Int) := by omega
        have i1 : (m : Int) < (len : Int) := by omega
        have hz4 : IntKind.i64.wrap ((m : Int) - 1) = (m : Int) - 1 := IntWalk.i64_in _ (by omega)
        go_wp2_with fail
        obtain ⟨S, hSS⟩ : ∃ S : World → Prop, S = fun w' => ∀ o, w'.cell? ⟨b1, o, none⟩ = wr.cell? ⟨b1, o, none⟩ := ⟨_, rfl⟩
        have q1 := fun x => (held_of hSS x (o1 + m * 7 + 1)).trans c1
        have q2 := fun x => (held_of hSS x (o1 + m * 7 + 2)).trans c2
        have q3 := fun x => (held_of hSS x (o1 + m * 7 + 3)).trans c3
        have q4 := fun x => (held_of hSS x (o1 + m * 7 + 4)).trans c4
        have q5 := fun x => (held_of hSS x (o1 + m * 7 + 5)).trans c5
        have q6 := fun x => (held_of hSS x (o1 + m * 7 + 6)).trans c6
        have HSS := Lib.hid hSS
        have hS0 : S wr.drew := held_in HSS.out (fun o => rfl)
        haveI : Nonempty (Held S) := ⟨⟨_, hS0⟩⟩
        clear hSS
        refine wp_region_tree (S := S) 12 (.q 0 <| .q 1 <| .q 2 <| .q 3 <| .q 4 <| .q 5 <| .q 6 <| .q 7 <| .q 8 <| .q 9 <| .q 10 <| .a 11 <| .done) [] (by kernel_rfl) (by kernel_rfl) hS0 ?_
        repeat (first | (refine tree_q (by rfl) (by rfl) (fun K hK => ?_); go_simp; refine hK _ ?_; clear hK K) | (refine tree_qg (by rfl) (by rfl) (by rfl) (fun K hK => ?_); go_simp; refine hK _ ?_; clear hK K) | (refine tree_qn (by rfl) (by rfl) (by rfl) rfl ?_; go_simp))
        first | refine tree_a (by rfl) (by rfl) (fun K hK => ?_) | refine tree_ag (by rfl) (by rfl) (by rfl) (fun K hK => ?_)
        go_simp
        refine (pb_add bb k Ob Lb t l b r row2 col2 _ (hPb.below (bel_drew (bel_refl wr))) HR.out (by omega)).mono ?_
        rintro e w4 ⟨O4, rfl, hP4, hF4, hO4⟩
        have e4 : ∀ o, w4.cell? ⟨b1, o, none⟩ = wr.cell? ⟨b1, o, none⟩ := fun o => hF4.cell (by exact Nat.lt_of_lt_of_le hb1 hW.size) (fun hz => by have := hOb _ hz; omega) o
        have hc4 := hF4.blk hc.drew (fun hz => by have := hOb _ hz; omega)
        have hW4 := hF4.bel (bel_drew hW) (fun z hz => Nat.le_of_lt (hOb z hz))
        have hPa4 := (hPa.below (bel_drew (bel_refl wr))).frm hF4 (fun z hz hz' => hAB z hz hz')
        have hAB4 : ∀ z, Oa z → ¬ O4 z := fun z hz hz' => (hO4 z hz').elim (fun h => hAB z hz h) (fun h => by have := (hPa.below (bel_drew (bel_refl wr))).lt z hz; omega)
        have hOb4 : ∀ z, O4 z → w.heap.size < z := fun z hz => (hO4 z hz).elim (hOb z) (fun h => by have := hc.drew.lt; omega)
        refine hK _ _ (held_in HSS.out e4) ?_
        clear hK K
        repeat (first | (refine tree_q (by rfl) (by rfl) (fun K hK => ?_); go_simp; refine hK _ ?_; clear hK K) | (refine tree_qg (by rfl) (by rfl) (by rfl) (fun K hK => ?_); go_simp; refine hK _ ?_; clear hK K) | (refine tree_qn (by rfl) (by rfl) (by rfl) rfl ?_; go_simp))
        refine tree_nil ?_
        clear q1 q2 q3 q4 q5 q6 hS0 HSS
        have HM4 : Hid (∀ x, x ∈ addP ⟨row2, col2, t, l, b, r⟩ Lb ↔ ∃ j, m ≤ j ∧ j < len ∧ okP (prS ops j) ∧ x = prS ops j) := Lib.hid (fun x => by
          rw [mem_addP, HM.out x]
          constructor
          · rintro (⟨j, h1, h2, h3, h4⟩ | ⟨h1, h2⟩)
            · exact ⟨j, by omega, h2, h3, h4⟩
            · exact ⟨m, by omega, hkl, by rw [HPK.out]; exact h1, by rw [HPK.out]; exact h2⟩
          · rintro ⟨j, h1, h2, h3, h4⟩
            rcases Nat.eq_or_lt_of_le h1 with rfl | h5
            · rw [HPK.out] at h3 h4
              exact .inr ⟨h3, h4⟩
            · exact .inl ⟨j, h5, h2, h3, h4⟩)
        go_wp2_with fail
        go_roundw
        case rel => exact ⟨m, k + 1, O4, addP ⟨row2, col2, t, l, b, r⟩ Lb, by omega, rfl, hPa4, hP4, hAB4, hOb4, hc4, hW4, HM4⟩
        case measure => simp [intOf]; try omega
      | zero =>
        obtain rfl : Lb = La := srt_ext hPb.srt hPa.srt (fun x => by
          rw [HM.out x, HMA.out x]
          exact ⟨fun ⟨j, _, h⟩ => ⟨j, h⟩, fun ⟨j, h⟩ => ⟨j, Nat.zero_le _, h⟩⟩)
        obtain rfl : k = len := by omega
        generalize Lb = La at *
        generalize k = len at *
        rw [show ((0 : Nat) : Int) - 1 = -1 from rfl]
        clear HM
        go_wp2_with fail
        obtain ⟨S, hSS⟩ : ∃ S : World → Prop, S = fun w' => Blk w' w.heap.size 33 #[.int .i64 row, .int .i64 col] ∧ Blk w' w.heap.size 33 #[.int .i64 row, .int .i64 col] := ⟨_, rfl⟩
        have q0 := fun x => (held_of hSS x).1.rd
        have HSS := Lib.hid hSS
        have hS0 : S wr.drew := held_in HSS.out ⟨hc.drew, hc.drew⟩
        haveI : Nonempty (Held S) := ⟨⟨_, hS0⟩⟩
        clear hSS
        refine wp_region_tree (S := S) 23 (.q 0 <| .q 3 <| .a 1 <| .q 2 <| .q 4 <| .q 5 <| .q 6 <| .q 8 <| .a 7 <| .a 9 <| .a 10 <| .q 11 <| .q 12 <| .q 13 <| .q 14 <| .q 15 <| .q 17 <| .q 18 <| .a 16 <| .a 19 <| .a 20 <| .q 21 <| .q 22 <| .done) [] (by kernel_rfl) (by kernel_rfl) hS0 ?_
        have h0 : Below wr.heap.size wr wr.drew := (bel_drew (bel_refl wr))
        repeat (first | (refine tree_q (by rfl) (by rfl) (fun K hK => ?_); go_simp; refine hK _ ?_; clear hK K) | (refine tree_qg (by rfl) (by rfl) (by rfl) (fun K hK => ?_); go_simp; refine hK _ ?_; clear hK K) | (refine tree_qn (by rfl) (by rfl) (by rfl) rfl ?_; go_simp))
        first | refine tree_a (by rfl) (by rfl) (fun K hK => ?_) | refine tree_ag (by rfl) (by rfl) (by rfl) (fun K hK => ?_)
        go_simp
        refine (pb_all ba len Oa La _ (hPa.below h0) (by omega)).mono ?_
        rintro e w1 ⟨A1, rfl, hl1, ho1, hb1⟩
        have h1 := bel_call h0 hb1
        refine hK _ _ (held_in HSS.out ⟨hc.below h1, hc.below h1⟩) ?_
        clear hK K
        repeat (first | (refine tree_q (by rfl) (by rfl) (fun K hK => ?_); go_simp; refine hK _ ?_; clear hK K) | (refine tree_qg (by rfl) (by rfl) (by rfl) (fun K hK => ?_); go_simp; refine hK _ ?_; clear hK K) | (refine tree_qn (by rfl) (by rfl) (by rfl) rfl ?_; go_simp))
        first | refine tree_a (by rfl) (by rfl) (fun K hK => ?_) | refine tree_ag (by rfl) (by rfl) (by rfl) (fun K hK => ?_)
        go_simp
        refine (pb_all ba len Oa La _ (hPa.below h1) (by omega)).mono ?_
        rintro e w2 ⟨A2, rfl, hl2, ho2, hb2⟩
        have h2 := bel_call h1 hb2
        refine hK _ _ (held_in HSS.out ⟨hc.below h2, hc.below h2⟩) ?_
        clear hK K
        repeat (first | (refine tree_q (by rfl) (by rfl) (fun K hK => ?_); go_simp; refine hK _ ?_; clear hK K) | (refine tree_qg (by rfl) (by rfl) (by rfl) (fun K hK => ?_); go_simp; refine hK _ ?_; clear hK K) | (refine tree_qn (by rfl) (by rfl) (by rfl) rfl ?_; go_simp))
        first | refine tree_a (by rfl) (by rfl) (fun K hK => ?_) | refine tree_ag (by rfl) (by rfl) (by rfl) (fun K hK => ?_)
        go_simp
        refine (pb_all bb len Ob La _ (hPb.below h2) (by omega)).mono ?_
        rintro e w3 ⟨A3, rfl, hl3, ho3, hb3⟩
        have h3 := bel_call h2 hb3
        refine hK _ _ (held_in HSS.out ⟨hc.below h3, hc.below h3⟩) ?_
        clear hK K
        repeat (first | (refine tree_q (by rfl) (by rfl) (fun K hK => ?_); go_simp; refine hK _ ?_; clear hK K) | (refine tree_qg (by rfl) (by rfl) (by rfl) (fun K hK => ?_); go_simp; refine hK _ ?_; clear hK K) | (refine tree_qn (by rfl) (by rfl) (by rfl) rfl ?_; go_simp))
        first | refine tree_a (by rfl) (by rfl) (fun K hK => ?_) | refine tree_ag (by rfl) (by rfl) (by rfl) (fun K hK => ?_)
        go_simp
        refine (edges_any La A2 A3 La.length La.length _ (hl2.below hb3) (ho2.imp id (fun ⟨g, cur, h1, h2, h3, h4⟩ => ⟨g, cur, h1, h3.below hb3, h4⟩)) hl3 (fun b' off g h1 h2 => ?_) (by have := hPa.len; omega)).mono ?_
        · rcases ho2 with h | ⟨g4, cur, h3, h4, h5, _⟩
          · rw [h] at h2; cases h2
          · rw [h3] at h2
            injection h2 with h2
            injection h2 with h2 _ _
            rcases ho3 with h | ⟨g5, cur5, h6, h7, _⟩
            · rw [h] at h1; cases h1
            · rw [h6] at h1
              injection h1 with h1
              injection h1 with h1 _ _
              have := h5.lt
              omega
        rintro e w4 ⟨rfl, hF4⟩
        have h4 : Below wr.heap.size wr w4 := hF4.bel h3 (fun z hz => by
          rcases ho2 with h | ⟨g4, cur, h3, h10, h5, _⟩
          · rw [h] at hz; cases hz
          · rw [h3] at hz
            injection hz with hz
            injection hz with hz _ _
            have h9 := h1.size
            have h8 : _ ≤ g4 := h10
            omega)
        refine hK _ _ (held_in HSS.out ⟨hc.below h4, hc.below h4⟩) ?_
        clear hK K
        repeat (first | (refine tree_q (by rfl) (by rfl) (fun K hK => ?_); go_simp; refine hK _ ?_; clear hK K) | (refine tree_qg (by rfl) (by rfl) (by rfl) (fun K hK => ?_); go_simp; refine hK _ ?_; clear hK K) | (refine tree_qn (by rfl) (by rfl) (by rfl) rfl ?_; go_simp))
        first | refine tree_a (by rfl) (by rfl) (fun K hK => ?_) | refine tree_ag (by rfl) (by rfl) (by rfl) (fun K hK => ?_)
        go_simp
        refine (pb_over ba len Oa La row col _ (hPa.below h4) HROW.out (by omega)).mono ?_
        rintro e w6 ⟨A6, rfl, hl6, ho6, hb6⟩
        have h6 := bel_call h4 hb6
        refine hK _ _ (held_in HSS.out ⟨hc.below h6, hc.below h6⟩) ?_
        clear hK K
        repeat (first | (refine tree_q (by rfl) (by rfl) (fun K hK => ?_); go_simp; refine hK _ ?_; clear hK K) | (refine tree_qg (by rfl) (by rfl) (by rfl) (fun K hK => ?_); go_simp; refine hK _ ?_; clear hK K) | (refine tree_qn (by rfl) (by rfl) (by rfl) rfl ?_; go_simp))
        first | refine tree_a (by rfl) (by rfl) (fun K hK => ?_) | refine tree_ag (by rfl) (by rfl) (by rfl) (fun K hK => ?_)
        go_simp
        refine (pb_over bb len Ob La row col _ (hPb.below h6) HROW.out (by omega)).mono ?_
        rintro e w7 ⟨A7, rfl, hl7, ho7, hb7⟩
        have h7 := bel_call h6 hb7
        refine hK _ _ (held_in HSS.out ⟨hc.below h7, hc.below h7⟩) ?_
        clear hK K
        repeat (first | (refine tree_q (by rfl) (by rfl) (fun K hK => ?_); go_simp; refine hK _ ?_; clear hK K) | (refine tree_qg (by rfl) (by rfl) (by rfl) (fun K hK => ?_); go_simp; refine hK _ ?_; clear hK K) | (refine tree_qn (by rfl) (by rfl) (by rfl) rfl ?_; go_simp))
        first | refine tree_a (by rfl) (by rfl) (fun K hK => ?_) | refine tree_ag (by rfl) (by rfl) (by rfl) (fun K hK => ?_)
        go_simp
        refine (cells_any (ovs row col La) A6 A7 (ovs row col La).length (ovs row col La).length _ (hl6.below hb7) (ho6.imp id (fun ⟨g, cur, h1, h2, h3, h4⟩ => ⟨g, cur, h1, h3.below hb7, h4⟩)) hl7 (fun b' off g h1 h2 => ?_) (by have := hPa.len; have := ovs_len row col La []; unfold ovs; simp at this; omega)).mono ?_
        · rcases ho6 with h | ⟨g4, cur, h3, h4, h5, _⟩
          · rw [h] at h2; cases h2
          · rw [h3] at h2
            injection h2 with h2
            injection h2 with h2 _ _
            rcases ho7 with h | ⟨g5, cur5, h6, h7, _⟩
            · rw [h] at h1; cases h1
            · rw [h6] at h1
              injection h1 with h1
              injection h1 with h1 _ _
              have := h5.lt
              omega
        rintro e w8 ⟨rfl, hF8⟩
        have h8 : Below wr.heap.size wr w8 := hF8.bel h7 (fun z hz => by
          rcases ho6 with h | ⟨g4, cur, h3, h10, h5, _⟩
          · rw [h] at hz; cases hz
          · rw [h3] at hz
            injection hz with hz
            injection hz with hz _ _
            have h9 := h4.size
            have h8 : _ ≤ g4 := h10
            omega)
        refine hK _ _ (held_in HSS.out ⟨hc.below h8, hc.below h8⟩) ?_
        clear hK K
        repeat (first | (refine tree_q (by rfl) (by rfl) (fun K hK => ?_); go_simp; refine hK _ ?_; clear hK K) | (refine tree_qg (by rfl) (by rfl) (by rfl) (fun K hK => ?_); go_simp; refine hK _ ?_; clear hK K) | (refine tree_qn (by rfl) (by rfl) (by rfl) rfl ?_; go_simp))
        refine tree_nil ?_
        clear q0 hS0 HSS
        have hPc0 := hPa.below h8
        have hc0 := hc.below h8
        have hW0 := bel_call hW h8
        clear hPa hPb hc hW h0 h1 h2 h3 h4 h6 h7 h8 hl1 ho1 hb1 hl2 ho2 hb2 hl3 ho3 hb3 hF4 hl6 ho6 hb6 hl7 ho7 hb7 hF8 hln hAB hmk
        go_wp2_with fail
        go_loopw [7, 11] (fun s7 s11 wr => ∃ (k : Nat) (Oc : Nat → Prop) (Lr : List Pr), k ≤ len ∧ s7 = .int .i64 Lr.length ∧ s11 = .int .i64 k ∧ PB wr ba len Oc Lr ∧ (∀ z, Oc z → w.heap.size < z) ∧ Blk wr w.heap.size 33 #[.int .i64 row, .int .i64 col] ∧ Below w.heap.size w wr ∧ Hid (∀ x, x ∈ Lr ↔ x ∈ La ∧ ∀ j, j < k → x ≠ prS ops j)) (fun _ s11 _ => len - (intOf s11).toNat)
        case atStart => exact ⟨0, Oa, La, Nat.zero_le _, rfl, rfl, hPc0, hOa, hc0, hW0, Lib.hid (fun x => ⟨fun h => ⟨h, fun j hj => absurd hj (Nat.not_lt_zero _)⟩, fun h => h.1⟩)⟩
        case round =>
          obtain ⟨k, Oc, Lr, hk, rfl, rfl, hPc, hOc, hc, hW, HM⟩ := hrel
          clear hPc0 hc0 hW0
          by_cases hkl : k < len
          · skip
            obtain ⟨b1, o1, hA1, hb1, ⟨c0, c1, c2, c3, c4, c5, c6⟩, hr⟩ := hS k hkl
            subst hA1
            replace c1 := (hW.cell hb1).trans c1
            replace c2 := (hW.cell hb1).trans c2
            replace c3 := (hW.cell hb1).trans c3
            replace c4 := (hW.cell hb1).trans c4
            replace c5 := (hW.cell hb1).trans c5
            replace c6 := (hW.cell hb1).trans c6
            have HPK : Hid (prS ops k = (⟨(ops k).row, (ops k).col, (ops k).t, (ops k).l, (ops k).b, (ops k).r⟩ : Pr)) := Lib.hid rfl
            have HR := Lib.hid hr
            clear c0 hr
            generalize (ops k).t = t at *
            generalize (ops k).l = l at *
            generalize (ops k).b = b at *
            generalize (ops k).r = r at *
            generalize (ops k).row = row2 at *
            generalize (ops k).col = col2 at *
            have i0 : (0 : Int) ≤ (k : Int) := by omega
            have i1 : (k : Int) < (len : Int) := by omega
            go_wp2_with fail
            obtain ⟨S, hSS⟩ : ∃ S : World → Prop, S = fun w' => ∀ o, w'.cell? ⟨b1, o, none⟩ = wr.cell? ⟨b1, o, none⟩ := ⟨_, rfl⟩
            have q1 := fun x => (held_of hSS x (o1 + k * 7 + 1)).trans c1
            have q2 := fun x => (held_of hSS x (o1 + k * 7 + 2)).trans c2
            have q3 := fun x => (held_of hSS x (o1 + k * 7 + 3)).trans c3
            have q4 := fun x => (held_of hSS x (o1 + k * 7 + 4)).trans c4
            have q5 := fun x => (held_of hSS x (o1 + k * 7 + 5)).trans c5
            have q6 := fun x => (held_of hSS x (o1 + k * 7 + 6)).trans c6
            have HSS := Lib.hid hSS
            have hS0 : S wr.drew := held_in HSS.out (fun o => rfl)
            haveI : Nonempty (Held S) := ⟨⟨_, hS0⟩⟩
            clear hSS
            refine wp_region_tree (S := S) 13 (.q 0 <| .q 1 <| .q 2 <| .q 3 <| .q 4 <| .q 5 <| .q 6 <| .q 7 <| .q 8 <| .q 9 <| .q 10 <| .a 11 <| .q 12 <| .done) [] (by kernel_rfl) (by kernel_rfl) hS0 ?_
            repeat (first | (refine tree_q (by rfl) (by rfl) (fun K hK => ?_); go_simp; refine hK _ ?_; clear hK K) | (refine tree_qg (by rfl) (by rfl) (by rfl) (fun K hK => ?_); go_simp; refine hK _ ?_; clear hK K) | (refine tree_qn (by rfl) (by rfl) (by rfl) rfl ?_; go_simp))
            first | refine tree_a (by rfl) (by rfl) (fun K hK => ?_) | refine tree_ag (by rfl) (by rfl) (by rfl) (fun K hK => ?_)
            go_simp
            refine (pb_rem ba len Oc Lr t l b r row2 col2 _ (hPc.below (bel_drew (bel_refl wr))) HR.out).mono ?_
            rintro e w4 ⟨O4, rfl, hP4, hF4, hO4⟩
            have e4 : ∀ o, w4.cell? ⟨b1, o, none⟩ = wr.cell? ⟨b1, o, none⟩ := fun o => hF4.cell (by exact Nat.lt_of_lt_of_le hb1 hW.size) (fun hz => by have := hOc _ hz; omega) o
            have hc4 := hF4.blk hc.drew (fun hz => by have := hOc _ hz; omega)
            have hW4 := hF4.bel (bel_drew hW) (fun z hz => Nat.le_of_lt (hOc z hz))
            have hOc4 : ∀ z, O4 z → w.heap.size < z := fun z hz => hOc z (hO4 z hz)
            refine hK _ _ (held_in HSS.out e4) ?_
            clear hK K
            repeat (first | (refine tree_q (by rfl) (by rfl) (fun K hK => ?_); go_simp; refine hK _ ?_; clear hK K) | (refine tree_qg (by rfl) (by rfl) (by rfl) (fun K hK => ?_); go_simp; refine hK _ ?_; clear hK K) | (refine tree_qn (by rfl) (by rfl) (by rfl) rfl ?_; go_simp))
            refine tree_nil ?_
            clear q1 q2 q3 q4 q5 q6 hS0 HSS
            have HM4 : Hid (∀ x, x ∈ Lr.erase ⟨row2, col2, t, l, b, r⟩ ↔ x ∈ La ∧ ∀ j, j < k + 1 → x ≠ prS ops j) := Lib.hid (fun x => by
              rw [mem_erase_srt hPc.srt, HM.out x]
              constructor
              · rintro ⟨⟨h1, h2⟩, h3⟩
                refine ⟨h1, fun j hj => ?_⟩
                rcases Nat.lt_succ_iff_lt_or_eq.1 hj with h4 | rfl
                · exact h2 j h4
                · rw [HPK.out]; exact h3
              · rintro ⟨h1, h2⟩
                exact ⟨⟨h1, fun j hj => h2 j (by omega)⟩, by have := h2 k (by omega); rw [HPK.out] at this; exact this⟩)
            have hln := hPc.len
            have hz4 : IntKind.i64.wrap ((Lr.length : Int) - 1) = (Lr.length : Int) - 1 := IntWalk.i64_in _ (by omega)
            by_cases hv : (⟨row2, col2, t, l, b, r⟩ : Pr) ∈ Lr
            · have hpos : 0 < Lr.length := List.length_pos_of_mem hv
              have HLEN : Hid (((Lr.erase ⟨row2, col2, t, l, b, r⟩).length : Int) = (Lr.length : Int) - 1) := Lib.hid (by rw [List.length_erase_of_mem hv]; omega)
              rw [decide_eq_true hv]
              clear hv hpos
              go_wp2_with fail
              go_roundw
              case rel => exact ⟨k + 1, O4, Lr.erase ⟨row2, col2, t, l, b, r⟩, by omega, by rw [HLEN.out]; try go_num, by go_num, hP4, hOc4, hc4, hW4, HM4⟩
              case measure => simp [intOf]; omega
            · have HLEN : Hid (((Lr.erase ⟨row2, col2, t, l, b, r⟩).length : Int) = (Lr.length : Int)) := Lib.hid (by rw [List.erase_of_not_mem hv])
              rw [decide_eq_false hv]
              clear hv
              go_wp2_with fail
              go_roundw
              case rel => exact ⟨k + 1, O4, Lr.erase ⟨row2, col2, t, l, b, r⟩, by omega, by rw [HLEN.out]; try go_num, by go_num, hP4, hOc4, hc4, hW4, HM4⟩
              case measure => simp [intOf]; omega
          obtain rfl : k = len := by omega
          obtain rfl : Lr = [] := by
            rw [List.eq_nil_iff_forall_not_mem]
            intro x hx
            obtain ⟨h1, h2⟩ := (HM.out x).1 hx
            obtain ⟨j, h3, _, h4⟩ := (HMA.out x).1 h1
            exact h2 j h3 h4
          have i1 : ¬ ((k : Int) < (k : Int)) := by omega
          have rdc := hc.rd
          go_wp2_with fail
          refine (pb_all ba k Oc [] _ hPc (by omega)).mono ?_
          rintro e w4 ⟨A4, rfl, _, _, hb4⟩
          replace hPc := hPc.below hb4
          replace hW := bel_call hW hb4
          replace hc := hc.below hb4
          replace rdc := hc.rd
          clear hb4
          go_wp2_with fail
          refine (pb_over ba k Oc [] row col _ hPc HROW.out (by omega)).mono ?_
          rintro e w6 ⟨A6, rfl, _, _, hb6⟩
          replace hW := bel_call hW hb6
          clear hb6 rdc
          rw [show ovs row col [] = [] from rfl]
          go_wp2_with fail
          go_ret
          exact ⟨rfl, hW⟩
end Go.Proofs.Ytgmojgchbgmkeaa

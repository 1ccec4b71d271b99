/-
  Marks: contract of All. Conditions: those of each theorem.
-/
import Derived.Test.YtdionganlmnlkaaMDoc
namespace Go.Proofs.Ytdionganlmnlkaa
open Go.ChangeShapes Go.WideShapes Go.ChangeAt Go.RowKit Go.Deep Go.Sort Go.Lib
attribute [local go_sem] Cls

/-- Marks whose states are what s says. -/
def KMs (s : Cl → Int) : Knd Cl where
  t := 61
  size := 3
  bytes := 24
  enc x := [.int .i64 x.row, .int .i64 x.col, .int .i64 (s x)]
  len _ := rfl
  one x u hu := by
    simp at hu
    rcases hu with rfl | rfl | rfl <;> rfl
  pos := by omega
theorem info_kms (s : Cl → Int) : (Try.prog.info? (KMs s).t).map (fun i => (i.zero, i.size, i.bytes)) = some (some (.agg #[.int .i64 0, .int .i64 0, .int .i64 0]), (KMs s).size, (KMs s).bytes) := info_km
theorem mks_at {w : World} {A : Option Addr} {s : Cl → Int} {L : List Cl} (h : Lies (KMs s) w A L) {i : Nat} {x : Cl} (hx : L[i]? = some x) : ∃ g off, A = some ⟨g, off, none⟩ ∧ g < w.heap.size ∧ w.cell? ⟨g, off + i * 3, none⟩ = some (.int .i64 x.row) ∧ w.cell? ⟨g, off + i * 3 + 1, none⟩ = some (.int .i64 x.col) ∧ w.cell? ⟨g, off + i * 3 + 2, none⟩ = some (.int .i64 (s x)) := by
  obtain ⟨g, off, h1, h2, h3⟩ := h i x hx
  exact ⟨g, off, h1, h2, h3 0 _ rfl, h3 1 _ rfl, h3 2 _ rfl⟩
set_option maxHeartbeats 1600000 in
theorem mord_any (a b s c d t : Int) (w : World) : Calls Try.prog 35 #[.agg #[.int .i64 a, .int .i64 b, .int .i64 s], .agg #[.int .i64 c, .int .i64 d, .int .i64 t]] w fun e w' => e = .returned (.int .i64 (rowI a b c d)) ∧ Gw w w' := by
  obtain ⟨R, hR⟩ : ∃ R, R = rowI a b c d := ⟨_, rfl⟩
  rw [← hR]
  have HR := Lib.hid hR
  clear hR
  go_enter Try.func35, Try.ntmps35
  go_wp2_with fail
  have hB3 := gw_alloc (gw_alloc (gw_refl w) (.cells #[.int .i64 a, .int .i64 b, .int .i64 s] 61)) (.cells #[.int .i64 c, .int .i64 d, .int .i64 t] 61)
  have k2 := (Blk.new w rfl 61 #[.int .i64 a, .int .i64 b, .int .i64 s]).alloc (.cells #[.int .i64 c, .int .i64 d, .int .i64 t] 61)
  have k3 := Blk.new (w.alloc (.cells #[.int .i64 a, .int .i64 b, .int .i64 s] 61)) (g := w.heap.size + 1) (by simp) 61 #[.int .i64 c, .int .i64 d, .int .i64 t]
  generalize hwz : (w.alloc (.cells #[.int .i64 a, .int .i64 b, .int .i64 s] 61)).alloc (.cells #[.int .i64 c, .int .i64 d, .int .i64 t] 61) = w3 at hB3 k2 k3 ⊢
  clear hwz
  obtain ⟨S, hSS⟩ : ∃ S : World → Prop, S = fun W => Blk W w.heap.size 61 #[.int .i64 a, .int .i64 b, .int .i64 s] ∧ Blk W (w.heap.size + 1) 61 #[.int .i64 c, .int .i64 d, .int .i64 t] := ⟨_, rfl⟩
  have q0 := fun x => (held_of hSS x).1.rd
  have q1 := fun x => (held_of hSS x).2.rd
  have HSS := Lib.hid hSS
  have HCL : Hid (∀ W', Blk W' w.heap.size 61 #[.int .i64 a, .int .i64 b, .int .i64 s] ∧ Blk W' (w.heap.size + 1) 61 #[.int .i64 c, .int .i64 d, .int .i64 t] → S W') := Lib.hid (fun W' hB => held_in HSS.out hB)
  have hS0 : S w3.drew := HCL.out _ (⟨k2.drew, k3.drew⟩)
  haveI : Nonempty (Held S) := ⟨⟨_, hS0⟩⟩
  clear hSS
  refine wp_region_tree (S := S) 17 (.q 0 <| .q 1 <| .q 2 <| .q 3 <| .q 4 <| .q 5 <| .q 7 <| .q 8 <| .q 9 <| .q 10 <| .q 11 <| .q 12 <| .a 6 <| .a 13 <| .a 14 <| .a 15 <| .q 16 <| .done) [] (by kernel_rfl) (by kernel_rfl) hS0 ?_
  repeat (refine tree_q (by rfl) (by rfl) (fun K hK => ?_); go_simp; refine hK _ ?_; clear hK K)
  refine tree_a (by rfl) (by rfl) (fun K hK => ?_)
  go_simp
  refine (compare_any a c _).mono ?_
  rintro e w' ⟨rfl, rfl⟩
  refine hK _ _ hS0 ?_
  clear hK K
  repeat (refine tree_q (by rfl) (by rfl) (fun K hK => ?_); go_simp; refine hK _ ?_; clear hK K)
  refine tree_a (by rfl) (by rfl) (fun K hK => ?_)
  go_simp
  refine (compare_any b d _).mono ?_
  rintro e w' ⟨rfl, rfl⟩
  refine hK _ _ hS0 ?_
  clear hK K
  repeat (refine tree_q (by rfl) (by rfl) (fun K hK => ?_); go_simp; refine hK _ ?_; clear hK K)
  obtain ⟨x, hx⟩ : ∃ x, x = cmpI a c := ⟨_, rfl⟩
  obtain ⟨y, hy⟩ : ∃ y, y = cmpI b d := ⟨_, rfl⟩
  have HROW : Hid (R = orI [x, y]) := HR.out.trans (by rw [hx, hy]; rfl)
  rw [← hx, ← hy]
  clear hx hy
  have kl := (Blk.new w3 rfl 3 #[.int .i64 x, .int .i64 y]).drew
  refine tree_a (by rfl) (by rfl) (fun K hK => ?_)
  go_simp
  refine hK _ _ (HCL.out _ ⟨(k2.alloc _).drew, (k3.alloc _).drew⟩) ?_
  clear hK K
  repeat (refine tree_q (by rfl) (by rfl) (fun K hK => ?_); go_simp; refine hK _ ?_; clear hK K)
  refine tree_a (by rfl) (by rfl) (fun K hK => ?_)
  go_simp
  refine (or_any [x, y] w3.heap.size 2 _ (by simp) (fun i z hz => ?_)).mono ?_
  · rw [kl.rd]
    match i, hz with
    | 0, hz => simpa using hz
    | 1, hz => simpa using hz
    | i + 2, hz => simp at hz
  rintro e w' ⟨rfl, rfl⟩
  refine hK _ _ (HCL.out _ ⟨(k2.alloc _).drew, (k3.alloc _).drew⟩) ?_
  clear hK K
  repeat (refine tree_q (by rfl) (by rfl) (fun K hK => ?_); go_simp; refine hK _ ?_; clear hK K)
  refine tree_nil ?_
  clear q0 q1 hS0 HSS HCL
  go_wp2_with fail
  go_ret
  exact ⟨by rw [HROW.out]; rfl, gw_trans hB3 (gw_drew (gw_alloc (gw_refl w3) _))⟩
theorem lays_mark (s : Cl → Int) (blk off size : Nat) (w : World) : CmpLays Try.prog 35 #[] (KMs s).enc 3 cellI blk off size w :=
  fun _ _ _ _ x y => mord_any x.row x.col (s x) y.row y.col (s y) _
theorem srtC_of {L : List Cl} (h : L.Pairwise (fun x y => ¬ ltC y x)) (hn : L.Nodup) : SrtC L := by
  refine List.Pairwise.imp₂ (fun a b h1 h2 => ?_) h hn
  rcases ltC_total a b with h4 | h4 | h4
  · exact h4
  · exact absurd h4 h2
  · exact absurd h4 h1
theorem sortM_any {s : Cl → Int} {w : World} {B : Nat} {v : Value} {L : List Cl} (h : OW (KMs s) w B v L) (hl : L.length < 4611686018427387904) :
    Calls Try.prog 34 #[v, .func (.func 35) #[] #[]] w fun e w' => e = .returned (.tuple #[]) ∧ ∃ M, OW (KMs s) w' B v M ∧ M.Perm L ∧ M.Pairwise (fun x y => ¬ ltC y x) ∧ w.grownBy w' v.ownBlock := by
  obtain ⟨A, c, rfl, hc, hcm, hLi, hA⟩ := h.see
  rcases hA with ⟨rfl, rfl, rfl⟩ | ⟨g, cur, rfl, hg1, hg2, _⟩
  · have hcon := AnyF.slices_SortFunc_none sortMark none 0 (.func (.func 35) #[] #[]) w
    change Calls Try.prog 34 _ _ _ at hcon
    refine hcon.mono fun e w' ⟨he, hw⟩ => ⟨he, [], by rw [hw]; exact h, List.Perm.refl _, List.Pairwise.nil, by rw [hw]; exact grown_refl w _⟩
  · have eg : ∀ args w, (callFunc 35 args).run Try.prog w = .ok (.enter 35 args) w := enters_of Try.func35 (by kernel_rfl) rfl
    have hcon := AnyQ.slices_SortFunc_total sortMark 3 Try.isAgg61 Try.sizeOf61 (KMs s).enc (KMs s).len (KMs s).one cellI swo_cell 35 #[] g 0 c L.toArray w eg (lays_mark s g 0 _ w) (ow_holds h) hg2.lt (by simpa using hl)
      (fun x y h1 h2 => by
        rw [ltOf_cell] at h1 h2
        rcases ltC_total x y with h3 | h3 | h3
        · exact absurd h3 (of_decide_eq_false h1)
        · exact h3
        · exact absurd h3 (of_decide_eq_false h2))
    change Calls Try.prog 34 _ _ _ at hcon
    refine hcon.mono fun e w' ⟨he, n, os, hw⟩ => ⟨he, L.mergeSort (fun x y => !(ltOf cellI) y x), ?_⟩
    have hp := List.mergeSort_perm L (fun x y => !(ltOf cellI) y x)
    obtain ⟨h1, h2⟩ := ow_sorted (n := n) (os := os) h hp.length_eq
    refine ⟨by rw [hw]; exact h1, hp, ?_, by rw [hw]; exact h2⟩
    have hs := List.pairwise_mergeSort (le := fun x y => !(ltOf cellI) y x) (fun a b c h1 h2 => by
      simp only [ltOf_cell, Bool.not_eq_true', decide_eq_false_iff_not] at *
      intro h3
      rcases ltC_total b a with h4 | h4 | h4
      · exact h1 h4
      · subst h4; exact h2 h3
      · exact h2 (ltC_trans h3 h4)) (fun a b => by
      simp only [ltOf_cell, Bool.or_eq_true, Bool.not_eq_true', decide_eq_false_iff_not]
      rcases ltC_total a b with h4 | h4 | h4
      · exact .inl fun h5 => ltC_irrefl _ (ltC_trans h4 h5)
      · subst h4; exact .inl (ltC_irrefl _)
      · exact .inr fun h5 => ltC_irrefl _ (ltC_trans h4 h5)) L
    exact hs.imp fun {a b} h1 => by
      simp only [ltOf_cell, Bool.not_eq_true', decide_eq_false_iff_not] at h1
      exact h1
def stOf (f : Cl → Option Int) : Cl → Int := fun c => (f c).getD 0
/-- What All answers. -/
def MAllIs (w : World) (n : Nat) (f : Cl → Option Int) (e : Ending) (w' : World) : Prop :=
  ∃ v Ls, e = .returned v ∧ OW (KMs (stOf f)) w' w.heap.size v Ls ∧ SrtC Ls ∧ (∀ c, rngC c → (c ∈ Ls ↔ (f c).isSome = true)) ∧ (∀ c, c ∈ Ls → rngC c) ∧ Ls.length ≤ n ∧ Below w.heap.size w w'
set_option maxHeartbeats 6400000 in
set_option maxRecDepth 100000 in
theorem mall_any {mb sm db n : Nat} {pk : Int} {f : Cl → Option Int} {w : World} (h : MM w mb sm db n pk f) (hn : (n + 1) * 24 ≤ 140737488355328) :
    Calls Try.prog 18 #[.pointer (some ⟨mb, 0, none⟩)] w (MAllIs w n f) := by
  obtain ⟨D, hown, hk1, hk2⟩ := h.sts
  have hDn := hown.size_le
  have HK1 := Lib.hid hk1
  have HK2 := Lib.hid hk2
  obtain ⟨s, hs⟩ : ∃ s, s = stOf f := ⟨_, rfl⟩
  have HS := Lib.hid hs
  have rdt := h.top.rd
  have ltt := h.top.lt
  have hfm := h.sts.lt
  clear hk1 hk2 hs
  go_enter Try.func18, Try.ntmps18
  go_wp2_with (at_range; refine wpList_range_own _ rfl _ _ rfl 32 3 law_cell Try.underlying81 heldE sm n D rfl hown ?_; intro w0 hrg0 hg0 hs0)
  go_frame
  clear rdt ltt
  have hB0 := below_of_grown' hg0
  go_loopg [3] (Maps.size D) (fun gk s3 wr => ∃ (out : List Cl) (left : Lit → Bool) (cnt : Nat), cnt ≤ gk ∧ out.length + cnt ≤ n ∧ wr.ranges Try.prog 32 heldE sm w.heap.size n D left cnt ∧ OL (KMs s) wr (w.heap.size + 1) s3 out ∧ out.Nodup ∧ Hid (∀ e, e ∈ out → rngC e ∧ (f e).isSome = true) ∧ Hid (∀ e l, keyOf Try.prog 32 (cellV e) = some l → left l = true → e ∉ out) ∧
      Hid (∀ e l, keyOf Try.prog 32 (cellV e) = some l → (f e).isSome = true → left l = false → e ∈ out) ∧ Hid (∀ l, left l = true → Maps.has D l = true) ∧ Below w.heap.size w wr)
  case atStart => exact ⟨[], _, _, Nat.le_refl _, by simpa using hDn, hrg0, OL.nil _ _, List.nodup_nil, Lib.hid (fun e he => by cases he), Lib.hid (fun e l _ _ he => by cases he), Lib.hid (fun e l hl he h0 => by
    have h1 := MFun.has HK1.out hl
    rw [h0] at h1
    unfold sv at h1
    rw [Option.isSome_map, he] at h1
    cases h1), Lib.hid (fun l hl => hl), hB0⟩
  case round =>
    obtain ⟨out, left, cnt, hcg, hol, hrg, hO, hnd, HIN, HNL, HLF, HSUB, hW⟩ := hrel
    clear hrg0 hg0 hs0 hB0
    go_upto_region 4 with (at_next; refine wp_mfun_next rfl _ rfl law_cell w.heap.size cnt D left HK1.out HK2.out HSUB.out rfl hrg (fun hc0 hl0 => ?_) (fun x v kl w1 cnt1 hrx hkx hlk hfx hrg1 hlt1 hg1 hsz1 hen => ?_))
    · clear hrg
      have HL0 := Lib.hid hl0
      clear hl0 hc0
      go_wp2_with fail
      refine (sortM_any (OW.of_ol hO) (by omega)).mono ?_
      rintro e w5 ⟨rfl, M, hM, hpM, hsM, hg5⟩
      have hB5 := bel_grown hW hg5 (fun z hz => by have := (hO.lt z hz).1; omega)
      have hO5 := hM.low (Nat.le_succ _)
      rw [HS.out] at hO5
      have hfin : MAllIs w n f (.returned _) w5 := ⟨_, M, rfl, hO5, srtC_of hsM (hpM.nodup_iff.2 hnd), fun c hc => by
        rw [hpM.mem_iff]
        obtain ⟨kl, hkl⟩ := key_cell c hc
        exact ⟨fun h => (HIN.out c h).2, fun he => HLF.out c kl hkl he (HL0.out kl)⟩, fun c hc => (HIN.out c (hpM.mem_iff.1 hc)).1, by rw [hpM.length_eq]; omega, hB5⟩
      clear hM hO5 hB5 hpM hsM hg5
      go_wp2_with fail
      go_ret
      exact hfin
    · have hv : v = .int .i64 (s x) ∧ (f x).isSome = true := by
        rw [HS.out]
        unfold sv at hfx
        unfold stOf
        cases hf : f x with
        | none => rw [hf] at hfx; cases hfx
        | some u => rw [hf] at hfx; injection hfx with hfx; exact ⟨hfx.symm, rfl⟩
      obtain ⟨rfl, hfs⟩ := hv
      have hB1 := bel_grown hW hg1 (fun z hz => by injection hz with hz; omega)
      have hO1 := hO.grown hg1 (fun g' hg' e => AP.ne_iter (.inr hO) hrg g' hg' (by injection e with e; exact e.symm))
      have hNO : x ∉ out := HNL.out x kl hkx hlk
      have HIN2 : Hid (∀ e, e ∈ out ++ [x] → rngC e ∧ (f e).isSome = true) := Lib.hid (fun e he => by
        rcases List.mem_append.1 he with h4 | h4
        · exact HIN.out e h4
        · rw [List.mem_singleton.1 h4]; exact ⟨hrx, hfs⟩)
      have hnd2 : (out ++ [x]).Nodup := by
        rw [List.nodup_append]
        refine ⟨hnd, by simp, fun a ha b hb e => ?_⟩
        rw [List.mem_singleton.1 hb] at e
        exact hNO (by rw [← e]; exact ha)
      have HND := Lib.hid hnd2
      have HKX := Lib.hid hkx
      have hen' : (Instr.entry (.pointer (some ⟨w.heap.size, 0, none⟩))).run Try.prog w1 = .ok (.tuple #[.agg #[.int .i64 x.row, .int .i64 x.col], .int .i64 (s x)]) w1 := hen
      have HSUB2 : Hid (∀ l, (left l && !l.sameKey kl) = true → Maps.has D l = true) := Lib.hid (fun l hl => HSUB.out l (by rw [Bool.and_eq_true] at hl; exact hl.1))
      have HNL2 : Hid (∀ e l, keyOf Try.prog 32 (cellV e) = some l → (left l && !l.sameKey kl) = true → e ∉ out ++ [x]) := Lib.hid (fun e l hl h1 he => by
        rcases List.mem_append.1 he with h2 | h2
        · exact HNL.out e l hl (by rw [Bool.and_eq_true] at h1; exact h1.1) h2
        · rw [List.mem_singleton.1 h2, HKX.out] at hl
          injection hl with hl
          rw [← hl, WideAt.sameKey_self (law_cell.key HKX.out)] at h1
          simp at h1)
      have HLF2 : Hid (∀ e l, keyOf Try.prog 32 (cellV e) = some l → (f e).isSome = true → (left l && !l.sameKey kl) = false → e ∈ out ++ [x]) := Lib.hid (fun e l hl he h0 => by
        cases hll : left l with
        | false => exact List.mem_append.2 (.inl (HLF.out e l hl he hll))
        | true =>
          rw [hll, Bool.true_and, Bool.not_eq_false'] at h0
          have := WideAt.sameKey_eq h0
          subst this
          exact List.mem_append.2 (.inr (List.mem_singleton.2 (cellV_inj _ _ (law_cell.inj hl HKX.out)))))
      clear hen hrg hW hg1 hO hkx hlk hfx hNO hnd2 hfs
      go_upto_region 5 with fail
      try rw [← hsz1]
      have kx := Blk.new w1 (g := w1.heap.size) rfl 32 #[.int .i64 x.row, .int .i64 x.col]
      have hO2 := hO1.alloc (.cells #[.int .i64 x.row, .int .i64 x.col] 32)
      have hB2 := bel_alloc hB1 (.cells #[.int .i64 x.row, .int .i64 x.col] 32)
      have hrg2 := hrg1.alloc (.cells #[.int .i64 x.row, .int .i64 x.col] 32)
      generalize hwz : w1.alloc (.cells #[.int .i64 x.row, .int .i64 x.col] 32) = w2 at kx hO2 hB2 hrg2 ⊢
      have hgw : w.heap.size < w1.heap.size := hrg1.lt
      generalize w1.heap.size = gx at kx hgw ⊢
      clear hwz hrg1 hO1 hB1 hsz1 hen'
      have rdk := kx.rd
      have hO6 := hO2.alloc (.cells #[.int .i64 x.row, .int .i64 x.col, .int .i64 (s x)] 61)
      have hrg6 := hrg2.alloc (.cells #[.int .i64 x.row, .int .i64 x.col, .int .i64 (s x)] 61)
      have hB6 := bel_alloc hB2 (.cells #[.int .i64 x.row, .int .i64 x.col, .int .i64 (s x)] 61)
      have hlies : Lies (KMs s) (w2.alloc (.cells #[.int .i64 x.row, .int .i64 x.col, .int .i64 (s x)] 61)) (some ⟨w2.heap.size, 0, none⟩) [x] := Lies.blk (Blk.new w2 rfl 61 #[.int .i64 x.row, .int .i64 x.col, .int .i64 (s x)]) rfl
      have hb0 : out.length + [x].length ≤ n + 1 := by show out.length + 1 ≤ _; omega
      have hb1 : out.length + [x].length ≤ maxLen := by unfold maxLen; omega
      have hb2 : (out.length + [x].length) * (KMs s).bytes ≤ 140737488355328 := bnd_24 hb0 hn
      have hb3 : w.heap.size + 1 ≤ (w2.alloc (.cells #[.int .i64 x.row, .int .i64 x.col, .int .i64 (s x)] 61)).heap.size := hrg6.lt
      go_wp2_with (at_builtin; (refine wp_ol_append (info_kms s) rfl Try.underlying58 rfl _ _ rfl rfl hO6 (M := [x]) (c := 1) rfl rfl hlies hb1 hb2 hb3 ?_); intro v7 w7 hO7 hg7)
      have hB7 := bel_grown hB6 hg7 (fun z hz => by have := (hO6.lt z hz).1; omega)
      have hrg7 := hrg6.kept hg7 (fun e => AP.ne_map (.inr hO6) (mp_own hrg6.owns) _ e.symm rfl) (fun e => AP.ne_iter (.inr hO6) hrg6 _ e.symm rfl)
      go_roundg cnt1
      case measure => omega
      case rel => exact ⟨out ++ [x], _, cnt1, Nat.le_refl _, by rw [List.length_append, List.length_singleton]; omega, hrg7, hO7, HND.out, HIN2, HNL2, HLF2, HSUB2, hB7⟩
end Go.Proofs.Ytdionganlmnlkaa

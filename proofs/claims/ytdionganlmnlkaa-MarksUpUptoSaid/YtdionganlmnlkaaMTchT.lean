/-
  Marks: contract of Touch with a formula. Conditions: those of each theorem.
-/
import Derived.Test.YtdionganlmnlkaaMPush
import Derived.Test.YtdionganlmnlkaaMPure
namespace Go.Proofs.Ytdionganlmnlkaa
open Go.ChangeShapes Go.WideShapes Go.ChangeAt Go.RowKit Go.Deep
attribute [local go_sem] Cls

/-- The end of Touch. -/
def TchIs (w : World) (mb sm db n : Nat) (Es : List Ed) (c : Cl) (fm : Bool) (f0 : Cl → Option Int) (pk : Int) (e : Ending) (w' : World) : Prop :=
  e = .returned (.tuple #[]) ∧ (∃ pk' f', MM w' mb sm db (n + 2 * Es.length + 1) pk' f' ∧ ((mayB c.row c.col = false ∧ f' = f0 ∧ pk' = pk) ∨ (mayB c.row c.col = true ∧ TouchIs Es c fm f0 f' pk'))) ∧ Frm (fun z => z = mb ∨ z = sm) w w'
theorem ow_lies {α : Type} {K : Knd α} {w : World} {B n c : Nat} {A : Option Addr} {L : List α} (h : OW K w B (.slice A n c) L) : Lies K w A L := by
  obtain ⟨A', c', hv, _, _, h2, _⟩ := h.see
  injection hv with e1 _ _
  rw [e1]
  exact h2
theorem ol_cell_ty {w : World} {B : Nat} {v : Value} {L : List Cl} (h : OL KC w B v L) {g : Nat} (hg : v.ownBlock = some g) {u : TypeId} {cs : Array Value} (hb : Blk w g u cs) : u = 32 := by
  obtain ⟨cur, hc⟩ := h.type g hg
  have hc' : Blk w g KC.t cur := hc
  exact (Blk.same hc' hb).symm
set_option maxHeartbeats 12800000 in
set_option maxRecDepth 100000 in
theorem mtouch_t {mb sm db n N : Nat} {pk : Int} {f0 : Cl → Option Int} {Ow : Nat → Prop} {Es : List Ed} (row col : Int) {w : World} (h : MM w mb sm db n pk f0) (hd : DS w db N Ow Es) (hN : N ≤ 1099511627776) (ho1 : ¬ Ow mb) (ho2 : ¬ Ow sm) (hrc : rngC ⟨row, col⟩) (hn : n < 2305843009213693952) :
    Calls Try.prog 17 #[.pointer (some ⟨mb, 0, none⟩), .agg #[.int .i64 row, .int .i64 col], .bool true] w (TchIs w mb sm db n Es ⟨row, col⟩ true f0 pk) := by
  have hEN := hd.len
  have HSRT := Lib.hid hd.srt
  have hok := hd.ok
  have HRX : Hid (∀ y x, x ∈ drc Es y → rngC x) := Lib.hid (fun y x hx => by
    obtain ⟨p, hp, rfl⟩ := List.mem_map.1 (drc_mem HSRT.out hx)
    exact rngC_of_may (hok p hp).2)
  have hmsm := h.ne
  have hOl := hd.lt
  go_enter Try.func17, Try.ntmps17
  go_wp2_with fail
  have km := Blk.new w rfl 26 #[.pointer (some ⟨mb, 0, none⟩)]
  have hB1 := bel_alloc (bel_refl w) (.cells #[.pointer (some ⟨mb, 0, none⟩)] 26)
  replace km := km.alloc (.cells #[.int .i64 row, .int .i64 col] 32)
  have kc := Blk.new (w.alloc (.cells #[.pointer (some ⟨mb, 0, none⟩)] 26)) rfl 32 #[.int .i64 row, .int .i64 col]
  have hB2 := bel_alloc hB1 (.cells #[.int .i64 row, .int .i64 col] 32)
  have hF : Frm (fun z => z = mb ∨ z = sm) w ((w.alloc (.cells #[.pointer (some ⟨mb, 0, none⟩)] 26)).alloc (.cells #[.int .i64 row, .int .i64 col] 32)) := Frm.of_below hB2
  have hsz2 : ((w.alloc (.cells #[.pointer (some ⟨mb, 0, none⟩)] 26)).alloc (.cells #[.int .i64 row, .int .i64 col] 32)).heap.size = w.heap.size + 1 + 1 := by simp
  rw [show (w.alloc (.cells #[.pointer (some ⟨mb, 0, none⟩)] 26)).heap.size = w.heap.size + 1 by simp] at kc
  have h2 := h.below hB2
  clear hB1
  refine (may_any row col _).mono ?_
  rintro e w1 ⟨rfl, hb1⟩
  replace km := km.below hb1
  replace kc := kc.below hb1
  replace hF := hF.call hb1
  replace h2 := h2.below hb1
  have hs1 := hb1.size
  rw [hsz2] at hs1
  clear hb1 hsz2 hB2
  cases hm : mayB row col with
  | false =>
    have HM := Lib.hid hm
    go_wp2_with fail
    try simp only [Exit.inBlock, Exit.then]
    exact ⟨rfl, .tuple #[], by simp [results, Try.results17, go_sem], rfl, ⟨pk, f0, h2.up (by omega), .inl ⟨HM.out, rfl, rfl⟩⟩, hF⟩
  | true =>
    have HM := Lib.hid hm
    clear hm
    go_upto_region 3 with fail
    have hbc1 : w.heap.size + 1 < w1.heap.size := by omega
    have hbc2 : w.heap.size ≤ w.heap.size + 1 := by omega
    generalize hbcz : w.heap.size + 1 = bc at kc hbc1 hbc2 ⊢
    generalize hbmz : w.heap.size = bm at km ⊢
    have HBM := Lib.hid (Nat.le_of_eq hbmz)
    clear hbmz hbcz hs1
    obtain ⟨w2, hrun, h3, hg2⟩ := (h2.below (bel_drew (bel_refl w1))).put row col hrc 2 (by omega)
    have q0 := h2.top.rd
    have l0 := h2.top.lt
    have q1 := km.rd
    have l1 := km.lt
    have q2 := kc.rd
    have km2 := km.drew.grown hg2 ((mp_fun h2.sts).ne km)
    have kc2 := kc.drew.grown hg2 ((mp_fun h2.sts).ne kc)
    have hF2 := hF.drew.grown hg2 (fun g e => .inl (.inr (by injection e with e; exact e.symm)))
    have hbc3 : bc < w2.heap.size := Nat.lt_of_lt_of_le hbc1 hg2.size
    have q3 := h3.top.rd
    have l3 := h3.top.lt
    have z3 := h3.top.fz
    have q4 := km2.rd
    have l4 := km2.lt
    clear hF km kc h2 hg2 hbc1
    go_still_tail 5, (by kernel_rfl)
    go_wp2_with fail
    have hFm := ((Frm.refl (fun z => z = mb) w2).set (b := mb) (o := 2) (.inl rfl) (.int .i64 0)).alloc (.cells #[.slice none 0 0] 41)
    have h4 : MM ((w2.setCell ⟨mb, 2, none⟩ (.int .i64 0)).alloc (.cells #[.slice none 0 0] 41)) mb sm db (n + 1) 0 (upS f0 ⟨row, col⟩ (if true = true then some 2 else none)) := (MM.mk ((h3.top.put 2 _).alloc _) (h3.sts.frm hFm (fun e => h3.ne e.symm))).up (by omega)
    have km4 := hFm.blk km2 (fun e => absurd (Blk.same km2 (e ▸ h3.top)) (of_decide_eq_false (by kernel_rfl)))
    have kc4 := hFm.blk kc2 (fun e => absurd (Blk.same kc2 (e ▸ h3.top)) (of_decide_eq_false (by kernel_rfl)))
    have ks4 : Blk ((w2.setCell ⟨mb, 2, none⟩ (.int .i64 0)).alloc (.cells #[.slice none 0 0] 41)) w2.heap.size 41 #[.slice none 0 0] := Blk.new (w2.setCell ⟨mb, 2, none⟩ (.int .i64 0)) (g := w2.heap.size) (by simp) 41 #[.slice none 0 0]
    have hF4 := (hF2.set (b := mb) (o := 2) (.inl (.inl rfl)) (.int .i64 0)).alloc (.cells #[.slice none 0 0] 41)
    have hbs : w.heap.size ≤ w2.heap.size := hF2.size
    generalize hwz : (w2.setCell ⟨mb, 2, none⟩ (.int .i64 0)).alloc (.cells #[.slice none 0 0] 41) = w3 at h4 km4 kc4 ks4 hF4 ⊢
    generalize w2.heap.size = bs at ks4 hbs hbc3 ⊢
    clear hwz hFm hF2 h3 km2 kc2 q0 l0 q1 l1 q2 q3 l3 z3 q4 l4 hrun
    obtain ⟨L, hLe⟩ : ∃ L, L = drs row col Es := ⟨_, rfl⟩
    have HLE : Hid (L = drc Es (⟨row, col⟩ : Cl)) := Lib.hid hLe
    clear hLe
    obtain ⟨S, hSS⟩ : ∃ S : World → Prop, S = fun W => Blk W bm 26 #[.pointer (some ⟨mb, 0, none⟩)] ∧ Blk W bc 32 #[.int .i64 row, .int .i64 col] ∧ MM W mb sm db (n + 1) 0 (upS f0 ⟨row, col⟩ (if true = true then some 2 else none)) := ⟨_, rfl⟩
    have q0 := fun x => (held_of hSS x).1.rd
    have l0 := fun x => (held_of hSS x).1.lt
    have q1 := fun x => (held_of hSS x).2.1.rd
    have l1 := fun x => (held_of hSS x).2.1.lt
    have q2 := fun x => (held_of hSS x).2.2.top.rd
    have l2 := fun x => (held_of hSS x).2.2.top.lt
    have HSS := Lib.hid hSS
    have HCL : Hid (∀ W', Below w3.heap.size w3 W' → S W') := Lib.hid (fun W' hB => held_in HSS.out ⟨km4.below hB, kc4.below hB, h4.below hB⟩)
    have hS0 : S w3.drew := HCL.out _ (bel_drew (bel_refl w3))
    haveI : Nonempty (Held S) := ⟨⟨_, hS0⟩⟩
    clear hSS
    refine wp_region_tree (S := S) 8 (.q 0 <| .q 1 <| .q 2 <| .q 3 <| .q 4 <| .q 7 <| .a 5 <| .q 6 <| .done) [] (by kernel_rfl) (by kernel_rfl) hS0 ?_
    repeat (refine tree_q (by rfl) (by rfl) (fun K hK => ?_); go_simp; refine hK _ ?_; clear hK K)
    refine tree_a (by rfl) (by rfl) (fun K hK => ?_)
    go_simp
    refine (ds_direct db N Ow Es row col _ (hd.frm hF4.drew (fun z hz e => e.elim (fun e => ho1 (e ▸ hz)) (fun e => ho2 (e ▸ hz)))) hrc hN).mono ?_
    rintro e w4 ⟨v1, rfl, hOW, hb4⟩
    rw [show drs row col Es = L from HLE.out.symm] at hOW
    have hB4 := bel_call (bel_drew (bel_refl w3)) hb4
    generalize hB1 : w3.drew.heap.size = B1 at hOW
    clear hB1
    obtain ⟨A1, c1, rfl, hle1, hcm1, hLi1, hxx⟩ := hOW.see
    clear hxx hLi1 hb4 hle1 hcm1
    refine hK _ _ (HCL.out _ (hB4)) ?_
    clear hK K
    repeat (refine tree_q (by rfl) (by rfl) (fun K hK => ?_); go_simp; refine hK _ ?_; clear hK K)
    refine tree_nil ?_
    clear q0 l0 q1 l1 q2 l2 hS0 HSS HCL
    have hLE : L.length ≤ Es.length := by rw [HLE.out]; exact drc_len _ _
    have hj1 := h4.below hB4
    have hj2 := km4.below hB4
    have hj3 := kc4.below hB4
    have hj4 := ks4.below hB4
    have hj5 := hF4.call hB4
    have hj6 : bs + 1 ≤ w4.heap.size := hj4.lt
    clear h4 km4 kc4 ks4 hF4 hB4
    go_wp2_with fail
    go_loopw [38] (fun s38 wr => ∃ (k n' : Nat) (f : Cl → Option Int) (P : List Cl) (v : Value) (pk' : Int), k ≤ L.length ∧ s38 = .int .i64 k ∧ MM wr mb sm db n' pk' f ∧ n' ≤ n + 1 + k ∧ Blk wr bm 26 #[.pointer (some ⟨mb, 0, none⟩)] ∧ Blk wr bc 32 #[.int .i64 row, .int .i64 col] ∧ Blk wr bs 41 #[v] ∧ OL KC wr (bs + 1) v P ∧ OW KC wr B1 (.slice A1 L.length c1) L ∧ (∀ g, v.ownBlock = some g → (Value.slice A1 L.length c1).ownBlock ≠ some g) ∧ Hid (TI Es (⟨row, col⟩ : Cl) true f0 f P (L.take k)) ∧ 0 ≤ pk' ∧ Hid (P ≠ [] → 1 ≤ pk') ∧ pk' ≤ (P.length : Int) ∧ Frm (fun z => z = mb ∨ z = sm) w wr ∧ bs + 1 ≤ wr.heap.size) (fun s38 _ => L.length - (intOf s38).toNat)
    case atStart => exact ⟨0, n + 1, _, [], _, 0, Nat.zero_le _, rfl, hj1, by omega, hj2, hj3, hj4, OL.nil _ _, hOW, fun g hg => (by cases hg), Lib.hid (by rw [List.take_zero]; exact TI.start _ _ _ _), Int.le_refl _, Lib.hid (fun h => absurd rfl h), Int.le_refl _, hj5, hj6⟩
    case round =>
      clear hj1 hj2 hj3 hj4 hj5 hj6 hOW
      obtain ⟨k, n', f, P, v, pk', hk, rfl, hM, hn', km, kc, ks, hO, hOW, hvA, HTI, hp0, HP2, hp1, hF, hbsz⟩ := hrel
      by_cases hkl : k < L.length
      · obtain ⟨x, hx⟩ : ∃ x, L[k]? = some x := ⟨_, List.getElem?_eq_getElem hkl⟩
        have hLi := ow_lies hOW
        obtain ⟨g, off, hAe, hg, c0, c1x⟩ := cl_at hLi hx
        subst hAe
        have HXM : Hid (x ∈ L) := Lib.hid (List.mem_of_getElem? hx)
        have HTK : Hid (L.take (k + 1) = L.take k ++ [x]) := Lib.hid (by rw [List.take_add_one, hx]; rfl)
        have hrx : rngC ⟨x.row, x.col⟩ := HRX.out (⟨row, col⟩ : Cl) x (by rw [← HLE.out]; exact HXM.out)
        have i0 : (0 : Int) ≤ (k : Int) := by omega
        have i1 : (k : Int) < (L.length : Int) := by omega
        have kcx := kc.alloc (.cells #[.int .i64 x.row, .int .i64 x.col] 32)
        have q2 := kcx.rd
        have hE := fun W => eql_cell W x.row x.col row col
        have hbx := bel_alloc (bel_refl wr) (.cells #[.int .i64 x.row, .int .i64 x.col] 32)
        clear hx hLi
        by_cases hxc : (⟨x.row, x.col⟩ : Cl) = ⟨row, col⟩
        · rw [decide_eq_true hxc] at hE
          have HXC := Lib.hid hxc
          clear hxc
          go_wp2_with fail
          go_roundw
          case rel =>
            refine ⟨k + 1, n', f, P, v, pk', by omega, by go_num, hM.below hbx, by omega, km.below hbx, kcx, ks.below hbx, hO.below hbx, hOW.below hbx, hvA, Lib.hid ?_, hp0, HP2, hp1, hF.call hbx, Nat.le_trans hbsz hbx.size⟩
            rw [HTK.out, show x = (⟨row, col⟩ : Cl) from HXC.out]
            exact HTI.out.self (by rw [← HLE.out, ← (show x = (⟨row, col⟩ : Cl) from HXC.out)]; exact HXM.out)
          case measure => simp [intOf]; omega
        · rw [decide_eq_false hxc] at hE
          have HXC : Hid (x ≠ (⟨row, col⟩ : Cl)) := Lib.hid hxc
          have kx := Blk.new wr rfl 32 #[.int .i64 x.row, .int .i64 x.col]
          have hM1 := hM.below hbx
          have km1 := km.below hbx
          have ks1 := ks.below hbx
          have hO1 := hO.below hbx
          have hOW1 := hOW.below hbx
          have hF1 := hF.call hbx
          have hbs1 := Nat.le_trans hbsz hbx.size
          clear hxc hM km ks hO hOW hF kc hbsz
          go_wp2_with fail
          clear c0 c1x
          generalize hwx : wr.alloc (.cells #[.int .i64 x.row, .int .i64 x.col] 32) = wx at kcx kx hM1 km1 ks1 hO1 hOW1 hF1 hbs1 ⊢
          generalize wr.heap.size = bx at kx ⊢
          clear hwx hbx hg q2 hE
          obtain ⟨u, hu⟩ : ∃ u, u = (f ⟨x.row, x.col⟩).getD 0 := ⟨_, rfl⟩
          have HU := Lib.hid hu
          clear hu
          obtain ⟨S, hSS⟩ : ∃ S : World → Prop, S = fun W => Blk W bm 26 #[.pointer (some ⟨mb, 0, none⟩)] ∧ Blk W bx 32 #[.int .i64 x.row, .int .i64 x.col] ∧ MM W mb sm db n' pk' f := ⟨_, rfl⟩
          have q0 := fun x => (held_of hSS x).1.rd
          have l0 := fun x => (held_of hSS x).1.lt
          have q1 := fun x => (held_of hSS x).2.1.rd
          have q2 := fun x => (held_of hSS x).2.2.top.rd
          have l2 := fun x => (held_of hSS x).2.2.top.lt
          have lk : ∀ y : Held S, (Instr.lookup 81 (.map (some sm)) (.agg #[.int .i64 x.row, .int .i64 x.col]) false).run Try.prog y.w = .ok (.int .i64 u) y.w := fun y => by rw [HU.out]; exact (held_of hSS y).2.2.look x.row x.col hrx
          have HSS := Lib.hid hSS
          have HCL : Hid (∀ W', Below wx.heap.size wx W' → S W') := Lib.hid (fun W' hB => held_in HSS.out ⟨km1.below hB, kx.below hB, hM1.below hB⟩)
          have hS0 : S wx.drew := HCL.out _ (bel_drew (bel_refl wx))
          haveI : Nonempty (Held S) := ⟨⟨_, hS0⟩⟩
          clear hSS
          refine wp_region_tree (S := S) 8 (.q 0 <| .q 1 <| .q 2 <| .q 3 <| .q 4 <| .q 5 <| .q 6 <| .q 7 <| .done) [] (by kernel_rfl) (by kernel_rfl) hS0 ?_
          repeat (refine tree_q (by rfl) (by rfl) (fun K hK => ?_); go_simp; refine hK _ ?_; clear hK K)
          refine tree_nil ?_
          clear q0 l0 q1 q2 l2 lk hS0 HSS HCL
          have hbd := bel_drew (bel_refl wx)
          replace hM1 := hM1.below hbd
          replace km1 := km1.below hbd
          replace kcx := kcx.below hbd
          replace kx := kx.below hbd
          replace ks1 := ks1.below hbd
          replace hO1 := hO1.below hbd
          replace hOW1 := hOW1.below hbd
          replace hF1 := hF1.call hbd
          replace hbs1 : bs + 1 ≤ wx.drew.heap.size := hbs1
          generalize hwy : wx.drew = wy at kcx kx hM1 km1 ks1 hO1 hOW1 hF1 hbs1 ⊢
          clear hwy hbd
          have q0 := kx.rd
          by_cases hu0 : u = 0
          · have hcl : cln (f x) := by rw [HU.out] at hu0; exact hu0
            have HCLN := Lib.hid hcl
            subst hu0
            clear hcl
            go_wp2_with fail
            have hPE := HTI.out.len
            refine (push_any x.row x.col 2 hM1 km1 ks1 hO1 hbs1 hrx (by omega) (by omega)).mono ?_
            rintro e w5 ⟨rfl, v5, hM5, km5, ks5, hO5, hn5, hF5⟩
            have kc5 := hF5.blk kcx (fun hz => by
              rcases hz with e | e | e | e
              · exact absurd (Blk.same kcx (e ▸ hM1.top)) (of_decide_eq_false (by kernel_rfl))
              · exact (mp_fun hM1.sts).ne kcx e
              · omega
              · have := (hO1.lt _ e).1; omega)
            have hwl := hF5.size
            have hOW5 := hOW1.keep (fun gg hgg => hF5.block gg (hOW1.lt gg hgg).2 (fun hz => by
              obtain ⟨cur, hcur⟩ := hOW1.type gg hgg
              have hcur' : Blk wy gg 32 cur := hcur
              rcases hz with e | e | e | e
              · exact absurd (Blk.same hcur' (e ▸ hM1.top)) (of_decide_eq_false (by kernel_rfl))
              · exact (mp_fun hM1.sts).ne hcur e
              · exact absurd (Blk.same hcur' (e ▸ ks1)) (of_decide_eq_false (by kernel_rfl))
              · exact hvA gg e hgg))
            have hF6 : Frm (fun z => z = mb ∨ z = sm) w w5 := hF1.then_ hF5 (fun z hz hlt => by
              rcases hz with e | e | e | e
              · exact .inl e
              · exact .inr e
              · omega
              · have := (hO1.lt _ e).1; omega)
            have hvA5 : ∀ gg, v5.ownBlock = some gg → (Value.slice (some ⟨g, off, none⟩) L.length c1).ownBlock ≠ some gg := fun gg hgg e => (hn5 gg hgg).elim (fun h1 => hvA gg h1 e) (fun h1 => by have := (hOW1.lt gg e).2; omega)
            have hbs5 : bs + 1 ≤ w5.heap.size := Nat.le_trans hbs1 hwl
            clear hM1 km1 kcx kx ks1 hO1 hOW1 hF1 hbs1 q0 hn5 hF5 hvA
            go_wp2_with fail
            go_roundw
            case rel =>
              refine ⟨k + 1, n' + 1, _, P ++ [x], v5, _, by omega, by go_num, hM5, by omega, km5, kc5, ks5, hO5, hOW5, hvA5, Lib.hid ?_, by omega, Lib.hid (fun _ => by omega), by simp; omega, hF6, hbs5⟩
              rw [HTK.out]
              exact HTI.out.dpush HSRT.out HXC.out (by rw [← HLE.out]; exact HXM.out) HCLN.out
            case measure => simp [intOf]; omega
          · have hcl : ¬ cln (f x) := by rw [HU.out] at hu0; exact hu0
            have HCLN := Lib.hid hcl
            have hq0 : (u == 0) = false := by rw [beq_eq_false_iff_ne]; exact hu0
            have r2 := km1.rd
            have t2 := km1.lt
            have r3 := hM1.top.rd
            have t3 := hM1.top.lt
            clear hcl
            obtain ⟨w5, hrun, hM5, hg5⟩ := (hM1.below (bel_drew (bel_refl wy))).put x.row x.col hrx 2 (by omega)
            have km5 := km1.drew.grown hg5 ((mp_fun hM1.sts).ne km1)
            have kc5 := kcx.drew.grown hg5 ((mp_fun hM1.sts).ne kcx)
            have ks5 := ks1.drew.grown hg5 ((mp_fun hM1.sts).ne ks1)
            have hO5 := hO1.drew.grown hg5 (fun gg hgg e => by
              obtain ⟨cur, hcur⟩ := hO1.type gg hgg
              exact (mp_fun hM1.sts).ne (show Blk wy gg KC.t cur from hcur) (by injection e with e; exact e.symm))
            have hOW5 := hOW1.drew.grown hg5 (fun gg hgg e => by
              obtain ⟨cur, hcur⟩ := hOW1.type gg hgg
              exact (mp_fun hM1.sts).ne hcur (by injection e with e; exact e.symm))
            have hF6 := hF1.drew.grown hg5 (fun g e => .inl (.inr (by injection e with e; exact e.symm)))
            have hbs5 : bs + 1 ≤ w5.heap.size := Nat.le_trans hbs1 hg5.size
            clear hM1 km1 kcx kx ks1 hO1 hOW1 hF1 hbs1 hg5
            go_wp2_with fail
            go_still_tail 5, (by kernel_rfl)
            go_wp2_with fail
            go_roundw
            case rel =>
              refine ⟨k + 1, n' + 1, _, P, v, pk', by omega, by go_num, hM5, by omega, km5, kc5, ks5, hO5, hOW5, hvA, Lib.hid ?_, hp0, HP2, hp1, hF6, hbs5⟩
              rw [HTK.out]
              exact HTI.out.dset HXC.out (by rw [← HLE.out]; exact HXM.out) HCLN.out
            case measure => simp [intOf]; omega
      obtain rfl : k = L.length := by omega
      have i1 : ¬ ((L.length : Int) < (L.length : Int)) := by omega
      have HT2 : Hid (TI Es (⟨row, col⟩ : Cl) true f0 f P (drc Es (⟨row, col⟩ : Cl))) := Lib.hid (by have := HTI.out; rwa [List.take_length, HLE.out] at this)
      have HRP : Hid (∀ x, x ∈ Es.map eCl → rngC x) := Lib.hid (fun x hx => by
        obtain ⟨p, hp, rfl⟩ := List.mem_map.1 hx
        exact rngC_of_may (hok p hp).2)
      have hm2 : n' ≤ n + 1 + Es.length + P.length := by omega
      have hj1 := hM
      have hj2 := km
      have hj3 := kc
      have hj4 := ks
      have hj5 := hF
      have hj6 := hO
      clear hM km kc ks hF hO hOW hvA HTI hn' hkl
      go_wp2_with fail
      go_loopg [] (2 * (Es.length - P.length) + P.length) (fun gk wr => ∃ (n' : Nat) (f : Cl → Option Int) (P stk : List Cl) (v : Value) (pk' : Int), MM wr mb sm db n' pk' f ∧ n' ≤ n + 1 + Es.length + P.length ∧ Blk wr bm 26 #[.pointer (some ⟨mb, 0, none⟩)] ∧ Blk wr bc 32 #[.int .i64 row, .int .i64 col] ∧ Blk wr bs 41 #[v] ∧ OL KC wr (bs + 1) v stk ∧ Hid (TI Es (⟨row, col⟩ : Cl) true f0 f P (drc Es (⟨row, col⟩ : Cl))) ∧ Hid (∀ x, x ∈ stk → x ∈ P) ∧ Hid (∀ p, p ∈ P → p ∉ stk → ∀ z, z ∈ drc Es p → ClsAt (⟨row, col⟩ : Cl) true f z) ∧ stk.length ≤ P.length ∧ 0 ≤ pk' ∧ Hid (P ≠ [] → 1 ≤ pk') ∧ pk' ≤ (P.length : Int) ∧ 2 * (Es.length - P.length) + stk.length ≤ gk ∧ Frm (fun z => z = mb ∨ z = sm) w wr ∧ bs + 1 ≤ wr.heap.size)
      case atStart => exact ⟨n', f, P, P, v, pk', hj1, hm2, hj2, hj3, hj4, hj6, HT2, Lib.hid (fun x hx => hx), Lib.hid (fun p hp hn => absurd hp hn), Nat.le_refl _, hp0, HP2, hp1, Nat.le_refl _, hj5, hbsz⟩
      case round =>
        clear hj1 hj2 hj3 hj4 hj5 hj6 hm2 HT2 hp0 hp1 hbsz i1 hk
        obtain ⟨n', f, P, stk, v, pk', hM, hn', km, kc, ks, hO, HT, HSP, HCL, hsl, hp0, HP2, hp1, hgk, hF, hbsz⟩ := hrel
        obtain ⟨Av, cv, rfl, hcle, hcmx, hLv, hAv⟩ := hO.see
        have hPE := HT.out.len
        have q0 := ks.rd
        have l0 := ks.lt
        by_cases hst0 : stk.length = 0
        · have HST0 := Lib.hid hst0
          rw [hst0] at q0
          clear hst0 hLv hAv
          go_wp2_with fail
          try simp only [Exit.inBlock, Exit.then]
          refine ⟨rfl, .tuple #[], by simp [results, Try.results17, go_sem], rfl, ⟨pk', f, hM.up (by omega), .inr ⟨HM.out, P, HT.out, fun p hp z hz => HCL.out p hp (fun h => ?_) z hz, hp0, HP2.out, hp1⟩⟩, hF⟩
          rw [List.length_eq_zero_iff.1 HST0.out] at h
          cases h
        · obtain ⟨m, hm⟩ : ∃ m, m + 1 = stk.length := ⟨stk.length - 1, by omega⟩
          obtain ⟨l, hl⟩ : ∃ l, stk[m]? = some l := ⟨_, List.getElem?_eq_getElem (by omega)⟩
          have HSL : Hid (stk = stk.take m ++ [l]) := Lib.hid (by
            have h1 : stk.take (m + 1) = stk := by rw [hm, List.take_length]
            rw [List.take_add_one, hl] at h1
            exact h1.symm)
          have HLP : Hid (l ∈ P) := Lib.hid (HSP.out l (List.mem_of_getElem? hl))
          have hrl : rngC ⟨l.row, l.col⟩ := HRP.out l (HT.out.psh l HLP.out).2.2.2
          obtain ⟨gs, os, hAe, hgs, c0, c1x⟩ := cl_at hLv hl
          have hAv' : Av = some ⟨gs, 0, none⟩ ∧ os = 0 := by
            rcases hAv with h | ⟨g9, h, _⟩
            · rw [h] at hAe; cases hAe
            · rw [h] at hAe
              injection hAe with hAe
              injection hAe with h1 h2 _
              subst h1
              exact ⟨h, h2.symm⟩
          obtain ⟨rfl, rfl⟩ := hAv'
          rw [Nat.zero_add] at c0 c1x
          have hO2 := hO.take m (by omega)
          have hmi : ((stk.length : Int) : Int) = (m : Int) + 1 := by omega
          have HMM := Lib.hid hm
          rw [← hm] at q0
          have hmz : m + 1 ≤ 9223372036854775807 := by unfold maxLen at hcmx; omega
          have e0 : IntKind.i64.wrap ((m : Int) + 1 - 1) = (m : Int) := by rw [IntWalk.i64_in _ (by omega)]; omega
          have e1 : (m : Int) + 1 - 1 = (m : Int) := by omega
          have m0 : (0 : Int) ≤ (m : Int) := by omega
          have m1 : (m : Int) < (m : Int) + 1 := by omega
          have m2 : (m : Int) ≤ (cv : Int) := by omega
          have hbx := bel_alloc (bel_refl wr) (.cells #[.int .i64 l.row, .int .i64 l.col] 32)
          have ks1 := ks.alloc (.cells #[.int .i64 l.row, .int .i64 l.col] 32)
          have q3 := ks1.rd
          rw [← hm] at q3
          have l3 := ks1.lt
          have z3 := ks1.fz
          clear hst0 hl hLv hAv hAe hmi hm
          go_wp2_with fail
          clear q0 l0 q3 l3 z3 c0 c1x e0 e1 m0 m1 hbx ks1
          have hFs := ((Frm.refl (fun z => z = bs) wr).set (b := bs) (o := 0) (.inl rfl) (.slice (some ⟨gs, 0, none⟩) m cv)).alloc (.cells #[.int .i64 l.row, .int .i64 l.col] 32)
          have hM2 := hM.frm hFs (fun e => absurd (Blk.same hM.top (e ▸ ks)) (of_decide_eq_false (by kernel_rfl))) (fun e => (mp_fun hM.sts).ne ks e.symm)
          have km2 := hFs.blk km (fun e => absurd (Blk.same km (e ▸ ks)) (of_decide_eq_false (by kernel_rfl)))
          have kc2 := hFs.blk kc (fun e => absurd (Blk.same kc (e ▸ ks)) (of_decide_eq_false (by kernel_rfl)))
          have ks2 : Blk ((wr.setCell ⟨bs, 0, none⟩ (.slice (some ⟨gs, 0, none⟩) m cv)).alloc (.cells #[.int .i64 l.row, .int .i64 l.col] 32)) bs 41 #[.slice (some ⟨gs, 0, none⟩) m cv] := (ks.put 0 _).alloc _
          have hO3 := (hO2.set (b := bs) (fun gg hgg e => by
            obtain ⟨cur, hcur⟩ := hO2.type gg hgg
            have hcur' : Blk wr gg 32 cur := hcur
            exact absurd (Blk.same hcur' (e ▸ ks)) (of_decide_eq_false (by kernel_rfl))) 0 (.slice (some ⟨gs, 0, none⟩) m cv)).alloc (.cells #[.int .i64 l.row, .int .i64 l.col] 32)
          have hF2 := (hF.set (b := bs) (o := 0) (.inr hbs) (.slice (some ⟨gs, 0, none⟩) m cv)).alloc (.cells #[.int .i64 l.row, .int .i64 l.col] 32)
          have kl : Blk ((wr.setCell ⟨bs, 0, none⟩ (.slice (some ⟨gs, 0, none⟩) m cv)).alloc (.cells #[.int .i64 l.row, .int .i64 l.col] 32)) wr.heap.size 32 #[.int .i64 l.row, .int .i64 l.col] := Blk.new (wr.setCell ⟨bs, 0, none⟩ (.slice (some ⟨gs, 0, none⟩) m cv)) (g := wr.heap.size) (by simp) 32 #[.int .i64 l.row, .int .i64 l.col]
          generalize hwz : (wr.setCell ⟨bs, 0, none⟩ (.slice (some ⟨gs, 0, none⟩) m cv)).alloc (.cells #[.int .i64 l.row, .int .i64 l.col] 32) = w3 at hM2 km2 kc2 ks2 hO3 hF2 kl ⊢
          generalize wr.heap.size = bl at kl ⊢
          have HCL2 : Hid (∀ p, p ∈ P → p ∉ stk.take m → p ≠ l → ∀ z, z ∈ drc Es p → ClsAt (⟨row, col⟩ : Cl) true f z) := Lib.hid (fun p hp h1 h2 => HCL.out p hp (fun h3 => by
            rw [HSL.out] at h3
            rcases List.mem_append.1 h3 with h4 | h4
            · exact h1 h4
            · exact h2 (List.mem_singleton.1 h4)))
          have HSP2 : Hid (∀ x, x ∈ stk.take m → x ∈ P) := Lib.hid (fun x hx => HSP.out x (List.mem_of_mem_take hx))
          have hskl : (stk.take m).length = m := by rw [List.length_take]; have := HMM.out; omega
          have hsl2 : (stk.take m).length ≤ P.length := by rw [hskl]; have := HMM.out; omega
          have hgk2 : 2 * (Es.length - P.length) + (stk.take m).length < gk := by rw [hskl]; have := HMM.out; omega
          generalize stk.take m = sk at HCL2 HSP2 hsl2 hgk2 hO3 hskl
          generalize hv2 : Value.slice (some ⟨gs, 0, none⟩) m cv = v2 at ks2 hO3
          clear hwz hFs hM km kc ks hO hO2 hF HCL HSP HSL hsl hgk hskl hv2 HMM hcle hcmx hgs hmz m2
          obtain ⟨L2, hLe⟩ : ∃ L2, L2 = drs l.row l.col Es := ⟨_, rfl⟩
          have HLE2 : Hid (L2 = drc Es l) := Lib.hid hLe
          clear hLe
          obtain ⟨S, hSS⟩ : ∃ S : World → Prop, S = fun W => Blk W bm 26 #[.pointer (some ⟨mb, 0, none⟩)] ∧ Blk W bl 32 #[.int .i64 l.row, .int .i64 l.col] ∧ MM W mb sm db n' pk' f := ⟨_, rfl⟩
          have q0 := fun x => (held_of hSS x).1.rd
          have l0 := fun x => (held_of hSS x).1.lt
          have q1 := fun x => (held_of hSS x).2.1.rd
          have l1 := fun x => (held_of hSS x).2.1.lt
          have q2 := fun x => (held_of hSS x).2.2.top.rd
          have l2 := fun x => (held_of hSS x).2.2.top.lt
          have HSS := Lib.hid hSS
          have HCL : Hid (∀ W', Below w3.heap.size w3 W' → S W') := Lib.hid (fun W' hB => held_in HSS.out ⟨km2.below hB, kl.below hB, hM2.below hB⟩)
          have hS0 : S w3.drew := HCL.out _ (bel_drew (bel_refl w3))
          haveI : Nonempty (Held S) := ⟨⟨_, hS0⟩⟩
          clear hSS
          refine wp_region_tree (S := S) 8 (.q 0 <| .q 1 <| .q 2 <| .q 3 <| .q 4 <| .q 7 <| .a 5 <| .q 6 <| .done) [] (by kernel_rfl) (by kernel_rfl) hS0 ?_
          repeat (refine tree_q (by rfl) (by rfl) (fun K hK => ?_); go_simp; refine hK _ ?_; clear hK K)
          refine tree_a (by rfl) (by rfl) (fun K hK => ?_)
          go_simp
          refine (ds_direct db N Ow Es l.row l.col _ (hd.frm hF2.drew (fun z hz e => e.elim (fun e => ho1 (e ▸ hz)) (fun e => ho2 (e ▸ hz)))) hrl hN).mono ?_
          rintro e w4 ⟨v1, rfl, hOW, hb4⟩
          rw [show drs l.row l.col Es = L2 from HLE2.out.symm] at hOW
          have hB4 := bel_call (bel_drew (bel_refl w3)) hb4
          obtain ⟨B2, hB2⟩ : ∃ B2, B2 = w3.drew.heap.size := ⟨_, rfl⟩
          rw [← hB2] at hOW
          have HB2 : Hid (w3.heap.size ≤ B2) := Lib.hid (Nat.le_of_eq hB2.symm)
          clear hB2
          obtain ⟨A2, c2, rfl, hle1, hcm1, hLi1, hxx⟩ := hOW.see
          clear hxx hLi1 hb4 hle1 hcm1
          refine hK _ _ (HCL.out _ (hB4)) ?_
          clear hK K
          repeat (refine tree_q (by rfl) (by rfl) (fun K hK => ?_); go_simp; refine hK _ ?_; clear hK K)
          refine tree_nil ?_
          clear q0 l0 q1 l1 q2 l2 hS0 HSS HCL
          have hLE2 : L2.length ≤ Es.length := by rw [HLE2.out]; exact drc_len _ _
          have hj1 := hM2.below hB4
          have hj2 := km2.below hB4
          have hj3 := kc2.below hB4
          have hj4 := ks2.below hB4
          have hj5 := hF2.call hB4
          have hj6 : bs + 1 ≤ w4.heap.size := hj4.lt
          have hj7 := hO3.below hB4
          have hj8 : ∀ g, v2.ownBlock = some g → (Value.slice A2 L2.length c2).ownBlock ≠ some g := fun gg hgg e => by
            have h1 := (hOW.lt gg e).1
            have h2 := (hO3.lt gg hgg).2
            have h3 : w3.heap.size ≤ B2 := HB2.out
            omega
          clear hM2 km2 kc2 ks2 hF2 hB4 hO3 HB2 kl hbsz hrl
          go_wp2_with fail
          go_loopw [84] (fun s84 wr => ∃ (k n' : Nat) (f : Cl → Option Int) (P stk : List Cl) (v : Value) (pk' : Int), k ≤ L2.length ∧ s84 = .int .i64 k ∧ MM wr mb sm db n' pk' f ∧ n' ≤ n + 1 + Es.length + P.length ∧ Blk wr bm 26 #[.pointer (some ⟨mb, 0, none⟩)] ∧ Blk wr bc 32 #[.int .i64 row, .int .i64 col] ∧ Blk wr bs 41 #[v] ∧ OL KC wr (bs + 1) v stk ∧ OW KC wr B2 (.slice A2 L2.length c2) L2 ∧ (∀ g, v.ownBlock = some g → (Value.slice A2 L2.length c2).ownBlock ≠ some g) ∧ Hid (TI Es (⟨row, col⟩ : Cl) true f0 f P (drc Es (⟨row, col⟩ : Cl))) ∧ Hid (∀ x, x ∈ stk → x ∈ P) ∧ Hid (l ∈ P) ∧ Hid (∀ p, p ∈ P → p ∉ stk → p ≠ l → ∀ z, z ∈ drc Es p → ClsAt (⟨row, col⟩ : Cl) true f z) ∧ Hid (∀ z, z ∈ L2.take k → ClsAt (⟨row, col⟩ : Cl) true f z) ∧ stk.length ≤ P.length ∧ 0 ≤ pk' ∧ Hid (P ≠ [] → 1 ≤ pk') ∧ pk' ≤ (P.length : Int) ∧ 2 * (Es.length - P.length) + stk.length < gk ∧ Frm (fun z => z = mb ∨ z = sm) w wr ∧ bs + 1 ≤ wr.heap.size) (fun s84 _ => L2.length - (intOf s84).toNat)
          case atStart => exact ⟨0, n', f, P, sk, v2, pk', Nat.zero_le _, rfl, hj1, hn', hj2, hj3, hj4, hj7, hOW, hj8, HT, HSP2, HLP, HCL2, Lib.hid (fun z hz => by simp at hz), hsl2, hp0, HP2, hp1, hgk2, hj5, hj6⟩
          case round =>
            clear hj1 hj2 hj3 hj4 hj5 hj6 hj7 hj8 HT HSP2 HLP HCL2 hsl2 hp0 hp1 hgk2 hOW hn' hPE
            obtain ⟨k, n', f, P, stk, v, pk', hk, rfl, hM, hn', km, kc, ks, hO, hOW, hvA, HT, HSP, HLP, HCL, HCJ, hsl, hp0, HP2, hp1, hgk, hF, hbsz⟩ := hrel
            have hPE := HT.out.len
            by_cases hkl : k < L2.length
            · obtain ⟨x, hx⟩ : ∃ x, L2[k]? = some x := ⟨_, List.getElem?_eq_getElem hkl⟩
              have hLi := ow_lies hOW
              obtain ⟨g, off, hAe, hg, c0, c1x⟩ := cl_at hLi hx
              subst hAe
              have HXM : Hid (x ∈ L2) := Lib.hid (List.mem_of_getElem? hx)
              have HTK : Hid (L2.take (k + 1) = L2.take k ++ [x]) := Lib.hid (by rw [List.take_add_one, hx]; rfl)
              have hrx : rngC ⟨x.row, x.col⟩ := HRX.out l x (by rw [← HLE2.out]; exact HXM.out)
              have HCJ2 : Hid (ClsAt (⟨row, col⟩ : Cl) true f x → ∀ z, z ∈ L2.take (k + 1) → ClsAt (⟨row, col⟩ : Cl) true f z) := Lib.hid (fun hx z hz => by
                rw [HTK.out] at hz
                rcases List.mem_append.1 hz with h4 | h4
                · exact HCJ.out z h4
                · rw [List.mem_singleton.1 h4]; exact hx)
              have i0 : (0 : Int) ≤ (k : Int) := by omega
              have i1 : (k : Int) < (L2.length : Int) := by omega
              have hbx := bel_alloc (bel_refl wr) (.cells #[.int .i64 x.row, .int .i64 x.col] 32)
              have kcx := kc.below hbx
              have kx := Blk.new wr rfl 32 #[.int .i64 x.row, .int .i64 x.col]
              have hM1 := hM.below hbx
              have km1 := km.below hbx
              have ks1 := ks.below hbx
              have hO1 := hO.below hbx
              have hOW1 := hOW.below hbx
              have hF1 := hF.call hbx
              have hbs1 := Nat.le_trans hbsz hbx.size
              clear hx hLi hM km ks hO hOW hF kc hbsz
              go_wp2_with fail
              clear c0 c1x
              generalize hwx : wr.alloc (.cells #[.int .i64 x.row, .int .i64 x.col] 32) = wx at kcx kx hM1 km1 ks1 hO1 hOW1 hF1 hbs1 ⊢
              generalize wr.heap.size = bx at kx ⊢
              clear hwx hbx hg
              obtain ⟨u, hu⟩ : ∃ u, u = (f ⟨x.row, x.col⟩).getD 0 := ⟨_, rfl⟩
              have HU := Lib.hid hu
              clear hu
              have gm := km1.gr
              have lm := km1.lt
              have gx := kx.gr
              have lx := kx.lt
              have gc := kcx.gr
              have lc := kcx.lt
              have gt := hM1.top.gr
              have lt := hM1.top.lt
              have lkg : ∀ (d : Nat) (os : Array Obj), (Instr.lookup 81 (.map (some sm)) (.agg #[.int .i64 x.row, .int .i64 x.col]) false).run Try.prog (Sort.grow (redrawn wx d) os) = .ok (.int .i64 u) (Sort.grow (redrawn wx d) os) := fun d os => by rw [HU.out]; exact (hM1.below (below_regrown wx d os)).look x.row x.col hrx
              have hne := fun W => neq_cell W x.row x.col row col
              by_cases hu0 : u = 0
              · by_cases hxc : (⟨x.row, x.col⟩ : Cl) = ⟨row, col⟩
                · exfalso
                  have h1 := HT.out.own
                  rw [HU.out, hxc, h1] at hu0
                  exact absurd hu0 (by decide)
                · rw [decide_eq_false hxc] at hne
                  have HXC : Hid (x ≠ (⟨row, col⟩ : Cl)) := Lib.hid hxc
                  have HCLN : Hid (cln (f x)) := Lib.hid (by rw [HU.out] at hu0; exact hu0)
                  subst hu0
                  clear hxc
                  refine wp_region_quiet_below (by kernel_rfl) (by kernel_rfl) ?_
                  repeat (any_goals (first | go_big_quiet_step ((fail)) | fail))
                  refine wpQuiet_nil ?_
                  intro wy hw'
                  have hbd := class_below hw'
                  clear hw' gm lm gx lx gc lc gt lt lkg
                  replace hM1 := hM1.below hbd
                  replace km1 := km1.below hbd
                  replace kcx := kcx.below hbd
                  replace kx := kx.below hbd
                  replace ks1 := ks1.below hbd
                  replace hO1 := hO1.below hbd
                  replace hOW1 := hOW1.below hbd
                  replace hF1 := hF1.call hbd
                  replace hbs1 := Nat.le_trans hbs1 hbd.size
                  clear hbd
                  have q0 := kx.rd
                  go_wp2_with fail
                  refine (push_any x.row x.col 1 hM1 km1 ks1 hO1 hbs1 hrx (by omega) (by omega)).mono ?_
                  rintro e w5 ⟨rfl, v5, hM5, km5, ks5, hO5, hn5, hF5⟩
                  have kc5 := hF5.blk kcx (fun hz => by
                    rcases hz with e | e | e | e
                    · exact absurd (Blk.same kcx (e ▸ hM1.top)) (of_decide_eq_false (by kernel_rfl))
                    · exact (mp_fun hM1.sts).ne kcx e
                    · omega
                    · have := (hO1.lt _ e).1; omega)
                  have hwl := hF5.size
                  have hOW5 := hOW1.keep (fun gg hgg => hF5.block gg (hOW1.lt gg hgg).2 (fun hz => by
                    obtain ⟨cur, hcur⟩ := hOW1.type gg hgg
                    have hcur' : Blk wy gg 32 cur := hcur
                    rcases hz with e | e | e | e
                    · exact absurd (Blk.same hcur' (e ▸ hM1.top)) (of_decide_eq_false (by kernel_rfl))
                    · exact (mp_fun hM1.sts).ne hcur e
                    · exact absurd (Blk.same hcur' (e ▸ ks1)) (of_decide_eq_false (by kernel_rfl))
                    · exact hvA gg e hgg))
                  have hF6 : Frm (fun z => z = mb ∨ z = sm) w w5 := hF1.then_ hF5 (fun z hz hlt => by
                    rcases hz with e | e | e | e
                    · exact .inl e
                    · exact .inr e
                    · omega
                    · have := (hO1.lt _ e).1; omega)
                  have hvA5 : ∀ gg, v5.ownBlock = some gg → (Value.slice (some ⟨g, off, none⟩) L2.length c2).ownBlock ≠ some gg := fun gg hgg e => (hn5 gg hgg).elim (fun h1 => hvA gg h1 e) (fun h1 => by have := (hOW1.lt gg e).2; omega)
                  have hbs5 : bs + 1 ≤ w5.heap.size := Nat.le_trans hbs1 hwl
                  clear hM1 km1 kcx kx ks1 hO1 hOW1 hF1 hbs1 q0 hn5 hF5 hvA
                  have HT5 := HT.out.mpush HSRT.out HXC.out HLP.out (by rw [← HLE2.out]; exact HXM.out) HCLN.out
                  have hPE5 := HT5.len
                  rw [List.length_append] at hPE5
                  simp only [List.length_singleton] at hPE5
                  have HT6 := Lib.hid HT5
                  clear HT5
                  go_wp2_with fail
                  go_roundw
                  case rel =>
                    refine ⟨k + 1, n' + 1, _, P ++ [x], stk ++ [x], v5, _, by omega, by go_num, hM5, by simp; omega, km5, kc5, ks5, hO5, hOW5, hvA5, HT6, Lib.hid ?_, Lib.hid ?_, Lib.hid ?_, Lib.hid ?_, by simp; omega, by omega, Lib.hid (fun _ => by omega), by simp; omega, by simp; omega, hF6, hbs5⟩
                    · intro y hy
                      rcases List.mem_append.1 hy with h4 | h4
                      · exact List.mem_append.2 (.inl (HSP.out y h4))
                      · exact List.mem_append.2 (.inr h4)
                    · exact List.mem_append.2 (.inl HLP.out)
                    · intro p hp h1 h2 z hz
                      rcases List.mem_append.1 hp with h4 | h4
                      · exact (HCL.out p h4 (fun h5 => h1 (List.mem_append.2 (.inl h5))) h2 z hz).up cln_1
                      · exact absurd (List.mem_append.2 (.inr h4)) h1
                    · intro z hz
                      rw [HTK.out] at hz
                      rcases List.mem_append.1 hz with h4 | h4
                      · exact (HCJ.out z h4).up cln_1
                      · rw [List.mem_singleton.1 h4]
                        exact .inr (by rw [upS_same]; exact cln_1)
                  case measure => simp [intOf]; omega
              · have hq0 : (u == 0) = false := by rw [beq_eq_false_iff_ne]; exact hu0
                have HCN : Hid (∀ z, z ∈ L2.take (k + 1) → ClsAt (⟨row, col⟩ : Cl) true f z) := Lib.hid (HCJ2.out (.inr (by rw [HU.out] at hu0; exact hu0)))
                clear hne
                refine wp_region_quiet_below (by kernel_rfl) (by kernel_rfl) ?_
                repeat (any_goals (first | go_big_quiet_step ((fail)) | fail))
                refine wpQuiet_nil ?_
                intro wy hw'
                have hbd := class_below hw'
                clear hw' gm lm gx lx gc lc gt lt lkg
                replace hM1 := hM1.below hbd
                replace km1 := km1.below hbd
                replace kcx := kcx.below hbd
                replace kx := kx.below hbd
                replace ks1 := ks1.below hbd
                replace hO1 := hO1.below hbd
                replace hOW1 := hOW1.below hbd
                replace hF1 := hF1.call hbd
                replace hbs1 := Nat.le_trans hbs1 hbd.size
                clear hbd
                go_wp2_with fail
                go_roundw
                case rel => exact ⟨k + 1, n', f, P, stk, v, pk', by omega, by go_num, hM1, hn', km1, kcx, ks1, hO1, hOW1, hvA, HT, HSP, HLP, HCL, HCN, hsl, hp0, HP2, hp1, hgk, hF1, hbs1⟩
                case measure => simp [intOf]; omega
            obtain rfl : k = L2.length := by omega
            have i1 : ¬ ((L2.length : Int) < (L2.length : Int)) := by omega
            go_wp2_with fail
            go_roundg (2 * (Es.length - P.length) + stk.length)
            case measure => exact hgk
            case rel =>
              refine ⟨n', f, P, stk, v, pk', hM, hn', km, kc, ks, hO, HT, HSP, Lib.hid ?_, hsl, hp0, HP2, hp1, Nat.le_refl _, hF, hbsz⟩
              intro p hp h1 z hz
              by_cases e : p = l
              · subst e
                exact HCJ.out z (by rw [List.take_length, HLE2.out]; exact hz)
              · exact HCL.out p hp h1 e z hz
end Go.Proofs.Ytdionganlmnlkaa

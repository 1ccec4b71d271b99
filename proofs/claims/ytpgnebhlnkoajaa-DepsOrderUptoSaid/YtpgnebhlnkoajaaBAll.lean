/-
  Bands: contract of All. Conditions: those of each theorem.
-/
import Derived.Test.YtpgnebhlnkoajaaBSort
namespace Go.Proofs.Ytpgnebhlnkoajaa
open Go.ChangeShapes Go.WideShapes Go.ChangeAt Go.RowKit Go.Deep

section
variable {w : World} {ops : Array Oper} {rest : List Oper} {o : Oper} {a : Act} {Q : Exit → Act → World → Prop}
/-- The next pair of a map of pairs. -/
theorem wp_pair_next (hg : o.guard = none) (it : Operand) (hop : o.op = Op.next it false) (ma r n : Nat) (D : DataW Unit) (left : Lit → Bool) (cnt : Nat)
    (hD : ∀ l, Maps.has D l = true → ∃ x : Pr, rngP x ∧ keyOf Try.prog 79 (pairV x) = some l) (hsub : ∀ l, left l = true → Maps.has D l = true)
    (hit : a.eval it = .pointer (some ⟨r, 0, none⟩)) (h : w.ranges Try.prog 79 unitElem ma r n D left cnt)
    (hDone : cnt = 0 → (∀ kl, left kl = false) → wpList Try.prog ops Q rest (a.put o.dst (.tuple #[.bool false])) w)
    (hMore : ∀ (p : Pr) (kl : Lit) (w' : World) (cnt' : Nat), keyOf Try.prog 79 (pairV p) = some kl → left kl = true → w'.ranges Try.prog 79 unitElem ma r n D (fun z => left z && !z.sameKey kl) cnt' → cnt' < cnt →
      w.grownBy w' (some r) → w'.heap.size = w.heap.size → (Instr.entry (.pointer (some ⟨r, 0, none⟩))).run Try.prog w' = .ok (.tuple #[.agg #[.int .i64 p.t, .int .i64 p.l, .int .i64 p.b, .int .i64 p.r, .int .i64 p.row, .int .i64 p.col], .agg #[]]) w' →
      wpList Try.prog ops Q rest (a.put o.dst (.tuple #[.bool true, .agg #[.int .i64 p.t, .int .i64 p.l, .int .i64 p.b, .int .i64 p.r, .int .i64 p.row, .int .i64 p.col], .agg #[]])) w') :
    wpList Try.prog ops Q (o :: rest) a w := by
  refine wpList_next_ranges w hg it hop 79 law_pair unitElem (fun v : Value => v) (fun v : Value => v) (fun key kl _ => ⟨key, rfl⟩) (fun v y _ => ⟨v, rfl⟩) ma r n D left cnt hit h hDone ?_
  intro x c kl y w' cnt' hkx hlk hRc hat hrg hlt hgr hsz hen
  obtain ⟨p, _, hp⟩ := hD kl (hsub kl hlk)
  have hxp : x = pairV p := law_pair.inj hkx hp
  subst hxp
  obtain ⟨rfl, _⟩ := unitElem_inv hRc
  exact hMore p kl w' cnt' hp hlk hrg hlt hgr hsz hen
end

/-- What All answers. -/
def AllIs (w : World) (Ls : List Pr) (e : Ending) (w' : World) : Prop :=
  ∃ A, e = .returned (.slice A Ls.length Ls.length) ∧ Lies KE w' A Ls ∧ (A = none ∨ ∃ (g : Nat) (cur : Array Value), A = some ⟨g, 0, none⟩ ∧ w.heap.size ≤ g ∧ Blk w' g 51 cur ∧ Ls.length * 7 ≤ cur.size) ∧ Below w.heap.size w w'

theorem clip_any (A : Option Addr) (n c : Nat) (w : World) (hc : n ≤ c) :
    Calls Try.prog 55 #[.slice A n c] w fun e w' => e = .returned (.slice A n n) ∧ w = w' := by
  cases A with
  | none =>
    go_enter Try.func55, Try.ntmps55
    go_wp2_with fail
    go_ret
    exact ⟨rfl, rfl⟩
  | some a =>
    obtain ⟨g, off, sp⟩ := a
    go_enter Try.func55, Try.ntmps55
    go_wp2_with fail
    go_ret
    exact ⟨rfl, rfl⟩

theorem ol_blk {α : Type} {K : Knd α} {w : World} {B n c g : Nat} {L : List α} (h : OL K w B (.slice (some ⟨g, 0, none⟩) n c) L) : ∃ cur : Array Value, Blk w g K.t cur ∧ cur.size = c * K.size ∧ B ≤ g ∧ c ≤ maxLen := by
  rcases h.2 with ⟨h2, _⟩ | ⟨g', cap, cur, hv, hB, hg, hn, hm, hs, ht⟩
  · cases h2
  · injection hv with e1 e2 e3
    injection e1 with e1
    injection e1 with e1
    subst e1 e3
    exact ⟨cur, hg, by simpa using hs, hB, hm⟩
theorem ol_lies {α : Type} {K : Knd α} {w : World} {B n c : Nat} {A : Option Addr} {L : List α} (h : OL K w B (.slice A n c) L) : Lies K w A L := by
  obtain ⟨A', c', h1, _, _, h2, _⟩ := h.see
  injection h1 with h1 _ _
  subst h1
  exact h2

theorem ol_ne_iter {α : Type} {K : Knd α} {w : World} {B : Nat} {v : Value} {L : List α} (h : OL K w B v L) {P : Program} {k : TypeId} {R : Value → Option (DataW Unit × List MemPlace)} {b r n cnt : Nat} {D : DataW Unit} {left : Lit → Bool} (hr : w.ranges P k R b r n D left cnt) : ∀ g, v.ownBlock = some g → g ≠ r := by
  rintro g hg rfl
  obtain ⟨cur, e1⟩ := h.type g hg
  obtain ⟨_, _, _, _, _, _, _, _, _, e2, _⟩ := hr
  rw [e1] at e2
  injection e2 with e2
  cases e2
theorem ol_ne_map' {α : Type} {K : Knd α} {w : World} {B : Nat} {v : Value} {L : List α} (h : OL K w B v L) {P : Program} {k : TypeId} {R : Value → Option (DataW Unit × List MemPlace)} {b n : Nat} {D : DataW Unit} (hm : w.ownsMap P k R b n D) : ∀ g, v.ownBlock = some g → g ≠ b := by
  rintro g hg rfl
  obtain ⟨cur, e1⟩ := h.type g hg
  obtain ⟨es, clock, e2, _⟩ := hm
  rw [e1] at e2
  injection e2 with e2
  cases e2
set_option maxHeartbeats 6400000 in
set_option maxRecDepth 100000 in
theorem all_any (bb ma mb nb n : Nat) (L Ls : List Pr) (F : Int → Option Nat) (w : World) (h : BIs w bb ma mb nb n L F) (hs : SrtP Ls) (hm : ∀ x, x ∈ Ls ↔ x ∈ L) (hn : (n + 1) * 56 ≤ 140737488355328) :
    Calls Try.prog 39 #[.pointer (some ⟨bb, 0, none⟩)] w (AllIs w Ls) := by
  obtain ⟨D, hown, hk1, hk2⟩ := h.all
  have HK2 := Lib.hid hk2
  have rdt := h.top.rd
  have hsz := hown.size_le
  go_enter Try.func39, Try.ntmps39
  go_wp2_with (at_range; refine wpList_range_own _ rfl _ _ rfl 79 66 law_pair Try.underlying73 unitElem ma n D rfl hown ?_; intro w0 hrg0 hg0 hs0)
  go_frame
  clear rdt
  have hB0 := below_of_grown' hg0
  go_loopw [3] (fun s3 wr => ∃ (out : List Pr) (left : Lit → Bool) (cnt : Nat), wr.ranges Try.prog 79 unitElem ma w.heap.size n D left cnt ∧ OL KE wr (w.heap.size + 1) s3 out ∧ out.Nodup ∧ out.length + cnt ≤ n ∧ Hid (∀ p, p ∈ out → p ∈ L) ∧
      Hid (∀ p l, keyOf Try.prog 79 (pairV p) = some l → (left l = true ↔ p ∈ L ∧ p ∉ out)) ∧ Hid (∀ l, left l = true → Maps.has D l = true) ∧ Below w.heap.size w wr) (fun _ wr => wr.rangeLeft ma w.heap.size)
  case atStart => exact ⟨[], _, _, hrg0, OL.nil _ _, List.nodup_nil, by simpa using hsz, Lib.hid (fun p hp => by simp at hp), Lib.hid (fun p l hl => by simpa using hk1 p l hl), Lib.hid (fun l hl => hl), hB0⟩
  case round =>
    obtain ⟨out, left, cnt, hrg, hO, hnd, hcl, HIN, HLF, HSUB, hW⟩ := hrel
    clear hrg0 hg0 hs0 hB0
    have hleft := hrg.left_eq
    have hral := hrg.lt
    have hown1 := hrg.owns
    have hapart := ol_ne_iter hO hrg
    have hapm := ol_ne_map' hO hown1
    clear hapart hapm hleft hral hown1
    go_upto_region 5 with (at_next; refine wp_pair_next rfl _ rfl ma w.heap.size n D left cnt HK2.out HSUB.out rfl hrg (fun hc0 hl0 => ?_) (fun p kl w1 cnt1 hkp hlk hrg1 hlt1 hg1 hsz1 hen => ?_))
    · clear hrg
      obtain ⟨A, c, rfl, hcle, hcm, _, hA⟩ := hO.see
      have HL0 := Lib.hid hl0
      clear hl0 hc0
      refine (sort_edges hO hnd (by omega)).mono ?_
      rintro e w5 ⟨rfl, M, hO5, hlen, hsM, hM, hg5⟩
      obtain rfl : M = Ls := srt_ext hsM hs (fun x => by
        rw [hM x, hm x]
        refine ⟨fun hx => HIN.out x hx, fun hx => ?_⟩
        obtain ⟨kl, hkl⟩ := key_pair x (okP_rng (h.may x hx)).2
        by_cases hxo : x ∈ out
        · exact hxo
        · have := (HLF.out x kl hkl).2 ⟨hx, hxo⟩
          rw [HL0.out kl] at this
          cases this)
      have hB5 := bel_grown hW hg5 (fun z hz => by have := (hO.lt z hz).1; omega)
      have HLEN := Lib.hid hlen
      clear hlen
      go_wp2_with fail
      refine (clip_any A out.length c w5 hcle).mono ?_
      rintro e w6 ⟨rfl, rfl⟩
      go_wp2_with fail
      go_ret
      refine ⟨A, by rw [HLEN.out]; rfl, ol_lies hO5, ?_, hB5⟩
      rcases hA with rfl | ⟨g, rfl, hg1, hg2⟩
      · exact .inl rfl
      · obtain ⟨cur, b1, b2, b3, b4⟩ := ol_blk hO5
        exact .inr ⟨g, cur, rfl, by omega, b1, by have := HLEN.out; rw [b2]; show _ ≤ c * 7; omega⟩
    · obtain ⟨hpL, hpo⟩ := (HLF.out p kl hkp).1 hlk
      have hleft := hrg.left_eq
      have hB1 := bel_grown hW hg1 (fun z hz => by injection hz with hz; omega)
      have hO1 := hO.grown hg1 (fun g hg e => ol_ne_iter hO hrg g hg (by injection e with e; exact e.symm))
      have hHIN : ∀ q, q ∈ out ++ [p] → q ∈ L := fun q hq => by
        rcases List.mem_append.1 hq with h1 | h1
        · exact HIN.out q h1
        · rw [List.mem_singleton.1 h1]; exact hpL
      have hHLF : ∀ (q : Pr) (l : Lit), keyOf Try.prog 79 (pairV q) = some l → ((left l && !l.sameKey kl) = true ↔ q ∈ L ∧ q ∉ out ++ [p]) := fun q l hl => by
        rw [Bool.and_eq_true, HLF.out q l hl]
        by_cases hqp : q = p
        · subst hqp
          rw [hkp] at hl
          injection hl with hl
          subst hl
          simp [WideAt.sameKey_self (law_pair.key hkp)]
        · have hn1 : l.sameKey kl = false := by
            cases hsk : l.sameKey kl with
            | false => rfl
            | true =>
              exfalso
              have := WideAt.sameKey_eq hsk
              subst this
              exact hqp (pairV_inj q p (law_pair.inj hl hkp))
          simp [hn1, hqp]
      have hHSUB : ∀ l, (left l && !l.sameKey kl) = true → Maps.has D l = true := fun l hl => HSUB.out l (by rw [Bool.and_eq_true] at hl; exact hl.1)
      have hnd' : (out ++ [p]).Nodup := by
        rw [List.nodup_append]
        exact ⟨hnd, by simp, fun a ha b hb => by rw [List.mem_singleton.1 hb]; rintro rfl; exact hpo ha⟩
      have hlen' : (out ++ [p]).length + cnt1 ≤ n := by rw [List.length_append, List.length_singleton]; omega
      have HIN' := Lib.hid hHIN
      have HLF' := Lib.hid hHLF
      have HSUB' := Lib.hid hHSUB
      clear hHIN hHLF hHSUB hen hrg hW hg1 hO HIN HLF HSUB
      rw [← hsz1]
      have k4 := Blk.new w1 (g := w1.heap.size) rfl 79 #[.int .i64 p.t, .int .i64 p.l, .int .i64 p.b, .int .i64 p.r, .int .i64 p.row, .int .i64 p.col]
      have hO2 := hO1.alloc (.cells #[.int .i64 p.t, .int .i64 p.l, .int .i64 p.b, .int .i64 p.r, .int .i64 p.row, .int .i64 p.col] 79)
      have hB2 := bel_alloc hB1 (.cells #[.int .i64 p.t, .int .i64 p.l, .int .i64 p.b, .int .i64 p.r, .int .i64 p.row, .int .i64 p.col] 79)
      have hrg2 := hrg1.alloc (.cells #[.int .i64 p.t, .int .i64 p.l, .int .i64 p.b, .int .i64 p.r, .int .i64 p.row, .int .i64 p.col] 79)
      have hlt4 := k4.lt
      generalize hwz : w1.alloc (.cells #[.int .i64 p.t, .int .i64 p.l, .int .i64 p.b, .int .i64 p.r, .int .i64 p.row, .int .i64 p.col] 79) = w2 at k4 hO2 hB2 hrg2 hlt4 ⊢
      have hgp : w1.heap.size ≤ w2.heap.size := Nat.le_of_lt hlt4
      generalize w1.heap.size = gp at k4 hlt4 hgp ⊢
      clear hwz hrg1 hO1 hB1 hsz1
      have rd4 := k4.rd
      have hw1 : w.heap.size + 1 ≤ w2.heap.size := hrg2.lt
      have hol : out.length + 1 ≤ n := by omega
      have hB3 := bel_alloc hB2 (.cells #[.int .i64 p.row, .int .i64 p.col, .bool true, .int .i64 p.t, .int .i64 p.l, .int .i64 p.b, .int .i64 p.r] 51)
      have hO3 := hO2.alloc (.cells #[.int .i64 p.row, .int .i64 p.col, .bool true, .int .i64 p.t, .int .i64 p.l, .int .i64 p.b, .int .i64 p.r] 51)
      have hrg3 := hrg2.alloc (.cells #[.int .i64 p.row, .int .i64 p.col, .bool true, .int .i64 p.t, .int .i64 p.l, .int .i64 p.b, .int .i64 p.r] 51)
      have hlies : Lies KE (w2.alloc (.cells #[.int .i64 p.row, .int .i64 p.col, .bool true, .int .i64 p.t, .int .i64 p.l, .int .i64 p.b, .int .i64 p.r] 51)) (some ⟨w2.heap.size, 0, none⟩) [p] := Lies.blk (Blk.new w2 rfl 51 #[.int .i64 p.row, .int .i64 p.col, .bool true, .int .i64 p.t, .int .i64 p.l, .int .i64 p.b, .int .i64 p.r]) rfl
      have hb1 : out.length + [p].length ≤ maxLen := by show out.length + 1 ≤ _; unfold maxLen; omega
      have hb2 : (out.length + [p].length) * KE.bytes ≤ 140737488355328 := by show (out.length + 1) * 56 ≤ _; omega
      have hb3 : w.heap.size + 1 ≤ (w2.alloc (.cells #[.int .i64 p.row, .int .i64 p.col, .bool true, .int .i64 p.t, .int .i64 p.l, .int .i64 p.b, .int .i64 p.r] 51)).heap.size := size1 hw1 _
      go_wp2_with (at_builtin; (refine wp_ol_append info_ke rfl Try.underlying27 rfl _ _ rfl rfl hO3 (M := [p]) (c := 1) rfl rfl hlies hb1 hb2 hb3 ?_); intro v7 w7 hO7 hg7)
      have hB7 := bel_grown hB3 hg7 (fun z hz => by have := (hO3.lt z hz).1; omega)
      have hrg7 := hrg3.kept hg7 (fun e => ol_ne_map' hO3 hrg3.owns _ e.symm rfl) (fun e => ol_ne_iter hO3 hrg3 _ e.symm rfl)
      have hm1 := hrg7.left_eq
      go_roundw
      case rel => exact ⟨out ++ [p], _, cnt1, hrg7, hO7, hnd', hlen', HIN', HLF', HSUB', hB7⟩
      case measure => rw [hm1, hleft]; exact hlt1
end Go.Proofs.Ytpgnebhlnkoajaa

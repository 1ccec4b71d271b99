/-
  The document's marks: Clean; Touch, with a formula or without. Conditions: those of each theorem.
-/
import Derived.Test.YtdionganlmnlkaaMRTchF
namespace Go.Proofs.Ytdionganlmnlkaa
open Go.ChangeShapes Go.WideShapes Go.ChangeAt Go.RowKit Go.Deep
attribute [local go_sem] Cls

theorem RkPut.same {w w' : World} {rb yb : Nat} {pk : Int} {O : Nat → Prop} {M : List Mk} (h : RK w rb yb pk O M) (hb : Below w.heap.size w w') : RkPut w rb yb pk O M w' := ⟨O, h.below hb, Frm.of_below hb, fun _ hz => .inl hz⟩
theorem RkPut.after {w w1 w' : World} {rb yb : Nat} {pk : Int} {O : Nat → Prop} {M : List Mk} (h : RkPut w1 rb yb pk O M w') (hb : Below w.heap.size w w1) : RkPut w rb yb pk O M w' := by
  obtain ⟨O', h1, h2, h3⟩ := h
  have hs := hb.size
  exact ⟨O', h1, (Frm.of_below hb).then_ h2 (fun _ hz _ => hz), fun z hz => (h3 z hz).imp id (fun h => by omega)⟩
set_option maxHeartbeats 3200000 in
set_option maxRecDepth 100000 in
theorem rkclean_any {rb yb : Nat} {pk : Int} {O : Nat → Prop} {M : List Mk} (row col : Int) {w : World} (h : RK w rb yb pk O M) (hl : (M.length + 2) * 24 ≤ 140737488355328) : Calls Try.prog 30 #[.pointer (some ⟨rb, 0, none⟩), .agg #[.int .i64 row, .int .i64 col]] w fun e w' => e = .returned (.tuple #[]) ∧ ∃ M', M'.length ≤ M.length ∧ RkPut w rb yb pk O M' w' := by
  go_enter Try.func30, Try.ntmps30
  go_wp2_with fail
  have hB := bel_alloc (bel_refl w) (.cells #[.int .i64 row, .int .i64 col] 32)
  have kb := Blk.new w rfl 32 #[.int .i64 row, .int .i64 col]
  have h1 := h.below hB
  refine (rkstate_any row col h1).mono ?_
  rintro e w1 ⟨rfl, hb1⟩
  replace hB := bel_call hB hb1
  replace kb := kb.below hb1
  clear hb1 h1
  obtain ⟨u, hu⟩ : ∃ u, u = (look M (⟨row, col⟩ : Cl)).getD 0 := ⟨_, rfl⟩
  obtain ⟨u2, hu2⟩ : ∃ u, u = (look M (⟨row, col⟩ : Cl)).isSome := ⟨_, rfl⟩
  rw [← hu, ← hu2]
  have HU2 := Lib.hid hu2
  clear hu hu2
  cases u2 with
  | false =>
    have hfin : ∃ M', M'.length ≤ M.length ∧ RkPut w rb yb pk O M' w1 := ⟨M, Nat.le_refl _, RkPut.same h hB⟩
    clear h hB
    go_wp2_with fail
    try simp only [Exit.inBlock, Exit.then]
    exact ⟨rfl, .tuple #[], by simp [results, Try.results30, go_sem], rfl, hfin⟩
  | true =>
    have hns : look M (⟨row, col⟩ : Cl) ≠ none := fun e => by have := HU2.out; rw [e] at this; cases this
    have HNS := Lib.hid hns
    have q0 := kb.rd
    clear hns
    go_wp2_with fail
    refine (rkput_any row col 0 (h.below hB) hl).mono ?_
    rintro e w2 ⟨rfl, hp⟩
    have hfin : ∃ M', M'.length ≤ M.length ∧ RkPut w rb yb pk O M' w2 := ⟨_, putL_len2 (s := 0) HNS.out, hp.after hB⟩
    clear h hB hp
    go_wp2_with fail
    try simp only [Exit.inBlock, Exit.then]
    exact ⟨rfl, .tuple #[], by simp [results, Try.results30, go_sem], rfl, hfin⟩
theorem rtouch_any {rb yb : Nat} {pk : Int} {O Oy : Nat → Prop} {Es : List Ed} {M : List Mk} (row col : Int) (fm : Bool) {w : World} (h : RK w rb yb pk O M) (hs : RS w yb Oy Es) (hoy : ∀ z, Oy z → ¬ O z) (hsrt : SrtE Es) (hl : (M.length + 2 * Es.length + 4) * 24 ≤ 140737488355328) (hE : (Es.length + 1) * 56 ≤ 140737488355328) :
    Calls Try.prog 28 #[.pointer (some ⟨rb, 0, none⟩), .agg #[.int .i64 row, .int .i64 col], .bool fm] w fun e w' => e = .returned (.tuple #[]) ∧ RkTch w rb yb O (M.length + 2 * Es.length + 2) w' := by
  cases fm with
  | true => exact rtouch_t row col h hs hoy hsrt hl hE
  | false => exact rtouch_f row col h hs hoy hsrt hl hE
theorem mtouch_any {mb sm db n N : Nat} {pk : Int} {f0 : Cl → Option Int} {Ow : Nat → Prop} {Es : List Ed} (row col : Int) (fm : Bool) {w : World} (h : MM w mb sm db n pk f0) (hd : DS w db N Ow Es) (hN : N ≤ 1099511627776) (ho1 : ¬ Ow mb) (ho2 : ¬ Ow sm) (hrc : rngC ⟨row, col⟩) (hn : n < 2305843009213693952) :
    Calls Try.prog 17 #[.pointer (some ⟨mb, 0, none⟩), .agg #[.int .i64 row, .int .i64 col], .bool fm] w (TchIs w mb sm db n Es ⟨row, col⟩ fm f0 pk) := by
  cases fm with
  | true => exact mtouch_t row col h hd hN ho1 ho2 hrc hn
  | false => exact mtouch_f row col h hd hN ho1 ho2 hrc hn
end Go.Proofs.Ytdionganlmnlkaa

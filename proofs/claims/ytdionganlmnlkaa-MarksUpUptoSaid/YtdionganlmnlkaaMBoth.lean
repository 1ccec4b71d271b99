/-
  Marks and the document's, side by side: the state, contracts over it; begin, pick. Conditions: those of each theorem.
-/
import Derived.Test.YtdionganlmnlkaaMCl
import Derived.Test.YtdionganlmnlkaaMAll
namespace Go.Proofs.Ytdionganlmnlkaa
open Go.ChangeShapes Go.WideShapes Go.ChangeAt Go.RowKit Go.Deep
attribute [local go_sem] Cls

theorem Lies.frm {α : Type} {K : Knd α} {w w' : World} {S : Nat → Prop} {A : Option Addr} {L : List α} (h : Lies K w A L) (hF : Frm S w w') (hn : L ≠ [] → ∀ b off, A = some ⟨b, off, none⟩ → ¬ S b) : Lies K w' A L := fun i x hx => by
  obtain ⟨b, off, h1, h2, h3⟩ := h i x hx
  have hL : L ≠ [] := fun e => by rw [e] at hx; cases hx
  exact ⟨b, off, h1, Nat.lt_of_lt_of_le h2 hF.size, fun j u hu => by rw [hF.cell h2 (hn hL b off h1)]; exact h3 j u hu⟩
theorem lies_lt0 {α : Type} {K : Knd α} {w : World} {A : Option Addr} {L : List α} (h : Lies K w A L) (hL : L ≠ []) {b off : Nat} (e : A = some ⟨b, off, none⟩) : b < w.heap.size := by
  cases L with
  | nil => exact absurd rfl hL
  | cons x L =>
    obtain ⟨b', off', h1, h2, _⟩ := h 0 x rfl
    rw [h1] at e
    injection e with e
    injection e with e _ _
    omega
theorem recol (col : Nat → Nat) (P : Nat → Prop) (k s : Nat) (hcs : ∀ z, col z ≠ 0 → z < s) (hP : ∀ z, P z → col z = k ∨ s ≤ z) : ∃ col' : Nat → Nat, (∀ z, col z ≠ 0 → col' z = col z) ∧ (∀ z, P z → col' z = k) ∧ (∀ z, col' z ≠ 0 → col z ≠ 0 ∨ P z) := by
  refine ⟨fun z => @ite _ (P z) (Classical.propDecidable _) k (col z), fun z hz => ?_, fun z hz => ?_, fun z hz => ?_⟩
  · by_cases h : P z
    · dsimp only
      rw [if_pos h]
      rcases hP z h with h1 | h1
      · exact h1.symm
      · have := hcs z hz; omega
    · dsimp only
      rw [if_neg h]
  · dsimp only
    rw [if_pos hz]
  · by_cases h : P z
    · exact .inr h
    · dsimp only at hz
      rw [if_neg h] at hz
      exact .inl hz
/-- Marks over references and the document's; colours tell the blocks apart. -/
structure BS (w : World) (bb db mb sm yb rb : Nat) (col : Nat → Nat) (N n m : Nat) (pk : Int) (f : Cl → Option Int) (Es Er : List Ed) : Prop where
  top : Blk w bb 30 #[.pointer (some ⟨db, 0, none⟩), .pointer (some ⟨mb, 0, none⟩), .pointer (some ⟨yb, 0, none⟩), .pointer (some ⟨rb, 0, none⟩)]
  cbb : col bb = 1
  csz : ∀ z, col z ≠ 0 → z < w.heap.size
  mm : MM w mb sm db n pk f
  cmb : col mb = 2
  csm : col sm = 2
  ds : ∃ Ow, DS w db N Ow Es ∧ ∀ z, Ow z → col z = 3
  rs : ∃ Oy, RS w yb Oy Er ∧ ∀ z, Oy z → col z = 4
  rk : ∃ O pr M, RK w rb yb pr O M ∧ M.length ≤ m ∧ ∀ z, O z → col z = 5
/-- Only what is coloured was written; what is coloured anew is new. -/
def Ext (w : World) (col : Nat → Nat) (w' : World) (col' : Nat → Nat) : Prop := Frm (fun z => col z ≠ 0) w w' ∧ ∀ z, col' z ≠ 0 → col z ≠ 0 ∨ w.heap.size ≤ z
/-- A list whose block is not coloured. -/
def LN {α : Type} (K : Knd α) (w : World) (col : Nat → Nat) (A : Option Addr) (L : List α) : Prop := Lies K w A L ∧ (L ≠ [] → ∀ b off, A = some ⟨b, off, none⟩ → col b = 0)
/-- A block that is not coloured. -/
def Bx (w : World) (col : Nat → Nat) (g : Nat) (t : TypeId) (cs : Array Value) : Prop := Blk w g t cs ∧ col g = 0
section
variable {w w' w1 w2 : World} {bb db mb sm yb rb : Nat} {col col' col1 col2 : Nat → Nat} {N n m N' n' m' : Nat} {pk pk' : Int} {f f' : Cl → Option Int} {Es Er Es' : List Ed}
theorem Ext.refl (w : World) (col : Nat → Nat) : Ext w col w col := ⟨Frm.refl _ w, fun _ hz => .inl hz⟩
theorem Ext.below (h : Ext w col w1 col1) (hb : Below w1.heap.size w1 w2) : Ext w col w2 col1 := ⟨h.1.call hb, h.2⟩
theorem Ext.trans (h : Ext w col w1 col1) (k : Ext w1 col1 w2 col2) : Ext w col w2 col2 := by
  have hs := h.1.size
  refine ⟨h.1.then_ k.1 (fun z hz hlt => ?_), fun z hz => ?_⟩
  · rcases h.2 z hz with h1 | h1
    · exact h1
    · omega
  · rcases k.2 z hz with h1 | h1
    · exact h.2 z h1
    · exact .inr (by omega)
theorem Ext.bel {a : World} (h : Ext w col w1 col1) (hw : Below a.heap.size a w) (hc : ∀ z, col z ≠ 0 → a.heap.size ≤ z) : Below a.heap.size a w1 := h.1.bel hw hc
theorem Ext.low {a : World} (h : Ext w col w1 col1) (hw : Below a.heap.size a w) (hc : ∀ z, col z ≠ 0 → a.heap.size ≤ z) : ∀ z, col1 z ≠ 0 → a.heap.size ≤ z := fun z hz => by
  have := hw.size
  rcases h.2 z hz with h1 | h1
  · exact hc z h1
  · omega
theorem Bx.ext {g : Nat} {t : TypeId} {cs : Array Value} (h : Bx w col g t cs) (k : Ext w col w1 col1) : Bx w1 col1 g t cs := by
  refine ⟨k.1.blk h.1 (fun hc => hc h.2), ?_⟩
  have hl := h.1.lt
  by_cases hz : col1 g = 0
  · exact hz
  · rcases k.2 g hz with h1 | h1
    · exact absurd h.2 h1
    · omega
theorem Bx.below {g : Nat} {t : TypeId} {cs : Array Value} (h : Bx w col g t cs) (hb : Below w.heap.size w w1) : Bx w1 col g t cs := ⟨h.1.below hb, h.2⟩
theorem LN.ext {α : Type} {K : Knd α} {A : Option Addr} {L : List α} (h : LN K w col A L) (k : Ext w col w1 col1) : LN K w1 col1 A L := by
  refine ⟨h.1.frm k.1 (fun hL b off e hc => hc (h.2 hL b off e)), fun hL b off e => ?_⟩
  have hl := lies_lt0 h.1 hL e
  by_cases hz : col1 b = 0
  · exact hz
  · rcases k.2 b hz with h1 | h1
    · exact absurd (h.2 hL b off e) h1
    · omega
theorem LN.below {α : Type} {K : Knd α} {A : Option Addr} {L : List α} (h : LN K w col A L) (hb : Below w.heap.size w w1) : LN K w1 col A L := ⟨h.1.below hb, h.2⟩
theorem BS.list (h : BS w bb db mb sm yb rb col N n m pk f Es Er) (hb : Below w.heap.size w w1) {α : Type} {K : Knd α} {A : Option Addr} {L : List α} (k : Lies K w1 A L) (hg : ∀ b off, A = some ⟨b, off, none⟩ → w.heap.size ≤ b) : LN K w1 col A L := by
  refine ⟨k, fun _ b off e => ?_⟩
  by_cases hz : col b = 0
  · exact hz
  · have := h.csz b hz; have := hb.size; have := hg b off e; omega
theorem BS.box (h : BS w bb db mb sm yb rb col N n m pk f Es Er) (hb : Below w.heap.size w w1) {g : Nat} {t : TypeId} {cs : Array Value} (k : Blk w1 g t cs) (hg : w.heap.size ≤ g) : Bx w1 col g t cs := by
  refine ⟨k, ?_⟩
  by_cases hz : col g = 0
  · exact hz
  · have := h.csz g hz; have := hb.size; omega
theorem BS.frm (h : BS w bb db mb sm yb rb col N n m pk f Es Er) {S : Nat → Prop} (hF : Frm S w w') (hS : ∀ z, col z ≠ 0 → ¬ S z) : BS w' bb db mb sm yb rb col N n m pk f Es Er := by
  obtain ⟨h1, h2, h3, h4, h5, h6, ⟨Ow, d1, d2⟩, ⟨Oy, e1, e2⟩, O, pr, M, r1, r2, r3⟩ := h
  exact ⟨hF.blk h1 (hS _ (by rw [h2]; decide)), h2, fun z hz => Nat.lt_of_lt_of_le (h3 z hz) hF.size, h4.frm hF (hS _ (by rw [h5]; decide)) (hS _ (by rw [h6]; decide)), h5, h6, ⟨Ow, d1.frm hF (fun z hz => hS z (by rw [d2 z hz]; decide)), d2⟩, ⟨Oy, e1.frm hF (fun z hz => hS z (by rw [e2 z hz]; decide)), e2⟩, O, pr, M, r1.frm hF (fun z hz => hS z (by rw [r3 z hz]; decide)), r2, r3⟩
theorem BS.below (h : BS w bb db mb sm yb rb col N n m pk f Es Er) (hb : Below w.heap.size w w') : BS w' bb db mb sm yb rb col N n m pk f Es Er := h.frm (Frm.of_below (S := fun _ => False) hb) (fun _ _ => id)
theorem BS.mono (h : BS w bb db mb sm yb rb col N n m pk f Es Er) (h1 : N ≤ N') (h2 : n ≤ n') (h3 : m ≤ m') : BS w bb db mb sm yb rb col N' n' m' pk f Es Er := by
  obtain ⟨k1, k2, k3, k4, k5, k6, ⟨Ow, d1, d2⟩, k7, O, pr, M, r1, r2, r3⟩ := h
  exact ⟨k1, k2, k3, k4.up h2, k5, k6, ⟨Ow, d1.mono h1, d2⟩, k7, O, pr, M, r1, Nat.le_trans r2 h3, r3⟩
theorem BS.mset (h : BS w bb db mb sm yb rb col N n m pk f Es Er) (hm : MM w' mb sm db n' pk' f') (hF : Frm (fun z => z = mb ∨ z = sm) w w') : BS w' bb db mb sm yb rb col N n' m pk' f' Es Er ∧ Ext w col w' col := by
  obtain ⟨h1, h2, h3, h4, h5, h6, ⟨Ow, d1, d2⟩, ⟨Oy, e1, e2⟩, O, pr, M, r1, r2, r3⟩ := h
  have hS : ∀ z, z = mb ∨ z = sm → col z = 2 := fun z hz => by
    rcases hz with rfl | rfl
    · exact h5
    · exact h6
  have hd : ∀ z c, col z = c → c ≠ 2 → ¬ (z = mb ∨ z = sm) := fun z c hc hn hz => hn (hc.symm.trans (hS z hz))
  exact ⟨⟨hF.blk h1 (hd _ 1 h2 (by decide)), h2, fun z hz => Nat.lt_of_lt_of_le (h3 z hz) hF.size, hm, h5, h6, ⟨Ow, d1.frm hF (fun z hz => hd z 3 (d2 z hz) (by decide)), d2⟩, ⟨Oy, e1.frm hF (fun z hz => hd z 4 (e2 z hz) (by decide)), e2⟩, O, pr, M, r1.frm hF (fun z hz => hd z 5 (r3 z hz) (by decide)), r2, r3⟩, hF.wide (fun z hz => by rw [hS z hz]; decide), fun _ hz => .inl hz⟩
theorem BS.dset (h : BS w bb db mb sm yb rb col N n m pk f Es Er) {Ow Ow' : Nat → Prop} (hc : ∀ z, Ow z → col z = 3) (hd : DS w' db N' Ow' Es') (hF : Frm Ow w w') (hO : ∀ z, Ow' z → Ow z ∨ w.heap.size ≤ z) : ∃ col', BS w' bb db mb sm yb rb col' N' n m pk f Es' Er ∧ Ext w col w' col' := by
  obtain ⟨h1, h2, h3, h4, h5, h6, _, ⟨Oy, e1, e2⟩, O, pr, M, r1, r2, r3⟩ := h
  obtain ⟨col', k1, k2, k3⟩ := recol col Ow' 3 w.heap.size h3 (fun z hz => (hO z hz).imp (hc z) id)
  have hn : ∀ z c, col z = c → c ≠ 0 → c ≠ 3 → ¬ Ow z := fun z c e1 _ e3 hz => e3 (e1.symm.trans (hc z hz))
  have hk : ∀ z c, col z = c → c ≠ 0 → col' z = c := fun z c e1 e2 => (k1 z (by rw [e1]; exact e2)).trans e1
  exact ⟨col', ⟨hF.blk h1 (hn _ 1 h2 (by decide) (by decide)), hk _ 1 h2 (by decide), fun z hz => (k3 z hz).elim (fun hz => Nat.lt_of_lt_of_le (h3 z hz) hF.size) (hd.lt z), h4.frm hF (hn _ 2 h5 (by decide) (by decide)) (hn _ 2 h6 (by decide) (by decide)), hk _ 2 h5 (by decide), hk _ 2 h6 (by decide), ⟨Ow', hd, k2⟩,
    ⟨Oy, e1.frm hF (fun z hz => hn z 4 (e2 z hz) (by decide) (by decide)), fun z hz => hk z 4 (e2 z hz) (by decide)⟩, O, pr, M, r1.frm hF (fun z hz => hn z 5 (r3 z hz) (by decide) (by decide)), r2, fun z hz => hk z 5 (r3 z hz) (by decide)⟩,
    hF.wide (fun z hz => by rw [hc z hz]; decide), fun z hz => (k3 z hz).elim .inl (fun hz => (hO z hz).imp (fun h => by rw [hc z h]; decide) id)⟩
theorem BS.rset (h : BS w bb db mb sm yb rb col N n m pk f Es Er) {Oy Oy' : Nat → Prop} (hc : ∀ z, Oy z → col z = 4) (hd : RS w' yb Oy' Es') (hF : Frm Oy w w') (hO : ∀ z, Oy' z → Oy z ∨ w.heap.size ≤ z) : ∃ col', BS w' bb db mb sm yb rb col' N n m pk f Es Es' ∧ Ext w col w' col' := by
  obtain ⟨h1, h2, h3, h4, h5, h6, ⟨Ow, e1, e2⟩, _, O, pr, M, r1, r2, r3⟩ := h
  obtain ⟨col', k1, k2, k3⟩ := recol col Oy' 4 w.heap.size h3 (fun z hz => (hO z hz).imp (hc z) id)
  have hn : ∀ z c, col z = c → c ≠ 0 → c ≠ 4 → ¬ Oy z := fun z c e1 _ e3 hz => e3 (e1.symm.trans (hc z hz))
  have hk : ∀ z c, col z = c → c ≠ 0 → col' z = c := fun z c e1 e2 => (k1 z (by rw [e1]; exact e2)).trans e1
  exact ⟨col', ⟨hF.blk h1 (hn _ 1 h2 (by decide) (by decide)), hk _ 1 h2 (by decide), fun z hz => (k3 z hz).elim (fun hz => Nat.lt_of_lt_of_le (h3 z hz) hF.size) (hd.lt z), h4.frm hF (hn _ 2 h5 (by decide) (by decide)) (hn _ 2 h6 (by decide) (by decide)), hk _ 2 h5 (by decide), hk _ 2 h6 (by decide),
    ⟨Ow, e1.frm hF (fun z hz => hn z 3 (e2 z hz) (by decide) (by decide)), fun z hz => hk z 3 (e2 z hz) (by decide)⟩, ⟨Oy', hd, k2⟩, O, pr, M, r1.frm hF (fun z hz => hn z 5 (r3 z hz) (by decide) (by decide)), r2, fun z hz => hk z 5 (r3 z hz) (by decide)⟩,
    hF.wide (fun z hz => by rw [hc z hz]; decide), fun z hz => (k3 z hz).elim .inl (fun hz => (hO z hz).imp (fun h => by rw [hc z h]; decide) id)⟩
theorem BS.kset (h : BS w bb db mb sm yb rb col N n m pk f Es Er) {O O' : Nat → Prop} {pr : Int} {M : List Mk} (hc : ∀ z, O z → col z = 5) (hd : RK w' rb yb pr O' M) (hM : M.length ≤ m') (hF : Frm O w w') (hO : ∀ z, O' z → O z ∨ w.heap.size ≤ z) : ∃ col', BS w' bb db mb sm yb rb col' N n m' pk f Es Er ∧ Ext w col w' col' := by
  obtain ⟨h1, h2, h3, h4, h5, h6, ⟨Ow, e1, e2⟩, ⟨Oy, r1, r3⟩, _⟩ := h
  obtain ⟨col', k1, k2, k3⟩ := recol col O' 5 w.heap.size h3 (fun z hz => (hO z hz).imp (hc z) id)
  have hn : ∀ z c, col z = c → c ≠ 0 → c ≠ 5 → ¬ O z := fun z c e1 _ e3 hz => e3 (e1.symm.trans (hc z hz))
  have hk : ∀ z c, col z = c → c ≠ 0 → col' z = c := fun z c e1 e2 => (k1 z (by rw [e1]; exact e2)).trans e1
  exact ⟨col', ⟨hF.blk h1 (hn _ 1 h2 (by decide) (by decide)), hk _ 1 h2 (by decide), fun z hz => (k3 z hz).elim (fun hz => Nat.lt_of_lt_of_le (h3 z hz) hF.size) (hd.lt z), h4.frm hF (hn _ 2 h5 (by decide) (by decide)) (hn _ 2 h6 (by decide) (by decide)), hk _ 2 h5 (by decide), hk _ 2 h6 (by decide),
    ⟨Ow, e1.frm hF (fun z hz => hn z 3 (e2 z hz) (by decide) (by decide)), fun z hz => hk z 3 (e2 z hz) (by decide)⟩, ⟨Oy, r1.frm hF (fun z hz => hn z 4 (r3 z hz) (by decide) (by decide)), fun z hz => hk z 4 (r3 z hz) (by decide)⟩, O', pr, M, hd, hM, k2⟩,
    hF.wide (fun z hz => by rw [hc z hz]; decide), fun z hz => (k3 z hz).elim .inl (fun hz => (hO z hz).imp (fun h => by rw [hc z h]; decide) id)⟩
theorem BS.srt (h : BS w bb db mb sm yb rb col N n m pk f Es Er) : SrtE Es := by
  obtain ⟨Ow, h1, _⟩ := h.ds
  exact h1.srt
theorem BS.okE (h : BS w bb db mb sm yb rb col N n m pk f Es Er) : ∀ e, e ∈ Es → okR (eRf e) = true ∧ mayB e.row e.col = true := by
  obtain ⟨Ow, h1, _⟩ := h.ds
  exact h1.ok
theorem BS.len (h : BS w bb db mb sm yb rb col N n m pk f Es Er) : Es.length ≤ N := by
  obtain ⟨Ow, h1, _⟩ := h.ds
  exact h1.len

/-! contracts -/
/-- What a touch leaves, whatever the cell. -/
def TMay (Es : List Ed) (c : Cl) (fm : Bool) (f f' : Cl → Option Int) (pk pk' : Int) : Prop := (mayB c.row c.col = false ∧ f' = f ∧ pk' = pk) ∨ (mayB c.row c.col = true ∧ TouchIs Es c fm f f' pk')
theorem bs_dset (row cl : Int) (L : List Rf) (A : Option Addr) (cap : Nat) (h : BS w bb db mb sm yb rb col N n m pk f Es Er) (hA : LN KF w col A L) (hN : N + 2 * L.length + 1 ≤ 1099511627776) :
    Calls Try.prog 10 #[.pointer (some ⟨db, 0, none⟩), .agg #[.int .i64 row, .int .i64 cl], .slice A L.length cap] w fun e w' => e = .returned (.int .i64 (setE ⟨row, cl⟩ L)) ∧ ∃ col', BS w' bb db mb sm yb rb col' (N + 2 * L.length + 1) n m pk f (setD ⟨row, cl⟩ L Es) Er ∧ Ext w col w' col' := by
  obtain ⟨Ow, h1, h2⟩ := h.ds
  refine (ds_set db N Ow Es row cl L A cap w h1 hA.1 (fun x hx b off hb hz => ?_) hN).mono ?_
  · have := hA.2 (fun e => by rw [e] at hx; cases hx) b off hb
    rw [h2 _ hz] at this
    cases this
  · rintro e w' ⟨Ow', rfl, k1, k2, k3⟩
    exact ⟨rfl, h.dset h2 k1 k2 k3⟩
theorem bs_rset (row cl : Int) (L : List Rf) (A : Option Addr) (cap : Nat) (h : BS w bb db mb sm yb rb col N n m pk f Es Er) (hs : SrtE Er) (hA : LN KF w col A L) (hl : (Er.length + L.length + 1) * 56 ≤ 140737488355328) :
    Calls Try.prog 27 #[.pointer (some ⟨yb, 0, none⟩), .agg #[.int .i64 row, .int .i64 cl], .slice A L.length cap] w fun e w' => e = .returned (.int .i64 (setE ⟨row, cl⟩ L)) ∧ ∃ col', BS w' bb db mb sm yb rb col' N n m pk f Es (setD ⟨row, cl⟩ L Er) ∧ Ext w col w' col' := by
  obtain ⟨Oy, h1, h2⟩ := h.rs
  refine (rs_set yb Oy Er row cl L A cap w h1 hs hA.1 hl).mono ?_
  rintro e w' ⟨Oy', rfl, k1, k2, k3⟩
  exact ⟨rfl, h.rset h2 k1 k2 k3⟩
theorem bs_touch (row cl : Int) (fm : Bool) (h : BS w bb db mb sm yb rb col N n m pk f Es Er) (hrc : rngC ⟨row, cl⟩) (hN : N ≤ 1099511627776) (hn : n < 2305843009213693952) :
    Calls Try.prog 17 #[.pointer (some ⟨mb, 0, none⟩), .agg #[.int .i64 row, .int .i64 cl], .bool fm] w fun e w' => e = .returned (.tuple #[]) ∧ ∃ f' pk', BS w' bb db mb sm yb rb col N (n + 2 * Es.length + 1) m pk' f' Es Er ∧ Ext w col w' col ∧ TMay Es ⟨row, cl⟩ fm f f' pk pk' := by
  obtain ⟨Ow, h1, h2⟩ := h.ds
  have hno : ∀ z, col z = 2 → ¬ Ow z := fun z hz h => by rw [h2 z h] at hz; cases hz
  refine (mtouch_any row cl fm h.mm h1 hN (hno _ h.cmb) (hno _ h.csm) hrc hn).mono ?_
  rintro e w' ⟨rfl, ⟨pk', f', k1, k2⟩, k3⟩
  obtain ⟨k4, k5⟩ := h.mset k1 k3
  exact ⟨rfl, f', pk', k4, k5, k2⟩
theorem bs_rtouch (row cl : Int) (fm : Bool) (h : BS w bb db mb sm yb rb col N n m pk f Es Er) (hs : SrtE Er) (hl : (m + 2 * Er.length + 4) * 24 ≤ 140737488355328) (hE : (Er.length + 1) * 56 ≤ 140737488355328) :
    Calls Try.prog 28 #[.pointer (some ⟨rb, 0, none⟩), .agg #[.int .i64 row, .int .i64 cl], .bool fm] w fun e w' => e = .returned (.tuple #[]) ∧ ∃ col', BS w' bb db mb sm yb rb col' N n (m + 2 * Er.length + 2) pk f Es Er ∧ Ext w col w' col' := by
  obtain ⟨Oy, e1, e2⟩ := h.rs
  obtain ⟨O, pr, M, r1, r2, r3⟩ := h.rk
  refine (rtouch_any row cl fm r1 e1 (fun z hz hz' => by have := e2 z hz; rw [r3 z hz'] at this; cases this) hs (Nat.le_trans (Nat.mul_le_mul_right 24 (by omega)) hl) hE).mono ?_
  rintro e w' ⟨rfl, pr', O', M', k1, k2, k3, k4⟩
  exact ⟨rfl, h.kset r3 k1 (by omega) k3 k4⟩
theorem bs_clean (row cl : Int) (h : BS w bb db mb sm yb rb col N n m pk f Es Er) (hrc : rngC ⟨row, cl⟩) (hn : n < 4611686018427387904) :
    Calls Try.prog 29 #[.pointer (some ⟨mb, 0, none⟩), .agg #[.int .i64 row, .int .i64 cl]] w fun e w' => e = .returned (.tuple #[]) ∧ BS w' bb db mb sm yb rb col N n m pk (clnS f ⟨row, cl⟩) Es Er ∧ Ext w col w' col := by
  refine (mclean_any row cl h.mm hrc hn).mono ?_
  rintro e w' ⟨rfl, k1, k2⟩
  obtain ⟨k4, k5⟩ := h.mset k1 (k2.wide (fun z hz => .inr hz))
  exact ⟨rfl, k4, k5⟩
theorem bs_rclean (row cl : Int) (h : BS w bb db mb sm yb rb col N n m pk f Es Er) (hl : (m + 2) * 24 ≤ 140737488355328) :
    Calls Try.prog 30 #[.pointer (some ⟨rb, 0, none⟩), .agg #[.int .i64 row, .int .i64 cl]] w fun e w' => e = .returned (.tuple #[]) ∧ ∃ col', BS w' bb db mb sm yb rb col' N n m pk f Es Er ∧ Ext w col w' col' := by
  obtain ⟨O, pr, M, r1, r2, r3⟩ := h.rk
  refine (rkclean_any row cl r1 (Nat.le_trans (Nat.mul_le_mul_right 24 (by omega)) hl)).mono ?_
  rintro e w' ⟨rfl, M', k0, O', k1, k3, k4⟩
  exact ⟨rfl, h.kset r3 k1 (by omega) k3 k4⟩
end
theorem rk_new {w : World} {yb : Nat} : RK (w.alloc (.cells #[.slice none 0 0, .pointer (some ⟨yb, 0, none⟩), .int .i64 0] 67)) w.heap.size yb 0 (fun z => z = w.heap.size) [] :=
  ⟨none, 0, Blk.new w rfl 67 #[.slice none 0 0, .pointer (some ⟨yb, 0, none⟩), .int .i64 0], OL.nil _ _, rfl, fun g off h => (by cases h), fun z hz => by simp [hz]⟩
set_option maxHeartbeats 3200000 in
set_option maxRecDepth 100000 in
theorem begin_any (w : World) : Calls Try.prog 7 #[] w fun e w' => ∃ bb db mb sm yb rb col, e = .returned (.pointer (some ⟨bb, 0, none⟩)) ∧ BS w' bb db mb sm yb rb col 0 0 0 0 (fun _ => none) [] [] ∧ (∀ z, col z ≠ 0 → w.heap.size ≤ z) ∧ Below w.heap.size w w' := by
  go_enter Try.func7, Try.ntmps7
  go_wp2_with fail
  refine (ds_new _).mono ?_
  rintro e w1 ⟨db, Ow, rfl, hD, hOw, hb1⟩
  have hs1 := hb1.size
  go_upto_region 2 with fail
  have hy := rs_new (w := w1)
  have hB2 := bel_alloc (bel_refl w1) (.cells #[.slice none 0 0] 49)
  have hsz2 : (w1.alloc (.cells #[.slice none 0 0] 49)).heap.size = w1.heap.size + 1 := by simp
  have hD2 := hD.below hB2
  have hOl := hD.lt
  have hW2 := bel_call hb1 hB2
  generalize hwz : w1.alloc (.cells #[.slice none 0 0] 49) = w2 at hy hB2 hsz2 hD2 hW2 ⊢
  generalize hyz : w1.heap.size = yb at hy hOl hs1 hsz2 ⊢
  clear hwz hb1 hB2 hyz hD
  rw [← hsz2]
  have k3 := Blk.new w2 rfl 30 #[.pointer (some ⟨db, 0, none⟩), .pointer none, .pointer (some ⟨yb, 0, none⟩), .pointer none]
  have hB3 := bel_alloc (bel_refl w2) (.cells #[.pointer (some ⟨db, 0, none⟩), .pointer none, .pointer (some ⟨yb, 0, none⟩), .pointer none] 30)
  have hsz3 : (w2.alloc (.cells #[.pointer (some ⟨db, 0, none⟩), .pointer none, .pointer (some ⟨yb, 0, none⟩), .pointer none] 30)).heap.size = w2.heap.size + 1 := by simp
  have hD3 := hD2.below hB3
  have hy3 := hy.below hB3
  have hW3 := bel_call hW2 hB3
  generalize hwz : w2.alloc (.cells #[.pointer (some ⟨db, 0, none⟩), .pointer none, .pointer (some ⟨yb, 0, none⟩), .pointer none] 30) = w3 at k3 hB3 hsz3 hD3 hy3 hW3 ⊢
  generalize hbz : w2.heap.size = bb at k3 hsz2 hsz3 ⊢
  have hbb : yb < bb := by omega
  have hbs : bb < w3.heap.size := by omega
  clear hwz hB3 hbz hD2 hy hW2 hsz2 hsz3
  have q0 := k3.rd
  have l0 := k3.lt
  have z0 := k3.fz
  go_wp2_with fail
  refine (mnew_any db _).mono ?_
  rintro e w4 ⟨mb, sm, rfl, hM, hmb, hsm, hb4⟩
  have hne := hM.ne
  have hs4 := hb4.size
  replace k3 := k3.below hb4
  replace hD3 := hD3.below hb4
  replace hy3 := hy3.below hb4
  replace hW3 := bel_call hW3 hb4
  have q0 := k3.rd
  have l0 := k3.lt
  have z0 := k3.fz
  go_upto_region 5 with fail
  have hF5 : Frm (fun z => z = bb) w4 (w4.setCell ⟨bb, 1, none⟩ (.pointer (some ⟨mb, 0, none⟩))) := (Frm.refl (fun z => z = bb) w4).set (.inl rfl) _
  have k5 : Blk (w4.setCell ⟨bb, 1, none⟩ (.pointer (some ⟨mb, 0, none⟩))) bb 30 #[.pointer (some ⟨db, 0, none⟩), .pointer (some ⟨mb, 0, none⟩), .pointer (some ⟨yb, 0, none⟩), .pointer none] := k3.put 1 _
  have hD5 := hD3.frm hF5 (fun z hz e => by have := hOl z hz; omega)
  have hy5 := hy3.frm hF5 (fun z hz e => by omega)
  have hM5 := hM.frm hF5 (by omega) (by omega)
  have hW5 := hF5.bel hW3 (fun z hz => by omega)
  have hs5 := hF5.size
  have hmbl := hM5.top.lt
  have hsml := hM5.sts.lt
  have hOl5 := hD5.lt
  have hyl5 := hy5.lt
  generalize hwz : w4.setCell ⟨bb, 1, none⟩ (.pointer (some ⟨mb, 0, none⟩)) = w5 at hF5 k5 hD5 hy5 hM5 hW5 hs5 hmbl hsml hOl5 hyl5 ⊢
  clear hwz q0 l0 z0 k3 hD3 hy3 hM hW3 hF5 hb4
  have q0 := k5.rd
  have l0 := k5.lt
  have z0 := k5.fz
  have hk6 := rk_new (w := w5) (yb := yb)
  have hB6 := bel_alloc (bel_refl w5) (.cells #[.slice none 0 0, .pointer (some ⟨yb, 0, none⟩), .int .i64 0] 67)
  have HSZ6 : Hid ((w5.alloc (.cells #[.slice none 0 0, .pointer (some ⟨yb, 0, none⟩), .int .i64 0] 67)).heap.size = w5.heap.size + 1) := Lib.hid (by simp)
  have k6 := k5.below hB6
  have z6 := k6.fz
  have q6 := k6.rd
  have l6 := k6.lt
  go_wp2_with fail
  go_ret
  clear hB6 k6 z6 q6 l6 hk6
  have hsz6 := HSZ6.out
  have hF6 : Frm (fun z => z = bb) w5 (w5.setCell ⟨bb, 3, none⟩ (.pointer (some ⟨w5.heap.size, 0, none⟩))) := (Frm.refl (fun z => z = bb) w5).set (.inl rfl) _
  have hs6 : (w5.setCell ⟨bb, 3, none⟩ (.pointer (some ⟨w5.heap.size, 0, none⟩))).heap.size = w5.heap.size := by simp
  have k6 : Blk (w5.setCell ⟨bb, 3, none⟩ (.pointer (some ⟨w5.heap.size, 0, none⟩))) bb 30 #[.pointer (some ⟨db, 0, none⟩), .pointer (some ⟨mb, 0, none⟩), .pointer (some ⟨yb, 0, none⟩), .pointer (some ⟨w5.heap.size, 0, none⟩)] := k5.put 3 _
  have hD6 := hD5.frm hF6 (fun z hz e => by have := hOl z hz; omega)
  have hy6 := hy5.frm hF6 (fun z hz e => by omega)
  have hM6 := hM5.frm hF6 (by omega) (by omega)
  have hW6 := hF6.bel hW5 (fun z hz => by omega)
  have hk6 := rk_new (w := w5.setCell ⟨bb, 3, none⟩ (.pointer (some ⟨w5.heap.size, 0, none⟩))) (yb := yb)
  rw [hs6] at hk6
  have hB7 := bel_alloc (bel_refl (w5.setCell ⟨bb, 3, none⟩ (.pointer (some ⟨w5.heap.size, 0, none⟩)))) (.cells #[.slice none 0 0, .pointer (some ⟨yb, 0, none⟩), .int .i64 0] 67)
  have hsz7 : ((w5.setCell ⟨bb, 3, none⟩ (.pointer (some ⟨w5.heap.size, 0, none⟩))).alloc (.cells #[.slice none 0 0, .pointer (some ⟨yb, 0, none⟩), .int .i64 0] 67)).heap.size = w5.heap.size + 1 := by simp
  obtain ⟨col, hcol⟩ : ∃ col : Nat → Nat, ∀ z, (z = bb → col z = 1) ∧ (z = mb ∨ z = sm → col z = 2) ∧ (Ow z → col z = 3) ∧ (z = yb → col z = 4) ∧ (z = w5.heap.size → col z = 5) ∧ (col z ≠ 0 → w.heap.size ≤ z ∧ z < w5.heap.size + 1) := by
    refine ⟨fun z => if z = bb then 1 else if z = mb ∨ z = sm then 2 else if z = yb then 4 else if z = w5.heap.size then 5 else @ite _ (Ow z) (Classical.propDecidable _) 3 0, fun z => ⟨fun h => if_pos h, fun h => ?_, fun h => ?_, fun h => ?_, fun h => ?_, fun h => ?_⟩⟩
    · dsimp only
      rw [if_neg (by omega), if_pos h]
    · have h1 := hOl z h
      dsimp only
      rw [if_neg (by omega), if_neg (by omega), if_neg (by omega), if_neg (by omega), if_pos h]
    · dsimp only
      rw [if_neg (by omega), if_neg (by omega), if_pos h]
    · dsimp only
      rw [if_neg (by omega), if_neg (by omega), if_neg (by omega), if_pos h]
    · dsimp only at h
      by_cases a1 : z = bb
      · omega
      · rw [if_neg a1] at h
        by_cases a2 : z = mb ∨ z = sm
        · omega
        · rw [if_neg a2] at h
          by_cases a3 : z = yb
          · omega
          · rw [if_neg a3] at h
            by_cases a4 : z = w5.heap.size
            · omega
            · rw [if_neg a4] at h
              by_cases a5 : Ow z
              · have := hOw z a5; have := hOl5 z a5; omega
              · rw [if_neg a5] at h
                exact absurd rfl h
  exact ⟨bb, db, mb, sm, yb, w5.heap.size, col, by simp, ⟨k6.below hB7, (hcol bb).1 rfl, fun z hz => by have := ((hcol z).2.2.2.2.2 hz).2; omega, hM6.below hB7, (hcol mb).2.1 (.inl rfl), (hcol sm).2.1 (.inr rfl), ⟨Ow, hD6.below hB7, fun z => (hcol z).2.2.1⟩, ⟨_, hy6.below hB7, fun z => (hcol z).2.2.2.1⟩, _, 0, [], hk6, Nat.le_refl _, fun z => (hcol z).2.2.2.2.1⟩, fun z hz => ((hcol z).2.2.2.2.2 hz).1, bel_call hW6 hB7⟩
/-- Which of four. -/
def pk4 (c : Int) : Int := (if c < 0 then -(c + 1) else c) % 4
theorem pk4_in (c : Int) : 0 ≤ pk4 c ∧ pk4 c < 4 := by unfold pk4; omega
theorem pick_any (c : Int) (w : World) (hc : -9223372036854775808 ≤ c ∧ c ≤ 9223372036854775807) :
    Calls Try.prog 8 #[.int .i64 c, .int .i64 4] w fun e w' => e = .returned (.int .i64 (pk4 c)) ∧ w = w' := by
  by_cases h : c < 0
  · have hpe : (-(c + 1)).tmod 4 = pk4 c := by unfold pk4; rw [if_pos h]; exact Int.tmod_eq_emod_of_nonneg (by omega)
    have hin := pk4_in c
    go_enter Try.func8, Try.ntmps8
    go_wp2_with fail
    go_ret
    exact ⟨by simp, rfl⟩
  · have hpe : c.tmod 4 = pk4 c := by unfold pk4; rw [if_neg h]; exact Int.tmod_eq_emod_of_nonneg (by omega)
    have hin := pk4_in c
    go_enter Try.func8, Try.ntmps8
    go_wp2_with fail
    go_ret
    exact ⟨by simp, rfl⟩
end Go.Proofs.Ytdionganlmnlkaa

/-
  A store's cells in memory: the words (what the blocks hold, which are the store's own, what a frame leaves), and what a write does to them. Over any program. Conditions: those of each theorem.
-/
import Derived.Test.YtiiiiplfcaeegaaRows
import Derived.Test.YtiiiiplfcaeegaaBase
import Derived.WalkSpells
import Derived.WalkLawsBesides
import Derived.Outline
namespace Go.Proofs.Ytiiiiplfcaeegaa
open Go.ChangeShapes Go.WideShapes Go.ChangeAt Go.RowKit Go.Deep

abbrev Grid := Nat → Nat → Option Addr

def upd {α : Type} (s : Nat → α) (n : Nat) (v : α) : Nat → α := fun j => if j = n then v else s j
theorem upd_same {α : Type} (s : Nat → α) (n : Nat) (v : α) : upd s n v n = v := by simp [upd]
theorem upd_ne {α : Type} (s : Nat → α) {n j : Nat} (v : α) (h : j ≠ n) : upd s n v j = s j := by simp [upd, h]

/-- How many of a row's cells have a content. -/
def rcountTo (g : Grid) (r : Nat) : Nat → Nat
  | 0 => 0
  | c + 1 => rcountTo g r c + (g r c).isSome.toNat
def rcount (g : Grid) (r : Nat) : Nat := rcountTo g r 256
def totalTo (g : Grid) : Nat → Nat
  | 0 => 0
  | r + 1 => totalTo g r + rcount g r
def total (g : Grid) : Nat := totalTo g 4096

def ptrV : Option Nat → Value
  | none => .pointer none
  | some b => .pointer (some ⟨b, 0, none⟩)
def rowV : Option Nat → Value
  | none => .slice none 0 0
  | some b => .slice (some ⟨b, 0, none⟩) 256 256
theorem ptrV_eq (o : Option Nat) : ptrV o = .pointer (o.map fun b => ⟨b, 0, none⟩) := by cases o <;> rfl
def szV : Option Nat → Nat
  | none => 0
  | some _ => 256
theorem rowV_eq (o : Option Nat) : rowV o = .slice (o.map fun b => ⟨b, 0, none⟩) (szV o) (szV o) := by cases o <;> rfl
def sf (ch : Nat → Option Nat) (cnt : Int) (i : Nat) : Value := if i < 257 then ptrV (ch i) else .int .i64 cnt
def cf (rb : Nat → Option Nat) (g : Grid) (i k : Nat) : Value := if k < 16 then rowV (rb (i * 16 + k)) else .int .i64 (rcount g (i * 16 + (k - 16)))
def pf (g : Grid) (r c : Nat) : Value := .pointer (g r c)

/-- The store at block sb: its chunks' blocks, its rows' blocks, its contents, how many. -/
structure SIs (w : World) (sb : Nat) (ch rb : Nat → Option Nat) (g : Grid) (cnt : Int) : Prop where
  top : w.rowIs sb 72 258 (sf ch cnt)
  chk : ∀ i, i < 257 → ∀ b, ch i = some b → w.rowIs b 78 32 (cf rb g i)
  row : ∀ r, r < 4096 → ∀ b, rb r = some b → w.rowIs b 27 256 (pf g r)
  chi : ∀ i j b, i < 257 → j < 257 → ch i = some b → ch j = some b → i = j
  rbi : ∀ r q b, r < 4096 → q < 4096 → rb r = some b → rb q = some b → r = q
  up : ∀ r, r < 4096 → ch (r / 16) = none → rb r = none
  emp : ∀ r, r < 4096 → rb r = none → ∀ c, c < 256 → g r c = none
  num : cnt = total g

def own (sb : Nat) (ch rb : Nat → Option Nat) (b : Nat) : Prop := b = sb ∨ (∃ i, i < 257 ∧ ch i = some b) ∨ (∃ r, r < 4096 ∧ rb r = some b)

/-- Outside S nothing has turned. -/
structure Frm (S : Nat → Prop) (w w' : World) : Prop where
  os : w'.os = w.os
  tape : w'.tape = w.tape
  output : w'.output = w.output
  size : w.heap.size ≤ w'.heap.size
  block : ∀ k, k < w.heap.size → ¬ S k → w'.heap[k]? = w.heap[k]?

section
variable {S : Nat → Prop} {a w w' : World}
theorem Frm.refl (S : Nat → Prop) (w : World) : Frm S w w := ⟨rfl, rfl, rfl, Nat.le_refl _, fun _ _ _ => rfl⟩
theorem Frm.call (h : Frm S a w) (hb : Below w.heap.size w w') : Frm S a w' :=
  ⟨hb.os.trans h.os, hb.tape.trans h.tape, hb.output.trans h.output, Nat.le_trans h.size hb.size, fun k hk hn => (hb.block k (Nat.lt_of_lt_of_le hk h.size)).trans (h.block k hk hn)⟩
theorem Frm.alloc (h : Frm S a w) (o : Obj) : Frm S a (w.alloc o) := h.call (bel_alloc (bel_refl w) o)
theorem Frm.drew (h : Frm S a w) : Frm S a w.drew := ⟨h.os, h.tape, h.output, h.size, h.block⟩
theorem Frm.drewN (h : Frm S a w) (n : Nat) : Frm S a (w.drewN n) := ⟨h.os, h.tape, h.output, h.size, h.block⟩
theorem Frm.set (h : Frm S a w) {b o : Nat} (hb : S b ∨ a.heap.size ≤ b) (u : Value) : Frm S a (w.setCell ⟨b, o, none⟩ u) :=
  ⟨h.os, h.tape, h.output, by simpa [World.setCell] using h.size, fun k hk hn => (Below.heap_setCell w ⟨b, o, none⟩ u k (by
    rintro rfl
    rcases hb with hb | hb
    · exact hn hb
    · omega)).trans (h.block k hk hn)⟩
theorem Frm.below (h : Frm S a w) (hS : ∀ k, S k → a.heap.size ≤ k) : Below a.heap.size a w :=
  ⟨h.os, h.tape, h.output, h.size, fun k hk => h.block k hk (fun hk' => by have := hS k hk'; omega)⟩
theorem Frm.then_ {S' : Nat → Prop} (h : Frm S a w) (k : Frm S' w w') (hS : ∀ x, S' x → x < a.heap.size → S x) : Frm S a w' :=
  ⟨k.os.trans h.os, k.tape.trans h.tape, k.output.trans h.output, Nat.le_trans h.size k.size, fun i hi hn => (k.block i (Nat.lt_of_lt_of_le hi h.size) (fun hs => hn (hS i hs hi))).trans (h.block i hi hn)⟩
theorem Frm.row {b t n : Nat} {f : Nat → Value} (h : Frm S w w') (hr : w.rowIs b t n f) (hn : ¬ S b) : w'.rowIs b t n f := hr.of_block (h.block b hr.lt hn)
theorem Frm.blk {g : Nat} {t : TypeId} {cs : Array Value} (h : Frm S w w') (hr : Blk w g t cs) (hn : ¬ S g) : Blk w' g t cs := (h.block g hr.lt hn).trans hr
/-- Below B. -/
theorem Frm.bel (h : Frm S w w') {a : World} (hw : Below a.heap.size a w) (hS : ∀ k, S k → a.heap.size ≤ k) : Below a.heap.size a w' :=
  hw.trans ⟨h.os, h.tape, h.output, h.size, fun k hk => h.block k (Nat.lt_of_lt_of_le hk hw.size) (fun hs => by have := hS k hs; omega)⟩
end

section
variable {w w' : World} {sb : Nat} {ch rb : Nat → Option Nat} {g : Grid} {cnt : Int}

theorem SIs.keep (h : SIs w sb ch rb g cnt) (hk : ∀ b, own sb ch rb b → w'.heap[b]? = w.heap[b]?) : SIs w' sb ch rb g cnt :=
  { h with
    top := h.top.of_block (hk sb (.inl rfl))
    chk := fun i hi b hb => (h.chk i hi b hb).of_block (hk b (.inr (.inl ⟨i, hi, hb⟩)))
    row := fun r hr b hb => (h.row r hr b hb).of_block (hk b (.inr (.inr ⟨r, hr, hb⟩))) }
theorem SIs.own_lt (h : SIs w sb ch rb g cnt) {b : Nat} (hb : own sb ch rb b) : b < w.heap.size := by
  rcases hb with rfl | ⟨i, hi, hb⟩ | ⟨r, hr, hb⟩
  · exact h.top.lt
  · exact (h.chk i hi b hb).lt
  · exact (h.row r hr b hb).lt
theorem SIs.below (h : SIs w sb ch rb g cnt) (hb : Below w.heap.size w w') : SIs w' sb ch rb g cnt := h.keep fun b ho => hb.block b (h.own_lt ho)
theorem SIs.alloc (h : SIs w sb ch rb g cnt) (o : Obj) : SIs (w.alloc o) sb ch rb g cnt := h.below (bel_alloc (bel_refl w) o)
theorem SIs.drew (h : SIs w sb ch rb g cnt) : SIs w.drew sb ch rb g cnt := h.keep fun _ _ => rfl
theorem SIs.drewN (h : SIs w sb ch rb g cnt) (n : Nat) : SIs (w.drewN n) sb ch rb g cnt := h.keep fun _ _ => rfl
theorem SIs.frm {S : Nat → Prop} (h : SIs w sb ch rb g cnt) (hf : Frm S w w') (hS : ∀ b, own sb ch rb b → ¬ S b) : SIs w' sb ch rb g cnt := h.keep fun b ho => hf.block b (h.own_lt ho) (hS b ho)

/-- Blocks of unlike types are unlike. -/
theorem row_ne {b c t u n m : Nat} {f k : Nat → Value} (h : w.rowIs b t n f) (h' : w.rowIs c u m k) (hne : t ≠ u) : b ≠ c := by
  rintro rfl
  obtain ⟨c1, e1, _⟩ := h
  obtain ⟨c2, e2, _⟩ := h'
  rw [e1] at e2
  injection e2 with e2
  injection e2 with _ e2
  exact hne e2
end

theorem own_upd_ch {sb i n b : Nat} {ch rb : Nat → Option Nat} (h : own sb (upd ch i (some n)) rb b) : own sb ch rb b ∨ b = n := by
  rcases h with h | ⟨j, hj, h⟩ | h
  · exact .inl (.inl h)
  · by_cases e : j = i
    · subst e
      rw [upd_same] at h
      cases h
      exact .inr rfl
    · rw [upd_ne _ _ e] at h
      exact .inl (.inr (.inl ⟨j, hj, h⟩))
  · exact .inl (.inr (.inr h))
theorem own_upd_rb {sb r n b : Nat} {ch rb : Nat → Option Nat} (h : own sb ch (upd rb r (some n)) b) : own sb ch rb b ∨ b = n := by
  rcases h with h | h | ⟨j, hj, h⟩
  · exact .inl (.inl h)
  · exact .inl (.inr (.inl h))
  · by_cases e : j = r
    · subst e
      rw [upd_same] at h
      cases h
      exact .inr rfl
    · rw [upd_ne _ _ e] at h
      exact .inl (.inr (.inr ⟨j, hj, h⟩))

/-! Counting. -/
def gset (g : Grid) (r c : Nat) (x : Option Addr) : Grid := fun r' c' => if r' = r ∧ c' = c then x else g r' c'
theorem gset_same (g : Grid) (r c : Nat) (x : Option Addr) : gset g r c x r c = x := by simp [gset]
theorem gset_ne (g : Grid) (r c : Nat) (x : Option Addr) {r' c' : Nat} (h : ¬ (r' = r ∧ c' = c)) : gset g r c x r' c' = g r' c' := by simp [gset, h]

theorem rcountTo_ne (g : Grid) (r c : Nat) (x : Option Addr) {r' : Nat} (h : r' ≠ r) : ∀ n, rcountTo (gset g r c x) r' n = rcountTo g r' n
  | 0 => rfl
  | n + 1 => by
    unfold rcountTo
    rw [rcountTo_ne g r c x h n, gset_ne _ _ _ _ (fun e => h e.1)]
theorem rcountTo_set (g : Grid) (r c : Nat) (x : Option Addr) : ∀ n, rcountTo (gset g r c x) r n + (if c < n then (g r c).isSome.toNat else 0) = rcountTo g r n + (if c < n then x.isSome.toNat else 0)
  | 0 => by simp [rcountTo]
  | n + 1 => by
    have ih := rcountTo_set g r c x n
    unfold rcountTo
    by_cases h : n = c
    · subst h
      rw [if_neg (by omega), if_neg (by omega)] at ih
      rw [gset_same, if_pos (by omega), if_pos (by omega)]
      omega
    · rw [gset_ne _ _ _ _ (fun e => h e.2)]
      by_cases hlt : c < n
      · rw [if_pos hlt, if_pos hlt] at ih
        rw [if_pos (by omega), if_pos (by omega)]
        omega
      · rw [if_neg hlt, if_neg hlt] at ih
        rw [if_neg (by omega), if_neg (by omega)]
        omega
theorem rcount_ne (g : Grid) (r c : Nat) (x : Option Addr) {r' : Nat} (h : r' ≠ r) : rcount (gset g r c x) r' = rcount g r' := rcountTo_ne g r c x h 256
theorem rcount_set (g : Grid) (r c : Nat) (x : Option Addr) (hc : c < 256) : rcount (gset g r c x) r + (g r c).isSome.toNat = rcount g r + x.isSome.toNat := by
  have := rcountTo_set g r c x 256
  rw [if_pos hc, if_pos hc] at this
  exact this
theorem totalTo_set (g : Grid) (r c : Nat) (x : Option Addr) (hc : c < 256) : ∀ n, totalTo (gset g r c x) n + (if r < n then (g r c).isSome.toNat else 0) = totalTo g n + (if r < n then x.isSome.toNat else 0)
  | 0 => by simp [totalTo]
  | n + 1 => by
    have ih := totalTo_set g r c x hc n
    unfold totalTo
    by_cases h : n = r
    · subst h
      have := rcount_set g n c x hc
      rw [if_neg (by omega), if_neg (by omega)] at ih
      rw [if_pos (by omega), if_pos (by omega)]
      omega
    · rw [rcount_ne _ _ _ _ h]
      by_cases hlt : r < n
      · rw [if_pos hlt, if_pos hlt] at ih
        rw [if_pos (by omega), if_pos (by omega)]
        omega
      · rw [if_neg hlt, if_neg hlt] at ih
        rw [if_neg (by omega), if_neg (by omega)]
        omega
theorem total_set (g : Grid) (r c : Nat) (x : Option Addr) (hr : r < 4096) (hc : c < 256) : total (gset g r c x) + (g r c).isSome.toNat = total g + x.isSome.toNat := by
  have := totalTo_set g r c x hc 4096
  rw [if_pos hr, if_pos hr] at this
  exact this
theorem rcountTo_le (g : Grid) (r : Nat) : ∀ n, rcountTo g r n ≤ n
  | 0 => Nat.le_refl _
  | n + 1 => by
    have := rcountTo_le g r n
    unfold rcountTo
    cases (g r n).isSome <;> simp <;> omega
theorem rcount_le (g : Grid) (r : Nat) : rcount g r ≤ 256 := rcountTo_le g r 256
theorem totalTo_le (g : Grid) : ∀ n, totalTo g n ≤ n * 256
  | 0 => Nat.le_refl _
  | n + 1 => by
    have := totalTo_le g n
    have := rcount_le g n
    unfold totalTo
    omega
theorem total_le (g : Grid) : total g ≤ 1048576 := totalTo_le g 4096
theorem total_zero : total (fun _ _ => none) = 0 := by
  have h1 : ∀ r n, rcountTo (fun _ _ => none) r n = 0 := by
    intro r n
    induction n with
    | zero => rfl
    | succ n ih => unfold rcountTo; rw [ih]; rfl
  have h2 : ∀ n, totalTo (fun _ _ => none) n = 0 := by
    intro n
    induction n with
    | zero => rfl
    | succ n ih => unfold totalTo rcount; rw [ih, h1]
  exact h2 4096

/-! What a write does. -/
section
variable {w : World} {sb : Nat} {ch rb : Nat → Option Nat} {g : Grid} {cnt : Int}

/-- A new chunk. -/
theorem SIs.addChunk (h : SIs w sb ch rb g cnt) (i : Nat) (hi : i < 256) (hno : ch i = none) {n : Nat} (hn : w.rowIs n 78 32 (cf (fun _ => none) (fun _ _ => none) 0)) (hfree : ¬ own sb ch rb n) :
    SIs (w.setCell ⟨sb, i, none⟩ (.pointer (some ⟨n, 0, none⟩))) sb (upd ch i (some n)) rb g cnt := by
  have hsn : sb ≠ n := fun e => hfree (.inl e.symm)
  have hrow0 : ∀ k, k < 16 → rb (i * 16 + k) = none := fun k hk => h.up _ (by omega) (by rw [show (i * 16 + k) / 16 = i by omega]; exact hno)
  have hrc : ∀ k, k < 16 → rcount g (i * 16 + k) = 0 := by
    intro k hk
    have he := h.emp _ (by omega) (hrow0 k hk)
    have : ∀ m, m ≤ 256 → rcountTo g (i * 16 + k) m = 0 := by
      intro m
      induction m with
      | zero => intro _; rfl
      | succ m ih => intro hm; unfold rcountTo; rw [ih (by omega), he m (by omega)]; rfl
    exact this 256 (Nat.le_refl _)
  refine ⟨?_, ?_, ?_, ?_, h.rbi, ?_, h.emp, h.num⟩
  · refine (h.top.set _ _).congr fun j hj => ?_
    by_cases e : j = i
    · subst e
      rw [if_pos rfl]
      unfold sf
      rw [if_pos (by omega), upd_same]
      rfl
    · rw [if_neg e]
      unfold sf
      rw [upd_ne _ _ e]
  · intro j hj b hb
    by_cases e : j = i
    · subst e
      rw [upd_same] at hb
      cases hb
      refine (hn.setOther (by show n ≠ sb; exact hsn.symm) _).congr fun k hk => ?_
      unfold cf
      by_cases hk16 : k < 16
      · rw [if_pos hk16, if_pos hk16, hrow0 k hk16]
      · rw [if_neg hk16, if_neg hk16, hrc (k - 16) (by omega)]
        have : rcount (fun _ _ => none) (0 * 16 + (k - 16)) = 0 := by
          have h1 : ∀ r n, rcountTo (fun _ _ => none) r n = 0 := by
            intro r n
            induction n with
            | zero => rfl
            | succ n ih => unfold rcountTo; rw [ih]; rfl
          exact h1 _ 256
        rw [this]
    · rw [upd_ne _ _ e] at hb
      have hr := h.chk j hj b hb
      exact hr.setOther (by show b ≠ sb; exact row_ne hr h.top (by decide)) _
  · intro r hr b hb
    have hh := h.row r hr b hb
    exact hh.setOther (by show b ≠ sb; exact row_ne hh h.top (by decide)) _
  · intro j l b hj hl hb1 hb2
    by_cases e1 : j = i
    · by_cases e2 : l = i
      · omega
      · subst e1
        rw [upd_same] at hb1
        rw [upd_ne _ _ e2] at hb2
        cases hb1
        exact absurd (.inr (.inl ⟨l, hl, hb2⟩)) hfree
    · by_cases e2 : l = i
      · subst e2
        rw [upd_same] at hb2
        rw [upd_ne _ _ e1] at hb1
        cases hb2
        exact absurd (.inr (.inl ⟨j, hj, hb1⟩)) hfree
      · rw [upd_ne _ _ e1] at hb1
        rw [upd_ne _ _ e2] at hb2
        exact h.chi j l b hj hl hb1 hb2
  · intro r hr he
    by_cases e : r / 16 = i
    · rw [e, upd_same] at he
      cases he
    · rw [upd_ne _ _ e] at he
      exact h.up r hr he

/-- A new row. -/
theorem SIs.addRow (h : SIs w sb ch rb g cnt) (i k : Nat) (hi : i < 256) (hk : k < 16) {b : Nat} (hb : ch i = some b) (hno : rb (i * 16 + k) = none) {n : Nat} (hn : w.rowIs n 27 256 (fun _ => .pointer none)) (hfree : ¬ own sb ch rb n) :
    SIs (w.setCell ⟨b, k, none⟩ (.slice (some ⟨n, 0, none⟩) 256 256)) sb ch (upd rb (i * 16 + k) (some n)) g cnt := by
  have hcb := h.chk i (by omega) b hb
  have hnb : n ≠ b := fun e => hfree (.inr (.inl ⟨i, by omega, e ▸ hb⟩))
  refine ⟨h.top.setOther (by show sb ≠ b; exact row_ne h.top hcb (by decide)) _, ?_, ?_, h.chi, ?_, ?_, ?_, h.num⟩
  · intro j hj c hc
    by_cases e : j = i
    · subst e
      rw [hb] at hc
      cases hc
      refine (hcb.set _ _).congr fun l hl => ?_
      by_cases e2 : l = k
      · subst e2
        rw [if_pos rfl]
        unfold cf
        rw [if_pos hk, upd_same]
        rfl
      · rw [if_neg e2]
        unfold cf
        by_cases hl16 : l < 16
        · rw [if_pos hl16, if_pos hl16, upd_ne _ _ (by omega)]
        · rw [if_neg hl16, if_neg hl16]
    · have hcc := h.chk j hj c hc
      refine (hcc.setOther (by show c ≠ b; rintro rfl; exact e (h.chi j i c hj (by omega) hc hb)) _).congr fun l hl => ?_
      unfold cf
      by_cases hl16 : l < 16
      · rw [if_pos hl16, if_pos hl16, upd_ne _ _ (by omega)]
      · rw [if_neg hl16, if_neg hl16]
  · intro r hr c hc
    by_cases e : r = i * 16 + k
    · subst e
      rw [upd_same] at hc
      cases hc
      refine (hn.setOther (by show n ≠ b; exact hnb) _).congr fun l hl => ?_
      unfold pf
      rw [h.emp _ hr hno l hl]
    · rw [upd_ne _ _ e] at hc
      have hcc := h.row r hr c hc
      exact hcc.setOther (by show c ≠ b; exact row_ne hcc hcb (by decide)) _
  · intro r q c hr hq hc1 hc2
    by_cases e1 : r = i * 16 + k
    · by_cases e2 : q = i * 16 + k
      · omega
      · subst e1
        rw [upd_same] at hc1
        rw [upd_ne _ _ e2] at hc2
        cases hc1
        exact absurd (.inr (.inr ⟨q, hq, hc2⟩)) hfree
    · by_cases e2 : q = i * 16 + k
      · subst e2
        rw [upd_same] at hc2
        rw [upd_ne _ _ e1] at hc1
        cases hc2
        exact absurd (.inr (.inr ⟨r, hr, hc1⟩)) hfree
      · rw [upd_ne _ _ e1] at hc1
        rw [upd_ne _ _ e2] at hc2
        exact h.rbi r q c hr hq hc1 hc2
  · intro r hr he
    by_cases e : r = i * 16 + k
    · subst e
      rw [show (i * 16 + k) / 16 = i by omega, hb] at he
      cases he
    · rw [upd_ne _ _ e]
      exact h.up r hr he
  · intro r hr he
    by_cases e : r = i * 16 + k
    · subst e
      rw [upd_same] at he
      cases he
    · rw [upd_ne _ _ e] at he
      exact h.emp r hr he

/-- A content where there was one. -/
theorem SIs.over (h : SIs w sb ch rb g cnt) (r c : Nat) (hr : r < 4096) (hc : c < 256) {d : Nat} (hd : rb r = some d) (x : Addr) (hwas : (g r c).isSome = true) :
    SIs (w.setCell ⟨d, c, none⟩ (.pointer (some x))) sb ch rb (gset g r c (some x)) cnt := by
  have hrd := h.row r hr d hd
  refine ⟨h.top.setOther (by show sb ≠ d; exact row_ne h.top hrd (by decide)) _, ?_, ?_, h.chi, h.rbi, h.up, ?_, ?_⟩
  · intro j hj b hb
    have hcb := h.chk j hj b hb
    refine (hcb.setOther (by show b ≠ d; exact row_ne hcb hrd (by decide)) _).congr fun l hl => ?_
    unfold cf
    by_cases hl16 : l < 16
    · rw [if_pos hl16, if_pos hl16]
    · rw [if_neg hl16, if_neg hl16]
      by_cases e : j * 16 + (l - 16) = r
      · have := rcount_set g r c (some x) hc
        rw [hwas] at this
        rw [e, show rcount (gset g r c (some x)) r = rcount g r by simpa using this]
      · rw [rcount_ne _ _ _ _ e]
  · intro q hq b hb
    by_cases e : q = r
    · subst e
      rw [hd] at hb
      cases hb
      refine (hrd.set _ _).congr fun l hl => ?_
      unfold pf
      by_cases e2 : l = c
      · subst e2
        rw [if_pos rfl, gset_same]
      · rw [if_neg e2, gset_ne _ _ _ _ (fun e => e2 e.2)]
    · have hcb := h.row q hq b hb
      refine (hcb.setOther (by show b ≠ d; rintro rfl; exact e (h.rbi q r b hq hr hb hd)) _).congr fun l hl => ?_
      unfold pf
      rw [gset_ne _ _ _ _ (fun e2 => e e2.1)]
  · intro q hq he l hl
    rw [gset_ne _ _ _ _ (by rintro ⟨rfl, rfl⟩; rw [hd] at he; cases he)]
    exact h.emp q hq he l hl
  · have := total_set g r c (some x) hr hc
    rw [hwas] at this
    rw [show total (gset g r c (some x)) = total g by simpa using this]
    exact h.num

/-- A content where there was none: the row's count, the store's, and the cell. -/
theorem SIs.put (h : SIs w sb ch rb g cnt) (i k c : Nat) (hi : i < 256) (hk : k < 16) (hc : c < 256) {b d : Nat} (hb : ch i = some b) (hd : rb (i * 16 + k) = some d) (x : Addr) (hwas : g (i * 16 + k) c = none) :
    SIs (((w.setCell ⟨b, 16 + k, none⟩ (.int .i64 (rcount g (i * 16 + k) + 1))).setCell ⟨sb, 257, none⟩ (.int .i64 (cnt + 1))).setCell ⟨d, c, none⟩ (.pointer (some x))) sb ch rb (gset g (i * 16 + k) c (some x)) (cnt + 1) := by
  have hcb := h.chk i (by omega) b hb
  have hrd := h.row (i * 16 + k) (by omega) d hd
  have n1 : sb ≠ b := row_ne h.top hcb (by decide)
  have n2 : sb ≠ d := row_ne h.top hrd (by decide)
  have n3 : b ≠ d := row_ne hcb hrd (by decide)
  have hrc : rcount (gset g (i * 16 + k) c (some x)) (i * 16 + k) = rcount g (i * 16 + k) + 1 := by
    have := rcount_set g (i * 16 + k) c (some x) hc
    rw [hwas] at this
    simpa using this
  refine ⟨?_, ?_, ?_, h.chi, h.rbi, h.up, ?_, ?_⟩
  · refine ((((h.top.setOther (by show sb ≠ b; exact n1) _)).set _ _).setOther (by show sb ≠ d; exact n2) _).congr fun j hj => ?_
    unfold sf
    by_cases e : j = 257
    · subst e
      rw [if_pos rfl, if_neg (by omega)]
    · rw [if_neg e, if_pos (by omega), if_pos (by omega)]
  · intro j hj b' hb'
    have hcb' := h.chk j hj b' hb'
    by_cases e : j = i
    · subst e
      rw [hb] at hb'
      cases hb'
      refine (((hcb.set _ _).setOther (by show b ≠ sb; exact n1.symm) _).setOther (by show b ≠ d; exact n3) _).congr fun l hl => ?_
      unfold cf
      by_cases e2 : l = 16 + k
      · subst e2
        rw [if_pos rfl, if_neg (by omega), show j * 16 + (16 + k - 16) = j * 16 + k by omega, hrc]
        rfl
      · rw [if_neg e2]
        by_cases hl16 : l < 16
        · rw [if_pos hl16, if_pos hl16]
        · rw [if_neg hl16, if_neg hl16, rcount_ne _ _ _ _ (by omega)]
    · have n4 : b' ≠ b := by rintro rfl; exact e (h.chi j i b' hj (by omega) hb' hb)
      refine (((hcb'.setOther (by show b' ≠ b; exact n4) _).setOther (by show b' ≠ sb; exact (row_ne h.top hcb' (by decide)).symm) _).setOther (by show b' ≠ d; exact row_ne hcb' hrd (by decide)) _).congr fun l hl => ?_
      unfold cf
      by_cases hl16 : l < 16
      · rw [if_pos hl16, if_pos hl16]
      · rw [if_neg hl16, if_neg hl16, rcount_ne _ _ _ _ (by omega)]
  · intro q hq b' hb'
    have hcb' := h.row q hq b' hb'
    have m1 : b' ≠ b := (row_ne hcb hcb' (by decide)).symm
    have m2 : b' ≠ sb := (row_ne h.top hcb' (by decide)).symm
    by_cases e : q = i * 16 + k
    · subst e
      rw [hd] at hb'
      cases hb'
      refine (((hrd.setOther (by show d ≠ b; exact m1) _).setOther (by show d ≠ sb; exact m2) _).set _ _).congr fun l hl => ?_
      unfold pf
      by_cases e2 : l = c
      · subst e2
        rw [if_pos rfl, gset_same]
      · rw [if_neg e2, gset_ne _ _ _ _ (fun e => e2 e.2)]
    · refine (((hcb'.setOther (by show b' ≠ b; exact m1) _).setOther (by show b' ≠ sb; exact m2) _).setOther (by show b' ≠ d; rintro rfl; exact e (h.rbi q _ b' hq (by omega) hb' hd)) _).congr fun l hl => ?_
      unfold pf
      rw [gset_ne _ _ _ _ (fun e2 => e e2.1)]
  · intro q hq he l hl
    rw [gset_ne _ _ _ _ (by rintro ⟨rfl, rfl⟩; rw [hd] at he; cases he)]
    exact h.emp q hq he l hl
  · have := total_set g (i * 16 + k) c (some x) (by omega) hc
    rw [hwas] at this
    have h2 : total (gset g (i * 16 + k) c (some x)) = total g + 1 := by simpa using this
    rw [h2, h.num]
    rfl
end
end Go.Proofs.Ytiiiiplfcaeegaa

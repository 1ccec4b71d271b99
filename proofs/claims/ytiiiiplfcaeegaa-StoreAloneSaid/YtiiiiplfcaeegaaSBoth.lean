/-
  Both stores side by side in memory; contracts of pick, same, walks. Conditions: those of each theorem.
-/
import Derived.Test.YtiiiiplfcaeegaaSPure
import Derived.Deep.RegionHeld3
import Derived.StillTailTactics
namespace Go.Proofs.Ytiiiiplfcaeegaa
open Go.ChangeShapes Go.WideShapes Go.ChangeAt Go.RowKit Go.Deep

theorem pick_any (c n : Int) (w : World) (hn : 0 < n) (hn2 : n ≤ 1000) (hc : -9223372036854775808 ≤ c ∧ c ≤ 9223372036854775807) :
    Calls Try.prog 25 #[.int .i64 c, .int .i64 n] w fun e w' => ∃ p : Nat, (p : Int) < n ∧ e = .returned (.int .i64 p) ∧ w = w' := by
  have key : ∀ x : Int, 0 ≤ x → ∃ p : Nat, (p : Int) < n ∧ x.tmod n = p := fun x hx => by
    have h1 := Int.tmod_nonneg n hx
    have h2 := Int.tmod_lt_of_pos x hn
    exact ⟨(x.tmod n).toNat, by omega, by omega⟩
  have hz : ¬ n = 0 := by omega
  have hm1 : ¬ n = -1 := by omega
  by_cases h : c < 0
  · obtain ⟨p, hp, hpe⟩ := key (-(c + 1)) (by omega)
    go_enter Try.func25, Try.ntmps25
    go_wp2_with fail
    go_ret
    exact ⟨p, hp, by simp, rfl⟩
  · obtain ⟨p, hp, hpe⟩ := key c (by omega)
    go_enter Try.func25, Try.ntmps25
    go_wp2_with fail
    go_ret
    exact ⟨p, hp, by simp, rfl⟩

/-- The kind of a list of contents. -/
def KP : Knd Addr where
  t := 27
  size := 1
  bytes := 8
  enc x := [.pointer (some x)]
  len _ := rfl
  one x u hu := by
    simp at hu
    subst hu
    rfl
  pos := by omega
theorem info_ptr : (Try.prog.info? KP.t).map (fun i => (i.zero, i.size, i.bytes)) = some (some (.pointer none), KP.size, KP.bytes) := by kernel_rfl

/-- A store and the document's, side by side. -/
structure BIs (w : World) (bb sb yb lb lc : Nat) (Xs : List Addr) (ch rb : Nat → Option Nat) (cnt : Int) (L : List Itm) (A : Option Addr) (cap : Nat) : Prop where
  top : Blk w bb 57 #[.pointer (some ⟨sb, 0, none⟩), .pointer (some ⟨yb, 0, none⟩), .slice (some ⟨lb, 0, none⟩) 8 lc]
  lst : OL KP w 0 (.slice (some ⟨lb, 0, none⟩) 8 lc) Xs
  len : Xs.length = 8
  sto : SIs w sb ch rb (gOf Xs L) cnt
  ref : YIs w yb L A cap
  srt : Srt Xs.length L
  far : ¬ own sb ch rb lb
  cap : L.length ≤ 1048576

section
variable {w w' : World} {bb sb yb lb lc : Nat} {Xs : List Addr} {ch rb : Nat → Option Nat} {cnt : Int} {L : List Itm} {A : Option Addr} {cap : Nat}
theorem BIs.below (h : BIs w bb sb yb lb lc Xs ch rb cnt L A cap) (hb : Below w.heap.size w w') : BIs w' bb sb yb lb lc Xs ch rb cnt L A cap :=
  { h with top := h.top.below hb, lst := h.lst.below hb, sto := h.sto.below hb, ref := h.ref.below hb }
theorem BIs.alloc (h : BIs w bb sb yb lb lc Xs ch rb cnt L A cap) (o : Obj) : BIs (w.alloc o) bb sb yb lb lc Xs ch rb cnt L A cap := h.below (bel_alloc (bel_refl w) o)
theorem BIs.drew (h : BIs w bb sb yb lb lc Xs ch rb cnt L A cap) : BIs w.drew bb sb yb lb lc Xs ch rb cnt L A cap :=
  { h with top := h.top.drew, lst := h.lst.drew, sto := h.sto.drew, ref := h.ref.drew' }
theorem BIs.cnt_is (h : BIs w bb sb yb lb lc Xs ch rb cnt L A cap) : cnt = L.length := by
  rw [h.sto.num, total_gOf Xs h.srt]
theorem BIs.at_ (h : BIs w bb sb yb lb lc Xs ch rb cnt L A cap) {p : Nat} (hp : p < 8) : ∃ x, Xs[p]? = some x ∧ w.cell? ⟨lb, p, none⟩ = some (.pointer (some x)) := by
  obtain ⟨x, hx⟩ : ∃ x, Xs[p]? = some x := ⟨_, List.getElem?_eq_getElem (by rw [h.len]; exact hp)⟩
  refine ⟨x, hx, ?_⟩
  have := World.ownsRow.cells (g := lb) h.lst rfl _ _ (cellsK_at KP Xs p x 0 _ hx rfl)
  rw [addr_add, show 0 + (p * KP.size + 0) = p by show 0 + (p * 1 + 0) = p; omega] at this
  exact this

theorem block_type {g t : Nat} {cs : Array Value} (h : Blk w g t cs) {c u : Nat} {n : Nat} {f : Nat → Value} (hr : w.rowIs c u n f) (hne : t ≠ u) : g ≠ c := by
  rintro rfl
  obtain ⟨c2, e2, _⟩ := hr
  have e1 : w.heap[g]? = some (.cells cs t (0, 0)) := h
  rw [e1] at e2
  injection e2 with e2
  injection e2 with _ e2
  exact hne e2
/-- What was got is what has this number. -/
theorem same_any (h : BIs w bb sb yb lb lc Xs ch rb cnt L A cap) (q d : Nat) :
    Calls Try.prog 28 #[.pointer (some ⟨bb, 0, none⟩), .pointer (gOf Xs L q d), .int .i64 (getL ((q : Int) + 1) ((d : Int) + 1) L)] w fun e w' => e = .returned (.bool true) ∧ w = w' := by
  unfold gOf getL
  cases hf : L.find? (atI ((q : Int) + 1) ((d : Int) + 1)) with
  | none =>
    dsimp only [Option.bind_none]
    go_enter Try.func28, Try.ntmps28
    go_wp2_with fail
    go_ret
    exact ⟨rfl, rfl⟩
  | some it =>
    obtain ⟨_, hk1, hk2⟩ := h.srt.ok it (List.mem_of_find?_eq_some hf)
    rw [h.len] at hk2
    obtain ⟨p, hp⟩ : ∃ p : Nat, it.k = p := ⟨it.k.toNat, by omega⟩
    obtain ⟨x, hx, hc⟩ := h.at_ (p := p) (by omega)
    have hp8 : p < 8 := by omega
    dsimp only [Option.bind_some]
    rw [hp, show ((p : Int)).toNat = p by omega, hx]
    have heq := eql_same
    have rdb := h.top.rd
    have ltb := h.top.lt
    clear hf hk1 hk2 hp hx
    go_enter Try.func28, Try.ntmps28
    go_wp2_with fail
    go_ret
    exact ⟨rfl, rfl⟩

theorem nextV_is (res : Option (Nat × Nat)) : ∃ (nr nc : Int) (nb : Bool), nextV res = .tuple #[.agg #[.int .i64 nr, .int .i64 nc], .bool nb] := by
  cases res with
  | none => exact ⟨0, 0, false, rfl⟩
  | some x => exact ⟨_, _, true, rfl⟩

set_option maxHeartbeats 1600000 in
set_option maxRecDepth 100000 in
theorem walks_any (h : BIs w bb sb yb lb lc Xs ch rb cnt L A cap) (t l b r : Int) (bt : t ≤ 9223372036854775807) :
    Calls Try.prog 19 #[.pointer (some ⟨bb, 0, none⟩), .agg #[.int .i64 t, .int .i64 l, .int .i64 b, .int .i64 r]] w fun e w' => e = .returned (.bool true) ∧ Below w.heap.size w w' := by
  go_enter Try.func19, Try.ntmps19
  go_wp2_with fail
  have k3' := (Blk.new w rfl 24 #[.int .i64 t, .int .i64 l, .int .i64 b, .int .i64 r]).alloc (.cells #[.int .i64 0, .int .i64 0] 41)
  have k5' := Blk.new (w.alloc (.cells #[.int .i64 t, .int .i64 l, .int .i64 b, .int .i64 r] 24)) (g := w.heap.size + 1) (by simp) 41 #[.int .i64 0, .int .i64 0]
  have hw' := bel_alloc (bel_alloc (bel_refl w) (.cells #[.int .i64 t, .int .i64 l, .int .i64 b, .int .i64 r] 24)) (.cells #[.int .i64 0, .int .i64 0] 41)
  go_loopg [] 1048577 (fun g wx => ∃ (p : Nat) (ax ay : Int), p ≤ 1048576 ∧ g = 1048577 - p ∧ PosIs p ax ay ∧ Blk wx w.heap.size 24 #[.int .i64 t, .int .i64 l, .int .i64 b, .int .i64 r] ∧ Blk wx (w.heap.size + 1) 41 #[.int .i64 ax, .int .i64 ay] ∧ Below w.heap.size w wx)
  case atStart => exact ⟨0, 0, 0, by omega, rfl, .inl ⟨rfl, rfl, rfl⟩, k3', k5', hw'⟩
  case round =>
    obtain ⟨p, ax, ay, hp, rfl, hP, k3, k5, hW⟩ := hrel
    clear k3' k5' hw'
    have hB := h.below hW
    have rd0 := hB.top.rd
    have lt0 := hB.top.lt
    have rd3 := k3.rd
    have lt3 := k3.lt
    have rd5 := k5.rd
    have lt5 := k5.lt
    have hbd := hP.bd
    go_upto_region 2 with fail
    go_cut [6, 7] (fun s6 s7 wx => ∃ (c6 : Nat) (res : Option (Nat × Nat)) (nr nc : Int) (nb : Bool), s6 = .pointer (some ⟨c6, 0, none⟩) ∧ s7 = .bool nb ∧ Hid (nextV res = .tuple #[.agg #[.int .i64 nr, .int .i64 nc], .bool nb]) ∧ Hid (IsNext (gOf Xs L) t l b r ax ay res) ∧
      Blk wx c6 41 #[.int .i64 nr, .int .i64 nc] ∧ Blk wx w.heap.size 24 #[.int .i64 t, .int .i64 l, .int .i64 b, .int .i64 r] ∧ Blk wx (w.heap.size + 1) 41 #[.int .i64 ax, .int .i64 ay] ∧ w.heap.size + 1 < c6 ∧ Below w.heap.size w wx)
    case first =>
      go_wp2_with fail
      go_region_held3 (fun w' => w'.cell? ⟨bb, 0, none⟩ = some (.pointer (some ⟨sb, 0, none⟩)) ∧ w'.cell? ⟨w.heap.size, 0, none⟩ = some (.int .i64 t) ∧ w'.cell? ⟨w.heap.size, 0 + 1, none⟩ = some (.int .i64 l) ∧ w'.cell? ⟨w.heap.size, 0 + 2, none⟩ = some (.int .i64 b) ∧ w'.cell? ⟨w.heap.size, 0 + 3, none⟩ = some (.int .i64 r) ∧ w'.cell? ⟨w.heap.size + 1, 0, none⟩ = some (.int .i64 ax) ∧ w'.cell? ⟨w.heap.size + 1, 0 + 1, none⟩ = some (.int .i64 ay)) (go_keep)
        (first | (go_at_call 12; refine (next_any sb ch rb _ cnt t l b r ax ay wr.drew (hB.sto.drew) bt (by omega) (by omega)).mono ?_; rintro e w3 ⟨res, hres, rfl, hb3⟩; obtain ⟨nr, nc, nb, hne⟩ := nextV_is res; rw [hne]; have HNE : Hid (nextV res = _) := hne; have HRES : Hid (IsNext _ _ _ _ _ _ _ res) := hres; clear hne hres; have hz3 : wr.heap.size ≤ w3.heap.size := Nat.le_trans (Nat.le_refl _) hb3.size; have n0 : ¬ bb = w3.heap.size := (by omega); have m0 : ¬ w3.heap.size = bb := (by omega); have v0 : ¬ bb = wr.heap.size := (by omega); have u0 : ¬ wr.heap.size = bb := (by omega); have q0 := fun o => hb3.cell (p := ⟨bb, o, none⟩) (by first | (show bb < wr.heap.size; omega) | (simp; omega)); have n1 : ¬ w.heap.size = w3.heap.size := (by omega); have m1 : ¬ w3.heap.size = w.heap.size := (by omega); have v1 : ¬ w.heap.size = wr.heap.size := (by omega); have u1 : ¬ wr.heap.size = w.heap.size := (by omega); have q1 := fun o => hb3.cell (p := ⟨w.heap.size, o, none⟩) (by first | (show w.heap.size < wr.heap.size; omega) | (simp; omega)); have n2 : ¬ (w.heap.size + 1) = w3.heap.size := (by omega); have m2 : ¬ w3.heap.size = (w.heap.size + 1) := (by omega); have v2 : ¬ (w.heap.size + 1) = wr.heap.size := (by omega); have u2 : ¬ wr.heap.size = (w.heap.size + 1) := (by omega); have q2 := fun o => hb3.cell (p := ⟨(w.heap.size + 1), o, none⟩) (by first | (show (w.heap.size + 1) < wr.heap.size; omega) | (simp; omega))) | (go_at_call 12; refine (next_any sb ch rb _ cnt t l b r ax ay (wr.alloc (.cells #[.int .i64 0, .int .i64 0] 41)).drew ((hB.sto.alloc _).drew) bt (by omega) (by omega)).mono ?_; rintro e w3 ⟨res, hres, rfl, hb3⟩; obtain ⟨nr, nc, nb, hne⟩ := nextV_is res; rw [hne]; have HNE : Hid (nextV res = _) := hne; have HRES : Hid (IsNext _ _ _ _ _ _ _ res) := hres; clear hne hres; have hz3 : wr.heap.size ≤ w3.heap.size := Nat.le_trans (by simp) hb3.size; have n0 : ¬ bb = w3.heap.size := (by omega); have m0 : ¬ w3.heap.size = bb := (by omega); have v0 : ¬ bb = wr.heap.size := (by omega); have u0 : ¬ wr.heap.size = bb := (by omega); have q0 := fun o => hb3.cell (p := ⟨bb, o, none⟩) (by first | (show bb < wr.heap.size; omega) | (simp; omega)); have n1 : ¬ w.heap.size = w3.heap.size := (by omega); have m1 : ¬ w3.heap.size = w.heap.size := (by omega); have v1 : ¬ w.heap.size = wr.heap.size := (by omega); have u1 : ¬ wr.heap.size = w.heap.size := (by omega); have q1 := fun o => hb3.cell (p := ⟨w.heap.size, o, none⟩) (by first | (show w.heap.size < wr.heap.size; omega) | (simp; omega)); have n2 : ¬ (w.heap.size + 1) = w3.heap.size := (by omega); have m2 : ¬ w3.heap.size = (w.heap.size + 1) := (by omega); have v2 : ¬ (w.heap.size + 1) = wr.heap.size := (by omega); have u2 : ¬ wr.heap.size = (w.heap.size + 1) := (by omega); have q2 := fun o => hb3.cell (p := ⟨(w.heap.size + 1), o, none⟩) (by first | (show (w.heap.size + 1) < wr.heap.size; omega) | (simp; omega)); have k6 := (Blk.new wr rfl 41 #[.int .i64 0, .int .i64 0]).drew.below hb3; have rd6 := k6.rd; have fz6 := k6.fz; have lt6 := k6.lt))
      all_goals
        go_wp2_with fail
        go_meet
        case rel =>
          first
            | exact ⟨w3.heap.size, res, nr, nc, nb, rfl, rfl, HNE, HRES, Blk.new w3 rfl _ _, (Blk.below k3.drew hb3).alloc _, (Blk.below k5.drew hb3).alloc _, by omega, bel_alloc (bel_call (bel_drew hW) hb3) _⟩
            | exact ⟨wr.heap.size, res, nr, nc, nb, rfl, rfl, HNE, HRES, (k6.put 0 (.int .i64 nr)).put 1 (.int .i64 nc), ((Blk.below (k3.alloc _).drew hb3).far (by omega) _).far (by omega) _, ((Blk.below (k5.alloc _).drew hb3).far (by omega) _).far (by omega) _, by omega, bel_set (bel_set (bel_call (bel_drew (bel_alloc hW _)) hb3) (by omega) _) (by omega) _⟩
    case rest =>
      obtain ⟨c6, res, nr, nc, nb, rfl, rfl, HNE, HRES, k6, k3', k5', hc6, hW'⟩ := hcut
      clear hB rd0 lt0 rd3 lt3 rd5 lt5 k3 k5 hW
      obtain ⟨wr, rfl⟩ : ∃ wr : World, wr = wc := ⟨_, rfl⟩
      have k3 := k3'
      have k5 := k5'
      have hW := hW'
      clear k3' k5' hW'
      have hB := h.below hW
      have rd0 := hB.top.rd
      have lt0 := hB.top.lt
      have rd3 := k3.rd
      have lt3 := k3.lt
      have rd5 := k5.rd
      have lt5 := k5.lt
      have lt6 := k6.lt
      go_upto_region 3 with fail
      go_cut [8, 9] (fun s8 s9 wx => ∃ (c8 : Nat), s8 = .pointer (some ⟨c8, 0, none⟩) ∧ s9 = .bool nb ∧
        Blk wx c8 41 #[.int .i64 nr, .int .i64 nc] ∧ Blk wx w.heap.size 24 #[.int .i64 t, .int .i64 l, .int .i64 b, .int .i64 r] ∧ Blk wx (w.heap.size + 1) 41 #[.int .i64 ax, .int .i64 ay] ∧ Blk wx c6 41 #[.int .i64 nr, .int .i64 nc] ∧ w.heap.size + 1 < c8 ∧ Below w.heap.size w wx)
      case first =>
        go_wp2_with fail
        go_region_held3 (fun w' => w'.cell? ⟨bb, 1, none⟩ = some (.pointer (some ⟨yb, 0, none⟩)) ∧ w'.cell? ⟨w.heap.size, 0, none⟩ = some (.int .i64 t) ∧ w'.cell? ⟨w.heap.size, 0 + 1, none⟩ = some (.int .i64 l) ∧ w'.cell? ⟨w.heap.size, 0 + 2, none⟩ = some (.int .i64 b) ∧ w'.cell? ⟨w.heap.size, 0 + 3, none⟩ = some (.int .i64 r) ∧ w'.cell? ⟨w.heap.size + 1, 0, none⟩ = some (.int .i64 ax) ∧ w'.cell? ⟨w.heap.size + 1, 0 + 1, none⟩ = some (.int .i64 ay)) (go_keep)
          (first | (go_at_call 30; refine (rnext_any yb L A cap t l b r ax ay wr.drew (hB.ref.drew')).mono ?_; rintro e w3 ⟨rfl, hb3⟩; rw [← next_same hB.srt HRES.out, HNE.out]; have hz3 : wr.heap.size ≤ w3.heap.size := Nat.le_trans (Nat.le_refl _) hb3.size; have n0 : ¬ bb = w3.heap.size := (by omega); have m0 : ¬ w3.heap.size = bb := (by omega); have v0 : ¬ bb = wr.heap.size := (by omega); have u0 : ¬ wr.heap.size = bb := (by omega); have q0 := fun o => hb3.cell (p := ⟨bb, o, none⟩) (by first | (show bb < wr.heap.size; omega) | (simp; omega)); have n1 : ¬ w.heap.size = w3.heap.size := (by omega); have m1 : ¬ w3.heap.size = w.heap.size := (by omega); have v1 : ¬ w.heap.size = wr.heap.size := (by omega); have u1 : ¬ wr.heap.size = w.heap.size := (by omega); have q1 := fun o => hb3.cell (p := ⟨w.heap.size, o, none⟩) (by first | (show w.heap.size < wr.heap.size; omega) | (simp; omega)); have n2 : ¬ (w.heap.size + 1) = w3.heap.size := (by omega); have m2 : ¬ w3.heap.size = (w.heap.size + 1) := (by omega); have v2 : ¬ (w.heap.size + 1) = wr.heap.size := (by omega); have u2 : ¬ wr.heap.size = (w.heap.size + 1) := (by omega); have q2 := fun o => hb3.cell (p := ⟨(w.heap.size + 1), o, none⟩) (by first | (show (w.heap.size + 1) < wr.heap.size; omega) | (simp; omega)); have n3 : ¬ c6 = w3.heap.size := (by omega); have m3 : ¬ w3.heap.size = c6 := (by omega); have v3 : ¬ c6 = wr.heap.size := (by omega); have u3 : ¬ wr.heap.size = c6 := (by omega); have q3 := fun o => hb3.cell (p := ⟨c6, o, none⟩) (by first | (show c6 < wr.heap.size; omega) | (simp; omega))) | (go_at_call 30; refine (rnext_any yb L A cap t l b r ax ay (wr.alloc (.cells #[.int .i64 0, .int .i64 0] 41)).drew ((hB.ref.alloc _).drew')).mono ?_; rintro e w3 ⟨rfl, hb3⟩; rw [← next_same hB.srt HRES.out, HNE.out]; have hz3 : wr.heap.size ≤ w3.heap.size := Nat.le_trans (by simp) hb3.size; have n0 : ¬ bb = w3.heap.size := (by omega); have m0 : ¬ w3.heap.size = bb := (by omega); have v0 : ¬ bb = wr.heap.size := (by omega); have u0 : ¬ wr.heap.size = bb := (by omega); have q0 := fun o => hb3.cell (p := ⟨bb, o, none⟩) (by first | (show bb < wr.heap.size; omega) | (simp; omega)); have n1 : ¬ w.heap.size = w3.heap.size := (by omega); have m1 : ¬ w3.heap.size = w.heap.size := (by omega); have v1 : ¬ w.heap.size = wr.heap.size := (by omega); have u1 : ¬ wr.heap.size = w.heap.size := (by omega); have q1 := fun o => hb3.cell (p := ⟨w.heap.size, o, none⟩) (by first | (show w.heap.size < wr.heap.size; omega) | (simp; omega)); have n2 : ¬ (w.heap.size + 1) = w3.heap.size := (by omega); have m2 : ¬ w3.heap.size = (w.heap.size + 1) := (by omega); have v2 : ¬ (w.heap.size + 1) = wr.heap.size := (by omega); have u2 : ¬ wr.heap.size = (w.heap.size + 1) := (by omega); have q2 := fun o => hb3.cell (p := ⟨(w.heap.size + 1), o, none⟩) (by first | (show (w.heap.size + 1) < wr.heap.size; omega) | (simp; omega)); have n3 : ¬ c6 = w3.heap.size := (by omega); have m3 : ¬ w3.heap.size = c6 := (by omega); have v3 : ¬ c6 = wr.heap.size := (by omega); have u3 : ¬ wr.heap.size = c6 := (by omega); have q3 := fun o => hb3.cell (p := ⟨c6, o, none⟩) (by first | (show c6 < wr.heap.size; omega) | (simp; omega)); have k8 := (Blk.new wr rfl 41 #[.int .i64 0, .int .i64 0]).drew.below hb3; have rd8 := k8.rd; have fz8 := k8.fz; have lt8 := k8.lt))
        all_goals
          go_wp2_with fail
          go_meet
          case rel =>
            first
              | exact ⟨w3.heap.size, rfl, rfl, Blk.new w3 rfl _ _, (Blk.below k3.drew hb3).alloc _, (Blk.below k5.drew hb3).alloc _, (Blk.below k6.drew hb3).alloc _, by omega, bel_alloc (bel_call (bel_drew hW) hb3) _⟩
              | exact ⟨wr.heap.size, rfl, rfl, (k8.put 0 (.int .i64 nr)).put 1 (.int .i64 nc), ((Blk.below (k3.alloc _).drew hb3).far (by omega) _).far (by omega) _, ((Blk.below (k5.alloc _).drew hb3).far (by omega) _).far (by omega) _, ((Blk.below (k6.alloc _).drew hb3).far (by omega) _).far (by omega) _, by omega, bel_set (bel_set (bel_call (bel_drew (bel_alloc hW _)) hb3) (by omega) _) (by omega) _⟩
      case rest =>
        obtain ⟨c8, rfl, rfl, k8, k3', k5', k6', hc8, hW'⟩ := hcut
        clear hB rd0 lt0 rd3 lt3 rd5 lt5 lt6 k3 k5 k6 hW
        have rd6 := k6'.rd
        have rd8 := k8.rd
        have rd5 := k5'.rd
        have fz5 := k5'.fz
        have lt5 := k5'.lt
        cases res with
        | none =>
          obtain ⟨rfl, rfl, rfl⟩ : nr = 0 ∧ nc = 0 ∧ nb = false := by
            have := HNE.out
            simp [nextV] at this
            obtain ⟨⟨h1, h2⟩, h3⟩ := this
            exact ⟨by first | exact h1.symm | exact h1, by first | exact h2.symm | exact h2, by first | exact h3.symm | exact h3⟩
          clear HNE
          go_wp2_with fail
          go_ret
          exact ⟨rfl, hW'⟩
        | some x =>
          obtain ⟨q, d⟩ := x
          obtain ⟨rfl, rfl, rfl⟩ : nr = (q : Int) + 1 ∧ nc = (d : Int) + 1 ∧ nb = true := by
            have := HNE.out
            simp [nextV] at this
            obtain ⟨⟨h1, h2⟩, h3⟩ := this
            exact ⟨by first | exact h1.symm | exact h1, by first | exact h2.symm | exact h2, by first | exact h3.symm | exact h3⟩
          obtain ⟨hP2, hlt2⟩ := hP.next HRES.out.1
          have hq := HRES.out.1.1
          have hd := HRES.out.1.2.1
          dsimp only at hP2 hlt2 hq hd
          have HP2 : Hid (PosIs (q * 256 + d + 1) ((q : Int) + 1) ((d : Int) + 1)) := hP2
          clear HNE hP2
          go_wp2_with fail
          go_roundg (1048577 - (q * 256 + d + 1))
          case measure => omega
          case rel =>
            refine ⟨q * 256 + d + 1, _, _, by omega, rfl, HP2.out, ?_, ?_, ?_⟩
            · exact (k3'.far (by omega) _).far (by omega) _
            · exact (k5'.put 0 (.int .i64 ((q : Int) + 1))).put 1 (.int .i64 ((d : Int) + 1))
            · exact bel_set (bel_set hW' (by omega) _) (by omega) _
end
end Go.Proofs.Ytiiiiplfcaeegaa

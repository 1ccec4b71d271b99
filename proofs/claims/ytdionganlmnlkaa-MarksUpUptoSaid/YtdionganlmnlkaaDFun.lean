/-
  Deps: contracts of New, may, single, Contains. Conditions: those of each theorem.
-/
import Derived.Test.YtdionganlmnlkaaDKeys
import Derived.Test.YtdionganlmnlkaaGp
import Derived.Test.YtdionganlmnlkaaGb
namespace Go.Proofs.Ytdionganlmnlkaa
open Go.ChangeShapes Go.WideShapes Go.ChangeAt Go.RowKit Go.Deep
attribute [local go_sem] Cls

theorem dnew_any (w : World) : Calls Try.prog 19 #[] w fun e w' => ∃ db fm tm bb O, e = .returned (.pointer (some ⟨db, 0, none⟩)) ∧ DMem w' db fm tm bb 0 O [] (fun _ => none) (fun _ => none) (fun _ => []) (fun _ => []) ∧ (∀ z, ownD db fm tm O (fun _ => none) (fun _ => none) z → w.heap.size ≤ z) ∧ Below w.heap.size w w' := by
  have hmk := fun w => run_makeMap (P := Try.prog) 70 w
  have hmk2 := fun w => run_makeMap (P := Try.prog) 71 w
  go_enter Try.func19, Try.ntmps19
  go_wp2_with fail
  refine (pb_new _).mono ?_
  rintro e w2 ⟨bb, O, rfl, hP, hO, hb⟩
  have h1 := ((MFun.made Try.prog 32 cellV rngC w).below (bel_alloc (bel_refl _) (.map #[] 0))).below hb
  have h2 := (MFun.made Try.prog 32 cellV rngC (w.alloc (.map #[] 0))).below hb
  rw [show (w.alloc (.map #[] 0)).heap.size = w.heap.size + 1 by simp] at h2
  have hB := bel_call (bel_alloc (bel_alloc (bel_refl w) (.map #[] 0)) (.map #[] 0)) hb
  have hsz := hb.size
  simp only [World.size_alloc] at hsz hO
  clear hmk hmk2 hb
  have ho := bel_alloc (bel_refl w2) (.cells #[.map (some w.heap.size), .map (some (w.heap.size + 1)), .pointer (some ⟨bb, 0, none⟩)] 74)
  have k := Blk.new w2 rfl 74 #[.map (some w.heap.size), .map (some (w.heap.size + 1)), .pointer (some ⟨bb, 0, none⟩)]
  have hP' := hP.below ho
  have h1' := h1.below ho
  have h2' := h2.below ho
  have hB' := bel_call hB ho
  clear hP h1 h2 hB ho
  go_wp2_with fail
  go_ret
  refine ⟨w2.heap.size, w.heap.size, w.heap.size + 1, bb, O, rfl, ⟨k, hP', h1', h2', fun c v h => (by cases h), fun _ _ => rfl, fun c v h => (by cases h), fun _ _ => rfl, fun s s' g h => (by cases h), by omega, fun s g h => (by cases h), fun h => by have := hO _ h; omega, fun h => by have := hO _ h; omega⟩, fun z hz => ?_, hB'⟩
  rcases hz with rfl | rfl | rfl | hz | ⟨s, hs⟩ | ⟨c, m, cap, hc⟩
  · omega
  · omega
  · omega
  · have := hO z hz; omega
  · cases hs
  · cases hc

/-- May a reference be? -/
def okR (x : Rf) : Bool := mayR x.t x.l x.b x.r && (x.m || decide (x.t = x.b) && decide (x.l = x.r))
theorem dmay_any (m : Bool) (t l b r : Int) (w : World) :
    Calls Try.prog 22 #[.agg #[.bool m, .int .i64 t, .int .i64 l, .int .i64 b, .int .i64 r]] w fun e w' => e = .returned (.bool (okR ⟨m, t, l, b, r⟩)) ∧ Below w.heap.size w w' := by
  obtain ⟨B, hB⟩ : ∃ B, B = okR ⟨m, t, l, b, r⟩ := ⟨_, rfl⟩
  rw [← hB]
  unfold okR at hB
  dsimp only at hB
  have hr := fun W => mayrect_any t l b r W
  have k1 := Blk.new w rfl 53 #[.bool m, .int .i64 t, .int .i64 l, .int .i64 b, .int .i64 r]
  have hW := bel_alloc (bel_refl w) (.cells #[.bool m, .int .i64 t, .int .i64 l, .int .i64 b, .int .i64 r] 53)
  go_enter Try.func22, Try.ntmps22
  go_wp2_with fail
  refine (hr _).mono ?_
  rintro e w2 ⟨rfl, hb⟩
  replace k1 := k1.below hb
  replace hW := bel_call hW hb
  have rd := k1.rd
  clear hb
  cases h1 : mayR t l b r with
  | false =>
    rw [h1, Bool.false_and] at hB
    subst hB
    go_wp2_with fail
    go_ret
    exact ⟨rfl, hW⟩
  | true =>
    rw [h1, Bool.true_and] at hB
    clear h1 hr
    cases m with
    | true =>
      rw [Bool.true_or] at hB
      subst hB
      go_wp2_with fail
      go_ret
      exact ⟨rfl, hW⟩
    | false =>
      rw [Bool.false_or] at hB
      by_cases h2 : t = b
      · rw [decide_eq_true h2, Bool.true_and] at hB
        by_cases h3 : l = r
        · rw [decide_eq_true h3] at hB
          subst hB h2 h3
          go_wp2_with fail
          go_ret
          exact ⟨rfl, hW⟩
        · rw [decide_eq_false h3] at hB
          have h3' : (l == r) = false := by rw [beq_eq_false_iff_ne]; exact h3
          subst hB h2
          clear h3
          go_wp2_with fail
          go_ret
          exact ⟨rfl, hW⟩
      · rw [decide_eq_false h2, Bool.false_and] at hB
        have h2' : (t == b) = false := by rw [beq_eq_false_iff_ne]; exact h2
        subst hB
        clear h2
        go_wp2_with fail
        go_ret
        exact ⟨rfl, hW⟩
theorem single_any (m : Bool) (t l b r : Int) (w : World) :
    Calls Try.prog 24 #[.agg #[.bool m, .int .i64 t, .int .i64 l, .int .i64 b, .int .i64 r]] w fun e w' => e = .returned (.agg #[.int .i64 t, .int .i64 l]) ∧ Below w.heap.size w w' := by
  go_enter Try.func24, Try.ntmps24
  go_wp2_with fail
  refine bodyPost_ret (v := .agg #[.int .i64 t, .int .i64 l]) (by simp [results, Try.results24, go_sem]) rfl ⟨rfl, ?_⟩
  exact bel_alloc (bel_alloc (bel_refl w) _) _
theorem eql_ref (w : World) (m m' : Bool) (t l b r t' l' b' r' : Int) : (binOp .eql 53 (.agg #[.bool m, .int .i64 t, .int .i64 l, .int .i64 b, .int .i64 r]) (.agg #[.bool m', .int .i64 t', .int .i64 l', .int .i64 b', .int .i64 r'])).run Try.prog w = .ok (.bool (decide ((⟨m, t, l, b, r⟩ : Rf) = ⟨m', t', l', b', r'⟩))) w := by
  have h : (Op.equalIn (9997 + 3) 53 (.agg #[.bool m, .int .i64 t, .int .i64 l, .int .i64 b, .int .i64 r]) (.agg #[.bool m', .int .i64 t', .int .i64 l', .int .i64 b', .int .i64 r'])).run Try.prog w = .ok (decide ((⟨m, t, l, b, r⟩ : Rf) = ⟨m', t', l', b', r'⟩)) w := by
    by_cases h0 : m = m'
    case neg => cases m <;> cases m' <;> first | (exact absurd rfl h0) | simp [go_sem]
    subst h0
    by_cases h3 : t = t'
    case neg => cases m <;> simp [go_sem, h3]
    subst h3
    by_cases h4 : l = l'
    case neg => cases m <;> simp [go_sem, h4]
    subst h4
    by_cases h5 : b = b'
    case neg => cases m <;> simp [go_sem, h5]
    subst h5
    by_cases h6 : r = r'
    case neg => cases m <;> simp [go_sem, h6]
    subst h6
    cases m <;> simp [go_sem]
  rw [run_eql_struct, show (10000 : Nat) = 9997 + 3 from rfl, h]
  rfl
theorem ref_at {w : World} {A : Option Addr} {L : List Rf} (h : Lies KF w A L) {i : Nat} {x : Rf} (hx : L[i]? = some x) : ∃ g off, A = some ⟨g, off, none⟩ ∧ g < w.heap.size ∧ w.cell? ⟨g, off + i * 5, none⟩ = some (.bool x.m) ∧ w.cell? ⟨g, off + i * 5 + 1, none⟩ = some (.int .i64 x.t) ∧ w.cell? ⟨g, off + i * 5 + 2, none⟩ = some (.int .i64 x.l) ∧ w.cell? ⟨g, off + i * 5 + 3, none⟩ = some (.int .i64 x.b) ∧ w.cell? ⟨g, off + i * 5 + 4, none⟩ = some (.int .i64 x.r) := by
  obtain ⟨g, off, h1, h2, h3⟩ := h i x hx
  exact ⟨g, off, h1, h2, h3 0 _ rfl, h3 1 _ rfl, h3 2 _ rfl, h3 3 _ rfl, h3 4 _ rfl⟩
set_option maxHeartbeats 1600000 in
theorem index_any (L : List Rf) (A : Option Addr) (cap : Nat) (y : Rf) (w : World) (h : Lies KF w A L) (hl : L.length ≤ 9223372036854775806) :
    Calls Try.prog 40 #[.slice A L.length cap, .agg #[.bool y.m, .int .i64 y.t, .int .i64 y.l, .int .i64 y.b, .int .i64 y.r]] w fun e w' => (∃ z : Int, e = .returned (.int .i64 z) ∧ (0 ≤ z ↔ y ∈ L)) ∧ Below w.heap.size w w' := by
  go_enter Try.func40, Try.ntmps40
  go_wp2_with fail
  have k0 := Blk.new w rfl 53 #[.bool y.m, .int .i64 y.t, .int .i64 y.l, .int .i64 y.b, .int .i64 y.r]
  have hB0 := bel_alloc (bel_refl w) (.cells #[.bool y.m, .int .i64 y.t, .int .i64 y.l, .int .i64 y.b, .int .i64 y.r] 53)
  go_loopw [8] (fun s8 wr => ∃ k : Nat, k ≤ L.length ∧ s8 = .int .i64 k ∧ Hid (y ∉ L.take k) ∧ Blk wr w.heap.size 53 #[.bool y.m, .int .i64 y.t, .int .i64 y.l, .int .i64 y.b, .int .i64 y.r] ∧ Below w.heap.size w wr) (fun s8 _ => L.length - (intOf s8).toNat)
  case atStart => exact ⟨0, Nat.zero_le _, rfl, Lib.hid (by simp), k0, hB0⟩
  case round =>
    obtain ⟨k, hk, rfl, HN, hk0, hW⟩ := hrel
    clear k0 hB0
    by_cases hkl : k < L.length
    · obtain ⟨x, hx⟩ : ∃ x, L[k]? = some x := ⟨_, List.getElem?_eq_getElem hkl⟩
      obtain ⟨g, off, hAe, hg, c0, c1, c2, c3, c4⟩ := ref_at (h.below hW) hx
      subst hAe
      have d0 := fun d os => cell_regrown c0 d os
      have d1 := fun d os => cell_regrown c1 d os
      have d2 := fun d os => cell_regrown c2 d os
      have d3 := fun d os => cell_regrown c3 d os
      have d4 := fun d os => cell_regrown c4 d os
      have g0 := hk0.gr
      have hE := fun W => eql_ref W y.m x.m y.t y.l y.b y.r x.t x.l x.b x.r
      obtain ⟨q, hq⟩ : ∃ q, q = decide (y = x) := ⟨_, rfl⟩
      have hq2 : decide ((⟨y.m, y.t, y.l, y.b, y.r⟩ : Rf) = ⟨x.m, x.t, x.l, x.b, x.r⟩) = q := hq.symm
      rw [hq2] at hE
      have HQ := Lib.hid hq
      have HX := Lib.hid hx
      have i0 : (0 : Int) ≤ (k : Int) := by omega
      have i1 : (k : Int) < (L.length : Int) := by omega
      clear hq hq2 hx c0 c1 c2 c3 c4
      go_wp2_with fail
      refine wp_region_quiet_below (by kernel_rfl) (by kernel_rfl) ?_
      repeat (any_goals (first | go_big_quiet_step ((fail)) | fail))
      refine wpQuiet_nil ?_
      intro w5 hw'
      have hb5 := class_below hw'
      clear hw' d0 d1 d2 d3 d4 g0 hE
      cases q with
      | true =>
        have hin : y ∈ L := by rw [of_decide_eq_true HQ.out.symm]; exact List.mem_of_getElem? HX.out
        go_wp2_with fail
        go_ret
        exact ⟨⟨k, rfl, fun _ => hin, fun _ => by omega⟩, bel_call hW hb5⟩
      | false =>
        have hno : Hid (y ∉ L.take (k + 1)) := Lib.hid (by
          rw [List.take_add_one, HX.out, List.mem_append]
          rintro (h1 | h1)
          · exact HN.out h1
          · exact of_decide_eq_false HQ.out.symm (by simpa using h1))
        go_wp2_with fail
        go_roundw
        case rel => exact ⟨k + 1, by omega, by go_num, hno, hk0.below hb5, bel_call hW hb5⟩
        case measure => simp [intOf]; omega
    · obtain rfl : k = L.length := by omega
      have hno : y ∉ L := by have := HN.out; rwa [List.take_length] at this
      go_wp2_with fail
      go_ret
      exact ⟨⟨-1, rfl, fun h => by omega, fun h => absurd h hno⟩, hW⟩
theorem contains_any (L : List Rf) (A : Option Addr) (cap : Nat) (y : Rf) (w : World) (h : Lies KF w A L) (hl : L.length ≤ 9223372036854775806) :
    Calls Try.prog 25 #[.slice A L.length cap, .agg #[.bool y.m, .int .i64 y.t, .int .i64 y.l, .int .i64 y.b, .int .i64 y.r]] w fun e w' => e = .returned (.bool (decide (y ∈ L))) ∧ Below w.heap.size w w' := by
  obtain ⟨B, hBd⟩ : ∃ B, B = decide (y ∈ L) := ⟨_, rfl⟩
  rw [← hBd]
  go_enter Try.func25, Try.ntmps25
  go_wp2_with fail
  have hB0 := bel_alloc (bel_refl w) (.cells #[.bool y.m, .int .i64 y.t, .int .i64 y.l, .int .i64 y.b, .int .i64 y.r] 53)
  refine (index_any L A cap y _ (h.below hB0) hl).mono ?_
  rintro e w2 ⟨⟨z, rfl, hz⟩, hb⟩
  replace hB0 := bel_call hB0 hb
  clear hb
  have hzB : decide (0 ≤ z) = B := by rw [hBd]; exact decide_eq_decide.2 hz
  clear hz hBd
  go_wp2_with fail
  go_ret
  exact ⟨by rw [← hzB]; simp, hB0⟩
end Go.Proofs.Ytdionganlmnlkaa

/-
  Contract of store.Next. Conditions: those of each theorem.
-/
import Derived.Test.YtiiiiplfcaeegaaSto3
namespace Go.Proofs.Ytiiiiplfcaeegaa
open Go.ChangeShapes Go.WideShapes Go.ChangeAt Go.RowKit Go.Deep

/-- A cell with a content in the rectangle behind a cell (0-based). -/
def hit (g : Grid) (t l b r ax ay : Int) (q d : Nat) : Prop :=
  q < 4096 ∧ d < 256 ∧ (g q d).isSome = true ∧ (t ≤ (q : Int) + 1 ∧ (q : Int) + 1 ≤ b ∧ l ≤ (d : Int) + 1 ∧ (d : Int) + 1 ≤ r) ∧ (ax < (q : Int) + 1 ∨ (ax = (q : Int) + 1 ∧ ay < (d : Int) + 1))
/-- The first such cell, row by row. -/
def IsNext (g : Grid) (t l b r ax ay : Int) : Option (Nat × Nat) → Prop
  | none => ∀ q d, ¬ hit g t l b r ax ay q d
  | some x => hit g t l b r ax ay x.1 x.2 ∧ ∀ q d, hit g t l b r ax ay q d → x.1 < q ∨ (x.1 = q ∧ x.2 ≤ d)
def nextV : Option (Nat × Nat) → Value
  | none => .tuple #[.agg #[.int .i64 0, .int .i64 0], .bool false]
  | some x => .tuple #[.agg #[.int .i64 ((x.1 : Int) + 1), .int .i64 ((x.2 : Int) + 1)], .bool true]
theorem IsNext.uniq {g : Grid} {t l b r ax ay : Int} {x y : Option (Nat × Nat)} (hx : IsNext g t l b r ax ay x) (hy : IsNext g t l b r ax ay y) : x = y := by
  cases x with
  | none =>
    cases y with
    | none => rfl
    | some y => exact absurd hy.1 (hx _ _)
  | some x =>
    cases y with
    | none => exact absurd hx.1 (hy _ _)
    | some y =>
      obtain ⟨x1, x2⟩ := x
      obtain ⟨y1, y2⟩ := y
      have h1 := hx.2 _ _ hy.1
      have h2 := hy.2 _ _ hx.1
      simp only at h1 h2
      have e1 : x1 = y1 := by omega
      have e2 : x2 = y2 := by omega
      rw [e1, e2]

set_option maxHeartbeats 3200000 in
set_option maxRecDepth 100000 in
theorem next_any (sb : Nat) (ch rb : Nat → Option Nat) (g : Grid) (cnt : Int) (t l b r ax ay : Int) (w : World) (h : SIs w sb ch rb g cnt)
    (bt : t ≤ 9223372036854775807) (bax : ax ≤ 9223372036854775807) (bay : -9223372036854775808 ≤ ay) :
    Calls Try.prog 12 #[.pointer (some ⟨sb, 0, none⟩), .agg #[.int .i64 t, .int .i64 l, .int .i64 b, .int .i64 r], .agg #[.int .i64 ax, .int .i64 ay]] w fun e w' =>
      ∃ res, IsNext g t l b r ax ay res ∧ e = .returned (nextV res) ∧ Below w.heap.size w w' := by
  have hmax2 : ∀ (ts : Array TypeId) (ty : TypeId) (W : World) (x y : Int), (Builtin.max_ ts ty #[.int .i64 x, .int .i64 y]).run Try.prog W = .ok (.int .i64 (max x y)) W := fun ts ty W x y => by
    rw [run_max_int2]
    congr 2
    omega
  have hmin2 : ∀ (ts : Array TypeId) (ty : TypeId) (W : World) (x y : Int), (Builtin.min_ ts ty #[.int .i64 x, .int .i64 y]).run Try.prog W = .ok (.int .i64 (min x y)) W := fun ts ty W x y => by
    rw [run_min_int2]
    congr 2
    omega
  have hmax3 : ∀ (ts : Array TypeId) (ty : TypeId) (W : World) (x y z : Int), (Builtin.max_ ts ty #[.int .i64 x, .int .i64 y, .int .i64 z]).run Try.prog W = .ok (.int .i64 (max (max x y) z)) W := fun ts ty W x y z => by
    rw [run_max_int3]
    congr 2
    omega
  have hnil := fun (W : World) (a : Option Addr) (n : Nat) => Lib.run_eql_slice_nil (P := Try.prog) W 55 27 a n n 0 0 Try.underlying55
  go_enter Try.func12, Try.ntmps12
  go_wp2_with fail
  go_quiet (fail)
  go_wp2_with fail
  have k4 : Blk ((((w.alloc (.cells #[.int .i64 t, .int .i64 l, .int .i64 b, .int .i64 r] 24)).alloc (.cells #[.int .i64 ax, .int .i64 ay] 41)).alloc (.cells #[.int .i64 0, .int .i64 0] 41)).drewN nq) w.heap.size 24 #[.int .i64 t, .int .i64 l, .int .i64 b, .int .i64 r] :=
    (((Blk.new w rfl _ _).alloc _).alloc _).drewN _
  have k5 : Blk ((((w.alloc (.cells #[.int .i64 t, .int .i64 l, .int .i64 b, .int .i64 r] 24)).alloc (.cells #[.int .i64 ax, .int .i64 ay] 41)).alloc (.cells #[.int .i64 0, .int .i64 0] 41)).drewN nq) (w.heap.size + 1) 41 #[.int .i64 ax, .int .i64 ay] :=
    ((Blk.new (w.alloc _) (g := w.heap.size + 1) (by simp) _ _).alloc _).drewN _
  have k6 : Blk ((((w.alloc (.cells #[.int .i64 t, .int .i64 l, .int .i64 b, .int .i64 r] 24)).alloc (.cells #[.int .i64 ax, .int .i64 ay] 41)).alloc (.cells #[.int .i64 0, .int .i64 0] 41)).drewN nq) (w.heap.size + 1 + 1) 41 #[.int .i64 0, .int .i64 0] :=
    (Blk.new ((w.alloc _).alloc _) (g := w.heap.size + 1 + 1) (by simp) _ _).drewN _
  have hS := (((h.alloc (.cells #[.int .i64 t, .int .i64 l, .int .i64 b, .int .i64 r] 24)).alloc (.cells #[.int .i64 ax, .int .i64 ay] 41)).alloc (.cells #[.int .i64 0, .int .i64 0] 41)).drewN nq
  have hw := bel_drewN (bel_alloc (bel_alloc (bel_alloc (bel_refl w) (.cells #[.int .i64 t, .int .i64 l, .int .i64 b, .int .i64 r] 24)) (.cells #[.int .i64 ax, .int .i64 ay] 41)) (.cells #[.int .i64 0, .int .i64 0] 41)) nq
  generalize ((((w.alloc (.cells #[.int .i64 t, .int .i64 l, .int .i64 b, .int .i64 r] 24)).alloc (.cells #[.int .i64 ax, .int .i64 ay] 41)).alloc (.cells #[.int .i64 0, .int .i64 0] 41)).drewN nq) = W at k4 k5 k6 hS hw ⊢
  have rd4 := k4.rd
  have rd5 := k5.rd
  have rd6 := k6.rd
  have fz6 := k6.fz
  clear h
  go_loop [11] (fun s => ∃ row : Nat, 1 ≤ row ∧ t ≤ row ∧ ax ≤ row ∧ s = .int .i64 row ∧ Hid (∀ q d : Nat, hit g t l b r ax ay q d → (row : Int) ≤ q + 1)) (fun s => 5000 - (intOf s).toNat)
  case atStart => exact ⟨(max (max t ax) 1).toNat, by omega, by omega, by omega, by congr 1; omega, fun q d hh => by have h1 := hh.2.2.2; omega⟩
  case round =>
    obtain ⟨row, hr1, hrt, hra, rfl, hrow⟩ := hrel
    by_cases hrb' : (row : Int) ≤ min b 4096
    · obtain ⟨i, k, hk, rfl⟩ : ∃ i k, k < 16 ∧ row = i * 16 + k + 1 := ⟨(row - 1) / 16, (row - 1) % 16, by omega, by omega⟩
      have hi : i < 256 := by omega
      have e1 : W.cell? ⟨sb, i, none⟩ = some (ptrV (ch i)) := (hS.top.cell (by omega)).trans (by unfold sf; rw [if_pos (by omega)])
      cases hch : ch i with
      | none =>
        rw [hch] at e1
        unfold ptrV at e1
        have hnx : Hid (∀ q d : Nat, hit g t l b r ax ay q d → ((i * 16 + 17 : Nat) : Int) ≤ q + 1) := fun q d hh => by
          have h1 := hrow.out q d hh
          by_cases hq : q < i * 16 + 16
          · have h2 := hS.up q hh.1 (by rw [show q / 16 = i by omega]; exact hch)
            have h3 := hS.emp q hh.1 h2 d hh.2.1
            have h4 := hh.2.2.1
            rw [h3] at h4
            cases h4
          · omega
        clear hch
        go_wp2_with fail
        refine (place_any _ i k _ ?_ hk (by omega)).mono ?_
        · omega
        rintro e w2 ⟨rfl, rfl⟩
        go_wp2_with fail
        go_round
        case rel => exact ⟨i * 16 + 17, by omega, by omega, by omega, by first | rfl | (congr 1; omega) | go_num, hnx⟩
        case measure => simp [intOf]; omega
      | some cb =>
        rw [hch] at e1
        unfold ptrV at e1
        have e2 : W.cell? ⟨cb, k, none⟩ = some (rowV (rb (i * 16 + k))) := ((hS.chk i (by omega) cb hch).cell (by omega)).trans (by unfold cf; rw [if_pos hk])
        clear hch
        cases hrb : rb (i * 16 + k) with
        | none =>
          rw [hrb] at e2
          unfold rowV at e2
          have hnx : Hid (∀ q d : Nat, hit g t l b r ax ay q d → ((i * 16 + k + 1 + 1 : Nat) : Int) ≤ q + 1) := fun q d hh => by
            have h1 := hrow.out q d hh
            by_cases e : q = i * 16 + k
            · subst e
              have h3 := hS.emp _ hh.1 hrb d hh.2.1
              have h4 := hh.2.2.1
              rw [h3] at h4
              cases h4
            · omega
          clear hrb
          go_wp2_with fail
          refine (place_any _ i k _ ?_ hk (by omega)).mono ?_
          · omega
          rintro e w2 ⟨rfl, rfl⟩
          go_wp2_with fail
          go_round
          case rel => exact ⟨i * 16 + k + 1 + 1, by omega, by omega, by omega, by first | rfl | (congr 1; omega) | go_num, hnx⟩
          case measure => simp [intOf]; omega
        | some rd =>
          rw [hrb] at e2
          unfold rowV at e2
          by_cases hrx : ((i : Int) * 16 + k + 1) = ax
          · have hrx' : ((i : Int) * 16 + (k : Int) + 1 == ax) = true := by simpa using hrx
            have HX : Hid (((i : Int) * 16 + k + 1) = ax) := hrx
            have hax1 : ax ≤ (i : Int) * 16 + k + 1 := by omega
            have hax2 : (i : Int) * 16 + k + 1 ≤ ax := by omega
            clear hrx
            by_cases hay : min r 256 ≤ ay
            · have hnx : Hid (∀ q d : Nat, hit g t l b r ax ay q d → ((i * 16 + k + 1 + 1 : Nat) : Int) ≤ q + 1) := fun q d hh => by
                have h1 := hrow.out q d hh
                have h2 := hh.2.2.2
                have h3 := hh.2.1
                by_cases e : q = i * 16 + k
                · subst e
                  omega
                · omega
              go_wp2_with fail
              refine (place_any _ i k _ ?_ hk (by omega)).mono ?_
              · omega
              rintro e w2 ⟨rfl, rfl⟩
              go_wp2_with fail
              go_round
              case rel => exact ⟨i * 16 + k + 1 + 1, by omega, by omega, by omega, by first | rfl | (congr 1; omega) | go_num, hnx⟩
              case measure => simp [intOf]; omega
            · go_wp2_with fail
              refine (place_any _ i k _ ?_ hk (by omega)).mono ?_
              · omega
              rintro e w2 ⟨rfl, rfl⟩
              go_wp2_with fail
              go_loop [16] (fun s => ∃ col : Nat, 1 ≤ col ∧ max (max l 1) (ay + 1) ≤ col ∧ s = .int .i64 col ∧ Hid (∀ d : Nat, hit g t l b r ax ay (i * 16 + k) d → (col : Int) ≤ d + 1)) (fun s => 300 - (intOf s).toNat)
              case atStart => exact ⟨(max (max l 1) (ay + 1)).toNat, by omega, by omega, by first | rfl | (congr 1; omega), fun d hh => by have h1 := hh.2.2.2; have h2 := HX.out; omega⟩
              case round =>
                obtain ⟨col, hc1, hcF, rfl, hcol⟩ := hrel
                by_cases hcr : (col : Int) ≤ min r 256
                · obtain ⟨d, rfl⟩ : ∃ d, col = d + 1 := ⟨col - 1, by omega⟩
                  have hd : d < 256 := by omega
                  have e3 : W.cell? ⟨rd, d, none⟩ = some (.pointer (g (i * 16 + k) d)) := (hS.row _ (by omega) rd hrb).cell hd
                  cases hg : g (i * 16 + k) d with
                  | none =>
                    rw [hg] at e3
                    have hnx : Hid (∀ d' : Nat, hit g t l b r ax ay (i * 16 + k) d' → ((d + 1 + 1 : Nat) : Int) ≤ d' + 1) := fun d' hh => by
                      have h1 := hcol.out d' hh
                      have h2 : d' ≠ d := by
                        rintro rfl
                        have := hh.2.2.1
                        rw [hg] at this
                        cases this
                      omega
                    clear hg
                    go_wp2_with fail
                    go_round
                    case rel => exact ⟨d + 1 + 1, by omega, by omega, by go_num, hnx⟩
                    case measure => simp [intOf]; omega
                  | some y =>
                    rw [hg] at e3
                    have hres : IsNext g t l b r ax ay (some (i * 16 + k, d)) := by
                      refine ⟨⟨by omega, hd, by rw [hg]; rfl, by omega, by omega⟩, fun q' d' hh => ?_⟩
                      have h1 := hrow.out q' d' hh
                      by_cases e : q' = i * 16 + k
                      · subst e
                        have := hcol.out d' hh
                        exact .inr ⟨rfl, by omega⟩
                      · exact .inl (by omega)
                    have HRES : Hid (IsNext g t l b r ax ay (some (i * 16 + k, d))) := hres
                    clear hres hg
                    go_wp2_with fail
                    refine bodyPost_ret (v := .tuple #[.agg #[.int .i64 ((i * 16 + k : Nat) + 1), .int .i64 ((d : Nat) + 1)], .bool true]) (by simp [results, Try.results12, go_sem, rd6]) rfl ?_
                    exact ⟨_, HRES.out, rfl, bel_set (bel_set hw (by omega) _) (by omega) _⟩
                · have hnx : Hid (∀ q d : Nat, hit g t l b r ax ay q d → ((i * 16 + k + 1 + 1 : Nat) : Int) ≤ q + 1) := fun q d hh => by
                    have h1 := hrow.out q d hh
                    by_cases e : q = i * 16 + k
                    · subst e
                      have h2 := hcol.out d hh
                      have h3 := hh.2.2.2
                      have h4 := hh.2.1
                      omega
                    · omega
                  go_wp2_with fail
                  go_round
                  case rel => exact ⟨i * 16 + k + 1 + 1, by omega, by omega, by omega, by first | rfl | (congr 1; omega) | go_num, hnx⟩
                  case measure => simp [intOf]; omega
          · have hrx' : ((i : Int) * 16 + (k : Int) + 1 == ax) = false := by simpa using hrx
            have hax2 : ax < (i : Int) * 16 + k + 1 := by omega
            clear hrx
            go_wp2_with fail
            refine (place_any _ i k _ ?_ hk (by omega)).mono ?_
            · omega
            rintro e w2 ⟨rfl, rfl⟩
            go_wp2_with fail
            go_loop [16] (fun s => ∃ col : Nat, 1 ≤ col ∧ max l 1 ≤ col ∧ s = .int .i64 col ∧ Hid (∀ d : Nat, hit g t l b r ax ay (i * 16 + k) d → (col : Int) ≤ d + 1)) (fun s => 300 - (intOf s).toNat)
            case atStart => exact ⟨(max l 1).toNat, by omega, by omega, by first | rfl | (congr 1; omega), fun d hh => by have h1 := hh.2.2.2; omega⟩
            case round =>
              obtain ⟨col, hc1, hcF, rfl, hcol⟩ := hrel
              by_cases hcr : (col : Int) ≤ min r 256
              · obtain ⟨d, rfl⟩ : ∃ d, col = d + 1 := ⟨col - 1, by omega⟩
                have hd : d < 256 := by omega
                have e3 : W.cell? ⟨rd, d, none⟩ = some (.pointer (g (i * 16 + k) d)) := (hS.row _ (by omega) rd hrb).cell hd
                cases hg : g (i * 16 + k) d with
                | none =>
                  rw [hg] at e3
                  have hnx : Hid (∀ d' : Nat, hit g t l b r ax ay (i * 16 + k) d' → ((d + 1 + 1 : Nat) : Int) ≤ d' + 1) := fun d' hh => by
                    have h1 := hcol.out d' hh
                    have h2 : d' ≠ d := by
                      rintro rfl
                      have := hh.2.2.1
                      rw [hg] at this
                      cases this
                    omega
                  clear hg
                  go_wp2_with fail
                  go_round
                  case rel => exact ⟨d + 1 + 1, by omega, by omega, by go_num, hnx⟩
                  case measure => simp [intOf]; omega
                | some y =>
                  rw [hg] at e3
                  have hres : IsNext g t l b r ax ay (some (i * 16 + k, d)) := by
                    refine ⟨⟨by omega, hd, by rw [hg]; rfl, by omega, by omega⟩, fun q' d' hh => ?_⟩
                    have h1 := hrow.out q' d' hh
                    by_cases e : q' = i * 16 + k
                    · subst e
                      have := hcol.out d' hh
                      exact .inr ⟨rfl, by omega⟩
                    · exact .inl (by omega)
                  have HRES : Hid (IsNext g t l b r ax ay (some (i * 16 + k, d))) := hres
                  clear hres hg
                  go_wp2_with fail
                  refine bodyPost_ret (v := .tuple #[.agg #[.int .i64 ((i * 16 + k : Nat) + 1), .int .i64 ((d : Nat) + 1)], .bool true]) (by simp [results, Try.results12, go_sem, rd6]) rfl ?_
                  exact ⟨_, HRES.out, rfl, bel_set (bel_set hw (by omega) _) (by omega) _⟩
              · have hnx : Hid (∀ q d : Nat, hit g t l b r ax ay q d → ((i * 16 + k + 1 + 1 : Nat) : Int) ≤ q + 1) := fun q d hh => by
                  have h1 := hrow.out q d hh
                  by_cases e : q = i * 16 + k
                  · subst e
                    have h2 := hcol.out d hh
                    have h3 := hh.2.2.2
                    have h4 := hh.2.1
                    omega
                  · omega
                go_wp2_with fail
                go_round
                case rel => exact ⟨i * 16 + k + 1 + 1, by omega, by omega, by omega, by first | rfl | (congr 1; omega) | go_num, hnx⟩
                case measure => simp [intOf]; omega
    · have hres : Hid (IsNext g t l b r ax ay none) := fun q d hh => by
        have h1 := hrow.out q d hh
        have h2 := hh.2.2.2
        have h3 := hh.1
        omega
      go_wp2_with fail
      refine bodyPost_ret (v := .tuple #[.agg #[.int .i64 0, .int .i64 0], .bool false]) (by simp [results, Try.results12, go_sem, rd6]) rfl ?_
      exact ⟨_, hres.out, rfl, bel_set (bel_set hw (by omega) _) (by omega) _⟩
end Go.Proofs.Ytiiiiplfcaeegaa

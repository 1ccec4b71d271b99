/-
  The walk of RefsDeeper: it returns true. Conditions: the formula lies as said; its list's bytes are below make's bound.
-/
import Derived.Test.YtifmfkofadhieaaRL2
namespace Go.Proofs.Ytifmfkofadhieaa
open Go.ChangeShapes Go.WideShapes Go.ChangeAt Go.RowKit Go.Deep

theorem mpct : mayNd ⟨4, 0, 0, ⟨#[]⟩, false, 0, 0, 0, 0, 0, 0, 0, 2, ⟨#[]⟩, 0⟩ = true := (mayN_4 _ _ _ _ _ _ _ _ _ _ _ _ _ _).trans (by simp [eqN, eqV])
theorem mabs : mayNd ⟨5, 0, 0, ⟨#[]⟩, false, 0, 0, 0, 0, 0, 0, 0, 0, ⟨#[65, 66, 83]⟩, 1⟩ = true := (mayN_5 _ _ _ _ _ _ _ _ _ _ _ _ _ _).trans (by simp [abs_named, eqN, eqV])
theorem run_app {l : List Nd} {st : List Pt} (h : runN l [] = some st) (x : Nd) : runN (l ++ [x]) [] = stepN x st := by
  rw [runN_add, h, Option.bind_some, runN_one]
theorem depth_pct {l : List Nd} {d : Nat} (h : depthN l = some d) (hl : l.length < 1024) : ∃ d', depthN (l ++ [(⟨4, 0, 0, ⟨#[]⟩, false, 0, 0, 0, 0, 0, 0, 0, 2, ⟨#[]⟩, 0⟩ : Nd)]) = some d' ∧ d ≤ d' ∧ d' ≤ d + 1 := by
  obtain ⟨p, hr, hm, hd, h1, h2⟩ := run_of_depth h
  have hs := (run_app hr (⟨4, 0, 0, ⟨#[]⟩, false, 0, 0, 0, 0, 0, 0, 0, 2, ⟨#[]⟩, 0⟩ : Nd)).trans (step_op1 (st := [p]) (l := 0) mpct rfl rfl rfl rfl)
  rw [if_neg (by simp [hm])] at hs
  refine ⟨insd p (lvl 2), (depth_one (by simp; omega) hs).trans (if_neg (by simp)), ?_, ?_⟩
  · unfold insd
    split <;> omega
  · rw [← hd]
    exact insd_le p p.d _ (Nat.le_refl _)
theorem depth_abs {l : List Nd} {d : Nat} (h : depthN l = some d) (hl : l.length < 1024) : depthN (l ++ [(⟨5, 0, 0, ⟨#[]⟩, false, 0, 0, 0, 0, 0, 0, 0, 0, ⟨#[65, 66, 83]⟩, 1⟩ : Nd)]) = some (d + 1) := by
  obtain ⟨p, hr, hm, hd, h1, h2⟩ := run_of_depth h
  have hs := (run_app hr (⟨5, 0, 0, ⟨#[]⟩, false, 0, 0, 0, 0, 0, 0, 0, 0, ⟨#[65, 66, 83]⟩, 1⟩ : Nd)).trans (step_call (st := [p]) mabs rfl (Nat.le_refl 1))
  rw [← hd]
  refine (depth_one (by simp; omega) hs).trans ((if_neg (by simp)).trans ?_)
  show some (mxd [p] + 1) = _
  simp [mxd]
theorem depth_1025 {l : List Nd} (h : l.length = 1024) (x : Nd) : depthN (l ++ [x]) = none := depth_size (.inr (by simp; omega))

theorem rng_app {Ns : List Nd} (h : ∀ n, n ∈ Ns → rngN n) {x : Nd} (hx : rngN x) : ∀ n, n ∈ Ns ++ [x] → rngN n := fun n hn => by
  rcases List.mem_append.1 hn with hn | hn
  · exact h n hn
  · rw [List.mem_singleton.1 hn]
    exact hx
theorem ol_see3 {w : World} {B : Nat} {v : Value} {L : List Nd} {x : Nd} (h : OL KN w B v (L ++ [x])) : ∃ A c, v = .slice A (L.length + 1) c := by
  obtain ⟨A, c, h1, _, _⟩ := ol_see' h
  rw [List.length_append] at h1
  exact ⟨A, c, h1⟩
theorem kk_ne {wb : World} {a n : Nat} {t : TypeId} {cs : Array Value} (h : Blk wb a t cs) (hz : wb.heap.size ≤ n) : ¬ a = n := Nat.ne_of_lt (Nat.lt_of_lt_of_le h.lt hz)
theorem ol_see2 {α : Type} {K : Knd α} {w : World} {B : Nat} {v : Value} {L : List α} (h : OL K w B v L) : ∃ A c, v = .slice A L.length c ∧ L.length ≤ 9223372036854775807 := by
  obtain ⟨A, c, h1, _, h3⟩ := ol_see' h
  exact ⟨A, c, h1, h3⟩
theorem ol_lies {α : Type} {K : Knd α} {w : World} {B n c : Nat} {A : Option Addr} {L : List α} (h : OL K w B (.slice A n c) L) : Lies K w A L := by
  obtain ⟨A', c', h1, h2, _⟩ := ol_see' h
  injection h1 with h1 _ _
  rw [h1]
  exact h2
theorem chk_is (d : Nat) : chkI (some d) = if 32 < d then 20 else 0 := rfl

set_option maxHeartbeats 3200000 in
set_option maxRecDepth 100000 in
theorem refsDeeper_walk (Ns : List Nd) (A : Option Addr) (cap : Nat) (w : World) (hA : Lies KN w A Ns) (hN : ∀ n, n ∈ Ns → rngN n) (hb : (Ns.length + 2) * 136 ≤ 281474976710656) :
    Calls Try.prog 9 #[.agg #[.slice A Ns.length cap]] w fun e w' => e = .returned (.bool true) ∧ Below w.heap.size w w' := by
  have hP : rngN ⟨4, 0, 0, ⟨#[]⟩, false, 0, 0, 0, 0, 0, 0, 0, 2, ⟨#[]⟩, 0⟩ := ⟨by decide, ⟨by decide, by decide⟩, ⟨by decide, by decide⟩, by decide, by decide⟩
  have hQ : rngN ⟨5, 0, 0, ⟨#[]⟩, false, 0, 0, 0, 0, 0, 0, 0, 0, ⟨#[65, 66, 83]⟩, 1⟩ := ⟨by decide, ⟨by decide, by decide⟩, ⟨by decide, by decide⟩, by decide, by decide⟩
  have HP := Lib.hid (rng_app hN hP)
  have HQ := Lib.hid (rng_app hN hQ)
  clear hP hQ
  have HN := Lib.hid hN
  clear hN
  go_enter Try.func9, Try.ntmps9
  go_wp2_with fail
  refine (pdepth_any Ns A cap _ (hA.below (bel_alloc (bel_refl w) _)) HN.out).mono ?_
  rintro e w1 ⟨rfl, hb1⟩
  have k1 := (Blk.new w rfl 24 #[.slice A Ns.length cap]).below hb1
  have hW := bel_call (bel_alloc (bel_refl w) _) hb1
  have HA := hA.below hW
  have k1sz := hW.size
  clear hb1 hA
  have rd1 := k1.rd
  have lt1 := k1.lt
  obtain ⟨D, hD⟩ : ∃ D, D = depI (depthN Ns) := ⟨_, rfl⟩
  rw [← hD]
  have HD := Lib.hid hD
  clear hD
  go_wp2_with fail
  refine (pcheck_any Ns A cap _ HA HN.out).mono ?_
  rintro e w2 ⟨rfl, hb2⟩
  replace k1 := k1.below hb2
  replace HA := HA.below hb2
  replace hW := bel_call hW hb2
  clear hb2
  replace rd1 := k1.rd
  replace lt1 := k1.lt
  obtain ⟨ck, hck⟩ : ∃ ck, ck = chkI (depthN Ns) := ⟨_, rfl⟩
  rw [← hck]
  have HCK := Lib.hid hck
  rcases (show ck = 0 ∨ ck = 20 from hck ▸ chk_01 _) with rfl | rfl
  case inr =>
    clear hck
    go_wp2_with fail
    refine (lives_any _).mono ?_
    rintro e w8 ⟨rfl, hb8⟩
    replace hW := bel_call hW hb8
    clear hb8
    go_wp2_with fail
    go_ret
    exact ⟨rfl, hW⟩
  clear hck
  obtain ⟨d, hd, hd32⟩ := chk_ok HCK.out.symm
  obtain ⟨_, _, _, _, hl1, hl2⟩ := run_of_depth hd
  have HDD := Lib.hid hd
  have hDd : D = (d : Int) := HD.out.trans (by rw [hd]; rfl)
  subst hDd
  clear hd
  go_wp2_with fail
  refine (copied_any Ns A cap _ HA hb).mono ?_
  rintro e w3 ⟨g, rfl, hO, hb3⟩
  have hOT := OL.take (L := Ns ++ [zNd, zNd]) (by rw [List.length_append]; exact hO) Ns.length (by simp)
  rw [List.take_left] at hOT
  have hgB := (hOT.lt g rfl).1
  have hgw := (hOT.lt g rfl).2
  have hb4 := bel_alloc (bel_alloc hb3 (.cells #[.slice (some ⟨g, 0, none⟩) Ns.length (Ns.length + 2)] 24)) (.cells #[.int .i64 4, .int .i64 0, .int .i64 0, .string ⟨#[]⟩, .bool false, .int .i64 0, .int .i64 0, .int .i64 0, .int .i64 0, .int .i64 0, .int .i64 0, .int .i64 0, .int .i64 2, .string ⟨#[]⟩, .int .i64 0] 48)
  have hOA := (hOT.alloc (.cells #[.slice (some ⟨g, 0, none⟩) Ns.length (Ns.length + 2)] 24)).alloc (.cells #[.int .i64 4, .int .i64 0, .int .i64 0, .string ⟨#[]⟩, .bool false, .int .i64 0, .int .i64 0, .int .i64 0, .int .i64 0, .int .i64 0, .int .i64 0, .int .i64 0, .int .i64 2, .string ⟨#[]⟩, .int .i64 0] 48)
  have k9 := (Blk.new w3 rfl 24 #[.slice (some ⟨g, 0, none⟩) Ns.length (Ns.length + 2)]).alloc (.cells #[.int .i64 4, .int .i64 0, .int .i64 0, .string ⟨#[]⟩, .bool false, .int .i64 0, .int .i64 0, .int .i64 0, .int .i64 0, .int .i64 0, .int .i64 0, .int .i64 0, .int .i64 2, .string ⟨#[]⟩, .int .i64 0] 48)
  have hMM := Lies.blk (K := KN) (x := ⟨4, 0, 0, ⟨#[]⟩, false, 0, 0, 0, 0, 0, 0, 0, 2, ⟨#[]⟩, 0⟩) (Blk.new (w3.alloc (.cells #[.slice (some ⟨g, 0, none⟩) Ns.length (Ns.length + 2)] 24)) (g := w3.heap.size + 1) (by simp) 48 #[.int .i64 4, .int .i64 0, .int .i64 0, .string ⟨#[]⟩, .bool false, .int .i64 0, .int .i64 0, .int .i64 0, .int .i64 0, .int .i64 0, .int .i64 0, .int .i64 0, .int .i64 2, .string ⟨#[]⟩, .int .i64 0]) rfl
  have hzz := hb4.size
  have hzs := hb3.size
  have hKK : ∀ w7 : World, ((w3.alloc (.cells #[.slice (some ⟨g, 0, none⟩) Ns.length (Ns.length + 2)] 24)).alloc (.cells #[.int .i64 4, .int .i64 0, .int .i64 0, .string ⟨#[]⟩, .bool false, .int .i64 0, .int .i64 0, .int .i64 0, .int .i64 0, .int .i64 0, .int .i64 0, .int .i64 0, .int .i64 2, .string ⟨#[]⟩, .int .i64 0] 48)).grownBy w7 (some g) → Blk w7 w3.heap.size 24 #[.slice (some ⟨g, 0, none⟩) Ns.length (Ns.length + 2)] := fun w7 h => k9.grownX h (by intro e; injection e with e; omega)
  have KK := Lib.hid hKK
  have HB4 := Lib.hid hb4
  have HB3 := Lib.hid hb3
  clear k9 hKK hO hb4 hb3 hOT rd1 lt1
  go_upto_region 6 with (at_builtin; go_must (refine wp_ol_append info_kn rfl Try.underlying22 rfl _ _ rfl rfl hOA (M := [⟨4, 0, 0, ⟨#[]⟩, false, 0, 0, 0, 0, 0, 0, 0, 2, ⟨#[]⟩, 0⟩]) (c := 1) rfl rfl hMM (by unfold maxLen; omega) (by show (_ + 1) * 136 ≤ _; omega) hzz ?_); intro v7 w7 hO7 hg7; obtain ⟨A1, c1, hv7⟩ := ol_see3 hO7; have hkk := KK.out _ hg7; have rdk := hkk.rd; have ltk := hkk.lt; have fzk := hkk.fz; have hb7 := bel_grown HB4.out hg7 (fun z hz => by injection hz with hz; subst hz; exact hgB); have kk1 := k1.below hb7; have rdk1 := kk1.rd; have ltk1 := kk1.lt; have kne := kk_ne k1 hzs; subst hv7)
  have hbx := bel_set (b := w3.heap.size) (o := 0) hb7 HB3.out.size (.slice A1 (Ns.length + 1) c1)
  have k4 := hkk.put 0 (.slice A1 (Ns.length + 1) c1)
  have hL1 := ol_lies (hO7.set (b := w3.heap.size) (fun z hz => by obtain ⟨cur, hc⟩ := hO7.type z hz; exact ty_ne hc hkk (by decide)) 0 (.slice A1 (Ns.length + 1) c1))
  clear hO7 hg7 rdk ltk fzk hkk hOA hMM kk1 rdk1 ltk1 hb7 kne
  generalize hwz : (w7.setCell ⟨w3.heap.size, 0, none⟩ (.slice A1 (Ns.length + 1) c1)) = wq1 at hbx k4 hL1 ⊢
  clear hwz
  replace HA := HA.below hbx
  replace k1 := k1.below hbx
  replace hW := bel_call hW hbx
  clear hbx
  have rd1 := k1.rd
  have lt1 := k1.lt
  have rd4 := k4.rd
  have lt4 := k4.lt
  go_wp2_with fail
  refine (copied_any Ns A cap _ HA hb).mono ?_
  rintro e w3 ⟨g, rfl, hO, hb3⟩
  have hOT := OL.take (L := Ns ++ [zNd, zNd]) (by rw [List.length_append]; exact hO) Ns.length (by simp)
  rw [List.take_left] at hOT
  have hgB := (hOT.lt g rfl).1
  have hgw := (hOT.lt g rfl).2
  have hb4 := bel_alloc (bel_alloc hb3 (.cells #[.slice (some ⟨g, 0, none⟩) Ns.length (Ns.length + 2)] 24)) (.cells #[.int .i64 5, .int .i64 0, .int .i64 0, .string ⟨#[]⟩, .bool false, .int .i64 0, .int .i64 0, .int .i64 0, .int .i64 0, .int .i64 0, .int .i64 0, .int .i64 0, .int .i64 0, .string ⟨#[65, 66, 83]⟩, .int .i64 1] 48)
  have hOA := (hOT.alloc (.cells #[.slice (some ⟨g, 0, none⟩) Ns.length (Ns.length + 2)] 24)).alloc (.cells #[.int .i64 5, .int .i64 0, .int .i64 0, .string ⟨#[]⟩, .bool false, .int .i64 0, .int .i64 0, .int .i64 0, .int .i64 0, .int .i64 0, .int .i64 0, .int .i64 0, .int .i64 0, .string ⟨#[65, 66, 83]⟩, .int .i64 1] 48)
  have k9 := (Blk.new w3 rfl 24 #[.slice (some ⟨g, 0, none⟩) Ns.length (Ns.length + 2)]).alloc (.cells #[.int .i64 5, .int .i64 0, .int .i64 0, .string ⟨#[]⟩, .bool false, .int .i64 0, .int .i64 0, .int .i64 0, .int .i64 0, .int .i64 0, .int .i64 0, .int .i64 0, .int .i64 0, .string ⟨#[65, 66, 83]⟩, .int .i64 1] 48)
  have hMM := Lies.blk (K := KN) (x := ⟨5, 0, 0, ⟨#[]⟩, false, 0, 0, 0, 0, 0, 0, 0, 0, ⟨#[65, 66, 83]⟩, 1⟩) (Blk.new (w3.alloc (.cells #[.slice (some ⟨g, 0, none⟩) Ns.length (Ns.length + 2)] 24)) (g := w3.heap.size + 1) (by simp) 48 #[.int .i64 5, .int .i64 0, .int .i64 0, .string ⟨#[]⟩, .bool false, .int .i64 0, .int .i64 0, .int .i64 0, .int .i64 0, .int .i64 0, .int .i64 0, .int .i64 0, .int .i64 0, .string ⟨#[65, 66, 83]⟩, .int .i64 1]) rfl
  have hzz := hb4.size
  have hzs := hb3.size
  have hKK : ∀ w7 : World, ((w3.alloc (.cells #[.slice (some ⟨g, 0, none⟩) Ns.length (Ns.length + 2)] 24)).alloc (.cells #[.int .i64 5, .int .i64 0, .int .i64 0, .string ⟨#[]⟩, .bool false, .int .i64 0, .int .i64 0, .int .i64 0, .int .i64 0, .int .i64 0, .int .i64 0, .int .i64 0, .int .i64 0, .string ⟨#[65, 66, 83]⟩, .int .i64 1] 48)).grownBy w7 (some g) → Blk w7 w3.heap.size 24 #[.slice (some ⟨g, 0, none⟩) Ns.length (Ns.length + 2)] := fun w7 h => k9.grownX h (by intro e; injection e with e; omega)
  have KK := Lib.hid hKK
  have HB4 := Lib.hid hb4
  have HB3 := Lib.hid hb3
  clear k9 hKK hO hb4 hb3 hOT rd1 lt1 rd4 lt4
  go_upto_region 8 with (at_builtin; go_must (refine wp_ol_append info_kn rfl Try.underlying22 rfl _ _ rfl rfl hOA (M := [⟨5, 0, 0, ⟨#[]⟩, false, 0, 0, 0, 0, 0, 0, 0, 0, ⟨#[65, 66, 83]⟩, 1⟩]) (c := 1) rfl rfl hMM (by unfold maxLen; omega) (by show (_ + 1) * 136 ≤ _; omega) hzz ?_); intro v7 w7 hO7 hg7; obtain ⟨A2, c2, hv7⟩ := ol_see3 hO7; have hkk := KK.out _ hg7; have rdk := hkk.rd; have ltk := hkk.lt; have fzk := hkk.fz; have hb7 := bel_grown HB4.out hg7 (fun z hz => by injection hz with hz; subst hz; exact hgB); have kk1 := k1.below hb7; have rdk1 := kk1.rd; have ltk1 := kk1.lt; have kne := kk_ne k1 hzs; subst hv7)
  have hbx := bel_set (b := w3.heap.size) (o := 0) hb7 HB3.out.size (.slice A2 (Ns.length + 1) c2)
  have k5 := hkk.put 0 (.slice A2 (Ns.length + 1) c2)
  have hL2 := ol_lies (hO7.set (b := w3.heap.size) (fun z hz => by obtain ⟨cur, hc⟩ := hO7.type z hz; exact ty_ne hc hkk (by decide)) 0 (.slice A2 (Ns.length + 1) c2))
  clear hO7 hg7 rdk ltk fzk hkk hOA hMM kk1 rdk1 ltk1 hb7 kne
  generalize hwz : (w7.setCell ⟨w3.heap.size, 0, none⟩ (.slice A2 (Ns.length + 1) c2)) = wq2 at hbx k5 hL2 ⊢
  clear hwz
  replace HA := HA.below hbx
  replace hL1 := hL1.below hbx
  replace k1 := k1.below hbx
  replace k4 := k4.below hbx
  replace hW := bel_call hW hbx
  clear hbx
  have rd1 := k1.rd
  have lt1 := k1.lt
  have rd4 := k4.rd
  have lt4 := k4.lt
  have rd5 := k5.rd
  have lt5 := k5.lt
  obtain ⟨Ps, hPs⟩ : ∃ Ps : List Nd, Ps = (Ns ++ [(⟨4, 0, 0, ⟨#[]⟩, false, 0, 0, 0, 0, 0, 0, 0, 2, ⟨#[]⟩, 0⟩ : Nd)]) := ⟨_, rfl⟩
  obtain ⟨Qs, hQs⟩ : ∃ Qs : List Nd, Qs = (Ns ++ [(⟨5, 0, 0, ⟨#[]⟩, false, 0, 0, 0, 0, 0, 0, 0, 0, ⟨#[65, 66, 83]⟩, 1⟩ : Nd)]) := ⟨_, rfl⟩
  have hlP : Ps.length = Ns.length + 1 := by rw [hPs]; simp
  have hlQ : Qs.length = Ns.length + 1 := by rw [hQs]; simp
  rw [← hPs] at HP hL1
  rw [← hQs] at HQ hL2
  have hp1 := fun W h => pdepth_any Ps A1 c1 W h HP.out
  have hp2 := fun W h => pcheck_any Ps A1 c1 W h HP.out
  have hq1 := fun W h => pdepth_any Qs A2 c2 W h HQ.out
  have hq2 := fun W h => pcheck_any Qs A2 c2 W h HQ.out
  rw [hlP] at hp1 hp2
  rw [hlQ] at hq1 hq2
  have HP1 := Lib.hid hp1
  have HP2 := Lib.hid hp2
  have HQ1 := Lib.hid hq1
  have HQ2 := Lib.hid hq2
  have HPS := Lib.hid hPs
  have HQS := Lib.hid hQs
  clear hPs hQs hlP hlQ hp1 hp2 hq1 hq2
  by_cases h24 : Ns.length = 1024
  · have e1 : chkI (depthN Ps) = 20 := by rw [HPS.out, depth_1025 h24]; rfl
    have e2 : chkI (depthN Qs) = 20 := by rw [HQS.out, depth_1025 h24]; rfl
    have b1 : ((Ns.length : Int) == 1024) = true := by rw [beq_iff_eq]; omega
    clear h24
    go_wp2_with fail
    refine (HP2.out _ hL1).mono ?_
    rintro e w6 ⟨rfl, hb6⟩
    rw [e1]
    replace k4 := k4.below hb6
    replace k5 := k5.below hb6
    replace hL1 := hL1.below hb6
    replace hL2 := hL2.below hb6
    replace hW := bel_call hW hb6
    clear hb6
    replace rd4 := k4.rd
    replace lt4 := k4.lt
    replace rd5 := k5.rd
    replace lt5 := k5.lt
    go_wp2_with fail
    refine (HQ2.out _ hL2).mono ?_
    rintro e w6 ⟨rfl, hb6⟩
    rw [e2]
    replace k4 := k4.below hb6
    replace k5 := k5.below hb6
    replace hL1 := hL1.below hb6
    replace hL2 := hL2.below hb6
    replace hW := bel_call hW hb6
    clear hb6
    replace rd4 := k4.rd
    replace lt4 := k4.lt
    replace rd5 := k5.rd
    replace lt5 := k5.lt
    go_wp2_with fail
    refine (lives_any _).mono ?_
    rintro e w8 ⟨rfl, hb8⟩
    replace hW := bel_call hW hb8
    clear hb8
    go_wp2_with fail
    go_ret
    exact ⟨rfl, hW⟩
  · have hlt : Ns.length < 1024 := by omega
    obtain ⟨d', hd', hd1, hd2⟩ := depth_pct HDD.out hlt
    have e1 : depI (depthN Ps) = (d' : Int) := by rw [HPS.out, hd']; rfl
    have e2 : depI (depthN Qs) = (d : Int) + 1 := by rw [HQS.out, depth_abs HDD.out hlt]; rfl
    have b1 : ((Ns.length : Int) == 1024) = false := by rw [beq_eq_false_iff_ne]; omega
    have hq : (d < 32 ∧ chkI (depthN Qs) = 0) ∨ (¬ d < 32 ∧ chkI (depthN Qs) = 20) := by
      rw [HQS.out, depth_abs HDD.out hlt, chk_is]
      by_cases h : d < 32
      · exact .inl ⟨h, if_neg (by omega)⟩
      · exact .inr ⟨h, if_pos (by omega)⟩
    have wd : IntKind.i64.wrap ((d : Int) + 1) = (d : Int) + 1 := IntWalk.i64_in _ (by omega)
    clear h24 hlt hd'
    rcases hq with ⟨h32, hqq⟩ | ⟨h32, hqq⟩
    case' inl => have b32 : decide ((d : Int) < 32) = true := by simp; omega
    case' inr => have b32 : decide ((d : Int) < 32) = false := by simp; omega
    all_goals
      go_wp2_with fail
      refine (HP1.out _ hL1).mono ?_
      rintro e w6 ⟨rfl, hb6⟩
      rw [e1]
      replace k4 := k4.below hb6
      replace k5 := k5.below hb6
      replace hL1 := hL1.below hb6
      replace hL2 := hL2.below hb6
      replace hW := bel_call hW hb6
      clear hb6
      replace rd4 := k4.rd
      replace lt4 := k4.lt
      replace rd5 := k5.rd
      replace lt5 := k5.lt
      go_wp2_with fail
      refine (HQ1.out _ hL2).mono ?_
      rintro e w6 ⟨rfl, hb6⟩
      rw [e2]
      replace k4 := k4.below hb6
      replace k5 := k5.below hb6
      replace hL1 := hL1.below hb6
      replace hL2 := hL2.below hb6
      replace hW := bel_call hW hb6
      clear hb6
      replace rd4 := k4.rd
      replace lt4 := k4.lt
      replace rd5 := k5.rd
      replace lt5 := k5.lt
      go_wp2_with fail
      refine (HQ2.out _ hL2).mono ?_
      rintro e w6 ⟨rfl, hb6⟩
      rw [hqq]
      replace k4 := k4.below hb6
      replace k5 := k5.below hb6
      replace hL1 := hL1.below hb6
      replace hL2 := hL2.below hb6
      replace hW := bel_call hW hb6
      clear hb6
      replace rd4 := k4.rd
      replace lt4 := k4.lt
      replace rd5 := k5.rd
      replace lt5 := k5.lt
      go_wp2_with fail
      refine (lives_any _).mono ?_
      rintro e w8 ⟨rfl, hb8⟩
      replace hW := bel_call hW hb8
      clear hb8
      go_wp2_with fail
      go_ret
      exact ⟨rfl, hW⟩
end Go.Proofs.Ytifmfkofadhieaa

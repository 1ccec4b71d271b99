/-
  Names: contract of orielref05.Named. Conditions: none.
-/
import Derived.Test.YtifmfkofadhieaaRNm
namespace Go.Proofs.Ytifmfkofadhieaa
open Go.ChangeShapes Go.WideShapes Go.ChangeAt Go.RowKit Go.Deep

set_option maxHeartbeats 6400000 in
set_option maxRecDepth 100000 in
theorem rnamed_any (s : ByteArray) (w : World) :
    Calls Try.prog 38 #[.string s] w fun e w' => e = .returned (.bool (namedB s)) ∧ w = w' := by
  obtain ⟨R, hR⟩ : ∃ R, R = namedB s := ⟨_, rfl⟩
  rw [← hR]
  have HR := Lib.hid hR
  clear hR
  by_cases h1 : s.size < 1
  · have HF : Hid (R = false) := by
      rw [HR.out]
      exact namedB_false (fun h => by have := h.1; omega)
    have hd : decide ((s.size : Int) < 1) = true := by simp; omega
    clear h1 HR
    go_enter Try.func38, Try.ntmps38
    go_wp2_with fail
    go_ret
    exact ⟨ret_bool HF.out.symm, rfl⟩
  have hd : decide ((s.size : Int) < 1) = false := by simp; omega
  by_cases h2 : 16 < s.size
  · have HF : Hid (R = false) := by
      rw [HR.out]
      exact namedB_false (fun h => by have := h.1; omega)
    have hd2 : decide ((16 : Int) < (s.size : Int)) = true := by simp; omega
    clear h1 h2 HR
    go_enter Try.func38, Try.ntmps38
    go_wp2_with fail
    go_ret
    exact ⟨ret_bool HF.out.symm, rfl⟩
  have hd2 : decide ((16 : Int) < (s.size : Int)) = false := by simp; omega
  by_cases h3 : s.toList = [84, 82, 85, 69]
  · have HF : Hid (R = false) := by
      rw [HR.out]
      exact namedB_false (fun h => h.2.1.1 h3)
    have hd3 : (s.toList == [84, 82, 85, 69]) = true := by simp [h3]
    clear h1 h2 h3 HR
    go_enter Try.func38, Try.ntmps38
    go_wp2_with fail
    go_ret
    exact ⟨ret_bool HF.out.symm, rfl⟩
  have hd3 : (s.toList == [84, 82, 85, 69]) = false := by simpa using h3
  by_cases h4 : s.toList = [70, 65, 76, 83, 69]
  · have HF : Hid (R = false) := by
      rw [HR.out]
      exact namedB_false (fun h => h.2.1.2 h4)
    have hd4 : (s.toList == [70, 65, 76, 83, 69]) = true := by simp [h4]
    clear h1 h2 h3 h4 HR
    go_enter Try.func38, Try.ntmps38
    go_wp2_with fail
    go_ret
    exact ⟨ret_bool HF.out.symm, rfl⟩
  have hd4 : (s.toList == [70, 65, 76, 83, 69]) = false := by simpa using h4
  have HQ : Hid ((1 ≤ s.size ∧ s.size ≤ 16) ∧ (s.toList ≠ [84, 82, 85, 69] ∧ s.toList ≠ [70, 65, 76, 83, 69])) := ⟨⟨by omega, by omega⟩, h3, h4⟩
  have hP := shape_of s
  obtain ⟨pl, hpl⟩ : ∃ pl, pl = plOf s := ⟨_, rfl⟩
  obtain ⟨pd, hpd⟩ : ∃ pd, pd = pdOf s := ⟨_, rfl⟩
  have HF : Hid (¬ NamedP s pl pd → R = false) := fun h => by
    rw [HR.out]
    exact namedB_false (by rw [← hpl, ← hpd]; exact h)
  have HT : Hid (NamedP s pl pd → R = true) := fun h => by
    rw [HR.out]
    exact namedB_true (by rw [← hpl, ← hpd]; exact h)
  rw [← hpl, ← hpd] at hP
  have HP := Lib.hid hP
  have hl := hP.hl
  have hsz : 1 ≤ s.size := by omega
  have hsz2 : s.size ≤ 16 := by omega
  clear hpl hpd hP h1 h2 h3 h4 HR
  go_enter Try.func38, Try.ntmps38
  go_wp2_with fail
  go_loop [3] (fun s3 => ∃ k : Nat, k ≤ pl ∧ s3 = .int .i64 k) (fun s3 => s.size - (intOf s3).toNat)
  case atStart => exact ⟨0, Nat.zero_le _, rfl⟩
  case round =>
    obtain ⟨k, hk, rfl⟩ := hrel
    by_cases hkl : k < pl
    · have hks : k < s.size := by omega
      obtain ⟨c1, c2⟩ := HP.out.l k hks hkl
      go_wp2_with fail
      go_round
      case rel => exact ⟨k + 1, by omega, by go_num⟩
      case measure => simp [intOf]; omega
    · obtain rfl : k = pl := by omega
      by_cases h0 : k = 0
      · subst h0
        have hks : 0 < s.size := by omega
        have hc := HP.out.l' hks
        have HR0 : Hid (R = false) := HF.out (fun h => by have := h.2.2.1; omega)
        rcases (show (s[0].toNat : Int) < 65 ∨ 90 < (s[0].toNat : Int) by unfold isL at hc; omega) with c1 | c1
        all_goals
          clear hc
          go_wp2_with fail
          all_goals
            go_ret
            exact ⟨ret_bool HR0.out.symm, rfl⟩
      · have hb0 : ((k : Int) == 0) = false := by rw [beq_eq_false_iff_ne]; omega
        by_cases hks : k < s.size
        · have hc := HP.out.l' hks
          rcases (show (s[k].toNat : Int) < 65 ∨ 90 < (s[k].toNat : Int) by unfold isL at hc; omega) with c1 | c1
          all_goals
            clear hc
            go_wp2_with fail
            clear c1
            go_loop [4, 5] (fun s4 s5 => ∃ (q : Nat) (p : Bool), k ≤ q ∧ q ≤ s.size ∧ s5 = .int .i64 q ∧ s4 = .bool p ∧ Hid ((p = true ↔ (k < s.size ∧ ∀ j (h : j < s.size), k ≤ j → j < q → isD s[j])) ∧ ∀ j (h : j < s.size), k ≤ j → j < q → isO s[j])) (fun _ s5 => s.size - (intOf s5).toNat)
            case atStart => exact ⟨k, _, Nat.le_refl _, by omega, rfl, rfl, ⟨⟨fun _ => ⟨by omega, fun j h h1 h2 => by omega⟩, fun _ => rfl⟩, fun j h h1 h2 => by omega⟩⟩
            case round =>
              obtain ⟨q, p, hk1, hk2, rfl, rfl, hI⟩ := hrel
              by_cases hks : q < s.size
              · have hcl : isL s[q] ∨ isD s[q] ∨ (s[q].toNat : Int) = 95 ∨ ¬ isO s[q] := by
                  by_cases h : isO s[q]
                  · rcases h with h | h | h
                    · exact .inl h
                    · exact .inr (.inl h)
                    · exact .inr (.inr (.inl h))
                  · exact .inr (.inr (.inr h))
                have HO : Hid (∀ hO : isO s[q], ∀ j (h : j < s.size), k ≤ j → j < q + 1 → isO s[j]) := fun hO j h h1 hj => by
                  by_cases hja : j = q
                  · subst hja; exact hO
                  · exact hI.out.2 j h h1 (by omega)
                have HND : Hid (¬ isD s[q] → (false = true ↔ (k < s.size ∧ ∀ j (h : j < s.size), k ≤ j → j < q + 1 → isD s[j]))) := fun hn => by
                  constructor
                  · intro h; cases h
                  · intro h; exact absurd (h.2 q hks hk1 (by omega)) hn
                have HYD : Hid (isD s[q] → (p = true ↔ (k < s.size ∧ ∀ j (h : j < s.size), k ≤ j → j < q + 1 → isD s[j]))) := fun hy => by
                  rw [hI.out.1]
                  constructor
                  · intro h
                    refine ⟨h.1, fun j hj h1 h2 => ?_⟩
                    by_cases hja : j = q
                    · subst hja; exact hy
                    · exact h.2 j hj h1 (by omega)
                  · intro h
                    exact ⟨h.1, fun j hj h1 h2 => h.2 j hj h1 (by omega)⟩
                rcases hcl with hc | hc | hc | hc
                · have HC : Hid (isL s[q]) := hc
                  have HN : Hid (¬ isD s[q]) := fun h => by have h1 := hc.1; have h2 := h.2; omega
                  obtain ⟨c1, c2⟩ := hc
                  have c00 : (48 : Int) ≤ (s[q].toNat : Int) := by omega
                  have b1 : decide ((s[q].toNat : Int) ≤ 57) = false := by simp; omega
                  have b2 : decide ((s[q].toNat : Int) ≤ 90) = true := by simp; omega
                  go_wp2_with fail
                  go_round
                  case rel => exact ⟨q + 1, false, by omega, by omega, by go_num, rfl, ⟨HND.out HN.out, HO.out (.inl HC.out)⟩⟩
                  case measure => simp [intOf]; omega
                · have HC : Hid (isD s[q]) := hc
                  obtain ⟨c1, c2⟩ := hc
                  have c0 : (s[q].toNat : Int) < 65 := by omega
                  have b1 : decide ((s[q].toNat : Int) ≤ 57) = true := by simp; omega
                  go_wp2_with fail
                  go_round
                  case rel => exact ⟨q + 1, p, by omega, by omega, by go_num, rfl, ⟨HYD.out HC.out, HO.out (.inr (.inl HC.out))⟩⟩
                  case measure => simp [intOf]; omega
                · have HC : Hid ((s[q].toNat : Int) = 95) := hc
                  have HN : Hid (¬ isD s[q]) := fun h => by have h2 := h.2; omega
                  have c1 : 90 < (s[q].toNat : Int) := by omega
                  have c00 : (48 : Int) ≤ (s[q].toNat : Int) := by omega
                  have c01 : (65 : Int) ≤ (s[q].toNat : Int) := by omega
                  have b1 : decide ((s[q].toNat : Int) ≤ 57) = false := by simp; omega
                  have b2 : decide ((s[q].toNat : Int) ≤ 90) = false := by simp; omega
                  have c4 : ((s[q].toNat : Int) != 95) = false := by simpa using hc
                  clear hc
                  go_wp2_with fail
                  go_round
                  case rel => exact ⟨q + 1, false, by omega, by omega, by go_num, rfl, ⟨HND.out HN.out, HO.out (.inr (.inr HC.out))⟩⟩
                  case measure => simp [intOf]; omega
                · have HR0 : Hid (R = false) := HF.out (fun h => hc (h.2.2.2.1 q hks))
                  have c4 : ((s[q].toNat : Int) != 95) = true := by
                    rw [bne_iff_ne]
                    exact fun h => hc (.inr (.inr h))
                  rcases (show (s[q].toNat : Int) < 48 ∨ (57 < (s[q].toNat : Int) ∧ (s[q].toNat : Int) < 65) ∨ 90 < (s[q].toNat : Int) by unfold isO isL isD at hc; omega) with c1 | ⟨c1, c2⟩ | c1
                  · clear hc
                    go_wp2_with fail
                    all_goals
                      go_ret
                      exact ⟨ret_bool HR0.out.symm, rfl⟩
                  · have c00 : (48 : Int) ≤ (s[q].toNat : Int) := by omega
                    have b1 : decide ((s[q].toNat : Int) ≤ 57) = false := by simp; omega
                    clear hc
                    go_wp2_with fail
                    all_goals
                      go_ret
                      exact ⟨ret_bool HR0.out.symm, rfl⟩
                  · have c00 : (48 : Int) ≤ (s[q].toNat : Int) := by omega
                    have c01 : (65 : Int) ≤ (s[q].toNat : Int) := by omega
                    have b1 : decide ((s[q].toNat : Int) ≤ 57) = false := by simp; omega
                    have b2 : decide ((s[q].toNat : Int) ≤ 90) = false := by simp; omega
                    clear hc
                    go_wp2_with fail
                    all_goals
                      go_ret
                      exact ⟨ret_bool HR0.out.symm, rfl⟩
              · obtain rfl : q = s.size := by omega
                have HALL : Hid (∀ j (h : j < s.size), isO s[j]) := fun j h => by
                  by_cases hj : j < k
                  · exact .inl (HP.out.l j h hj)
                  · exact hI.out.2 j h (by omega) h
                cases p with
                | true =>
                  have HR1 : Hid (R = false) := HF.out (fun h => h.2.2.2.2 (by
                    obtain ⟨h1, h2⟩ := hI.out.1.1 rfl
                    have h3 : ¬ k + pd < s.size := fun h3 => HP.out.d' h3 (h2 _ h3 (by omega) h3)
                    omega))
                  go_wp2_with fail
                  go_ret
                  exact ⟨ret_bool HR1.out.symm, rfl⟩
                | false =>
                  have HR1 : Hid (R = true) := HT.out ⟨HQ.out.1, HQ.out.2, by omega, HALL.out, fun h => by
                    have h1 : (false : Bool) = true := hI.out.1.2 ⟨by omega, fun j hj h1 h2 => HP.out.d j hj h1 (by omega)⟩
                    cases h1⟩
                  go_wp2_with fail
                  go_ret
                  exact ⟨ret_bool HR1.out.symm, rfl⟩
        · go_wp2_with fail
          go_loop [4, 5] (fun s4 s5 => ∃ (q : Nat) (p : Bool), k ≤ q ∧ q ≤ s.size ∧ s5 = .int .i64 q ∧ s4 = .bool p ∧ Hid ((p = true ↔ (k < s.size ∧ ∀ j (h : j < s.size), k ≤ j → j < q → isD s[j])) ∧ ∀ j (h : j < s.size), k ≤ j → j < q → isO s[j])) (fun _ s5 => s.size - (intOf s5).toNat)
          case atStart => exact ⟨k, _, Nat.le_refl _, by omega, rfl, rfl, ⟨⟨fun h => (by cases h), fun h => by omega⟩, fun j h h1 h2 => by omega⟩⟩
          case round =>
            obtain ⟨q, p, hk1, hk2, rfl, rfl, hI⟩ := hrel
            by_cases hks : q < s.size
            · exact absurd hks (by omega)
            · obtain rfl : q = s.size := by omega
              have HALL : Hid (∀ j (h : j < s.size), isO s[j]) := fun j h => by
                by_cases hj : j < k
                · exact .inl (HP.out.l j h hj)
                · exact hI.out.2 j h (by omega) h
              cases p with
              | true =>
                have HR1 : Hid (R = false) := HF.out (fun h => h.2.2.2.2 (by
                  obtain ⟨h1, h2⟩ := hI.out.1.1 rfl
                  have h3 : ¬ k + pd < s.size := fun h3 => HP.out.d' h3 (h2 _ h3 (by omega) h3)
                  omega))
                go_wp2_with fail
                go_ret
                exact ⟨ret_bool HR1.out.symm, rfl⟩
              | false =>
                have HR1 : Hid (R = true) := HT.out ⟨HQ.out.1, HQ.out.2, by omega, HALL.out, fun h => by
                  have h1 : (false : Bool) = true := hI.out.1.2 ⟨by omega, fun j hj h1 h2 => HP.out.d j hj h1 (by omega)⟩
                  cases h1⟩
                go_wp2_with fail
                go_ret
                exact ⟨ret_bool HR1.out.symm, rfl⟩
end Go.Proofs.Ytifmfkofadhieaa

/-
  Names: contracts of refs.named and orielref05.Named. Conditions: those of each theorem.
-/
import Derived.Test.YtifmfkofadhieaaRV4
namespace Go.Proofs.Ytifmfkofadhieaa
open Go.ChangeShapes Go.WideShapes Go.ChangeAt Go.RowKit Go.Deep

def isL (c : UInt8) : Prop := 65 ≤ (c.toNat : Int) ∧ (c.toNat : Int) ≤ 90
def isD (c : UInt8) : Prop := 48 ≤ (c.toNat : Int) ∧ (c.toNat : Int) ≤ 57
def isO (c : UInt8) : Prop := isL c ∨ isD c ∨ (c.toNat : Int) = 95
/-- The letters ahead, the digits behind them. -/
structure Shape (s : ByteArray) (pl pd : Nat) : Prop where
  hl : pl + pd ≤ s.size
  l : ∀ j (h : j < s.size), j < pl → isL s[j]
  l' : ∀ (h : pl < s.size), ¬ isL s[pl]
  d : ∀ j (h : j < s.size), pl ≤ j → j < pl + pd → isD s[j]
  d' : ∀ (h : pl + pd < s.size), ¬ isD s[pl + pd]
theorem run_ex (n : Nat) (p : Nat → Prop) : ∀ (k a : Nat), a + k = n → ∃ m, a ≤ m ∧ m ≤ n ∧ (∀ j, a ≤ j → j < m → p j) ∧ (m < n → ¬ p m)
  | 0, a, h => ⟨a, Nat.le_refl _, by omega, fun j h1 h2 => by omega, fun h2 => by omega⟩
  | k + 1, a, h => by
    by_cases hp : p a
    · obtain ⟨m, h1, h2, h3, h4⟩ := run_ex n p k (a + 1) (by omega)
      refine ⟨m, by omega, h2, fun j hj1 hj2 => ?_, h4⟩
      by_cases hj : j = a
      · subst hj; exact hp
      · exact h3 j (by omega) hj2
    · exact ⟨a, Nat.le_refl _, by omega, fun j h1 h2 => by omega, fun _ => hp⟩
theorem shape_ex (s : ByteArray) : ∃ p : Nat × Nat, Shape s p.1 p.2 := by
  obtain ⟨m, h1, h2, h3, h4⟩ := run_ex s.size (fun j => ∀ h : j < s.size, isL s[j]) s.size 0 (by omega)
  obtain ⟨m2, g1, g2, g3, g4⟩ := run_ex s.size (fun j => ∀ h : j < s.size, isD s[j]) (s.size - m) m (by omega)
  refine ⟨(m, m2 - m), by omega, fun j h hj => h3 j (by omega) hj h, fun h hl => h4 h (fun _ => hl), fun j h hj1 hj2 => g3 j hj1 (by omega) h, fun h hd => ?_⟩
  have hm : m + (m2 - m) = m2 := by omega
  have h' : m2 < s.size := by rw [← hm]; exact h
  exact g4 h' (fun _ => by simpa [hm] using hd)
noncomputable def plOf (s : ByteArray) : Nat := (shape_ex s).choose.1
noncomputable def pdOf (s : ByteArray) : Nat := (shape_ex s).choose.2
theorem shape_of (s : ByteArray) : Shape s (plOf s) (pdOf s) := (shape_ex s).choose_spec
def NamedP (s : ByteArray) (pl pd : Nat) : Prop :=
  (1 ≤ s.size ∧ s.size ≤ 16) ∧ (s.toList ≠ [84, 82, 85, 69] ∧ s.toList ≠ [70, 65, 76, 83, 69]) ∧ 1 ≤ pl ∧ (∀ j (h : j < s.size), isO s[j]) ∧ ¬ (0 < pd ∧ pl + pd = s.size)
open Classical in
noncomputable def namedB (s : ByteArray) : Bool := decide (NamedP s (plOf s) (pdOf s))
theorem namedB_true {s : ByteArray} (h : NamedP s (plOf s) (pdOf s)) : namedB s = true := by simp [namedB, h]
theorem namedB_false {s : ByteArray} (h : ¬ NamedP s (plOf s) (pdOf s)) : namedB s = false := by simp [namedB, h]

set_option maxHeartbeats 3200000 in
set_option maxRecDepth 100000 in
theorem named_any (s : ByteArray) (w : World) :
    Calls Try.prog 34 #[.string s] w fun e w' => e = .returned (.bool (namedB s)) ∧ w = w' := by
  obtain ⟨R, hR⟩ : ∃ R, R = namedB s := ⟨_, rfl⟩
  rw [← hR]
  have HR := Lib.hid hR
  clear hR
  by_cases h1 : s.size < 1
  · have HF : Hid (R = false) := by
      rw [HR.out]
      exact namedB_false (fun h => by have := h.1; omega)
    have hd : decide ((s.size : Int) < 1) = true := by simp; omega
    clear h1 HR
    go_enter Try.func34, Try.ntmps34
    go_wp2_with fail
    go_ret
    exact ⟨ret_bool HF.out.symm, rfl⟩
  have hd : decide ((s.size : Int) < 1) = false := by simp; omega
  by_cases h2 : 16 < s.size
  · have HF : Hid (R = false) := by
      rw [HR.out]
      exact namedB_false (fun h => by have := h.1; omega)
    have hd2 : decide ((16 : Int) < (s.size : Int)) = true := by simp; omega
    clear h1 h2 HR
    go_enter Try.func34, Try.ntmps34
    go_wp2_with fail
    go_ret
    exact ⟨ret_bool HF.out.symm, rfl⟩
  have hd2 : decide ((16 : Int) < (s.size : Int)) = false := by simp; omega
  by_cases h3 : s.toList = [84, 82, 85, 69]
  · have HF : Hid (R = false) := by
      rw [HR.out]
      exact namedB_false (fun h => h.2.1.1 h3)
    have hd3 : (s.toList == [84, 82, 85, 69]) = true := by simp [h3]
    clear h1 h2 h3 HR
    go_enter Try.func34, Try.ntmps34
    go_wp2_with fail
    go_ret
    exact ⟨ret_bool HF.out.symm, rfl⟩
  have hd3 : (s.toList == [84, 82, 85, 69]) = false := by simpa using h3
  by_cases h4 : s.toList = [70, 65, 76, 83, 69]
  · have HF : Hid (R = false) := by
      rw [HR.out]
      exact namedB_false (fun h => h.2.1.2 h4)
    have hd4 : (s.toList == [70, 65, 76, 83, 69]) = true := by simp [h4]
    clear h1 h2 h3 h4 HR
    go_enter Try.func34, Try.ntmps34
    go_wp2_with fail
    go_ret
    exact ⟨ret_bool HF.out.symm, rfl⟩
  have hd4 : (s.toList == [70, 65, 76, 83, 69]) = false := by simpa using h4
  have HQ : Hid ((1 ≤ s.size ∧ s.size ≤ 16) ∧ (s.toList ≠ [84, 82, 85, 69] ∧ s.toList ≠ [70, 65, 76, 83, 69])) := ⟨⟨by omega, by omega⟩, h3, h4⟩
  have hP := shape_of s
  obtain ⟨pl, hpl⟩ : ∃ pl, pl = plOf s := ⟨_, rfl⟩
  obtain ⟨pd, hpd⟩ : ∃ pd, pd = pdOf s := ⟨_, rfl⟩
  have HF : Hid (¬ NamedP s pl pd → R = false) := fun h => by
    rw [HR.out]
    exact namedB_false (by rw [← hpl, ← hpd]; exact h)
  have HT : Hid (NamedP s pl pd → R = true) := fun h => by
    rw [HR.out]
    exact namedB_true (by rw [← hpl, ← hpd]; exact h)
  rw [← hpl, ← hpd] at hP
  have HP := Lib.hid hP
  have hl := hP.hl
  have hsz : 1 ≤ s.size := by omega
  have hsz2 : s.size ≤ 16 := by omega
  clear hpl hpd hP h1 h2 h3 h4 HR
  go_enter Try.func34, Try.ntmps34
  go_wp2_with fail
  go_loop [3, 4, 25] (fun s3 s4 s25 => ∃ k a d : Nat, k ≤ s.size ∧ s25 = .int .i64 k ∧ s3 = .int .i64 a ∧ s4 = .int .i64 d ∧ Hid (a = min k pl ∧ d = min (k - pl) pd ∧ (∀ j (h : j < s.size), j < k → isO s[j]) ∧ (0 < k → 1 ≤ pl))) (fun _ _ s25 => s.size - (intOf s25).toNat)
  case atStart => exact ⟨0, 0, 0, Nat.zero_le _, rfl, rfl, rfl, ⟨by simp, by simp, fun j h hj => by omega, fun h => by omega⟩⟩
  case round =>
    obtain ⟨k, a, d, hk, rfl, rfl, rfl, hI⟩ := hrel
    by_cases hks : k < s.size
    · by_cases hkl : k < pl
      · have hc := HP.out.l k hks hkl
        obtain ⟨c1, c2⟩ := hc
        obtain rfl : a = k := by have := hI.out.1; omega
        obtain rfl : d = 0 := by have := hI.out.2.1; omega
        go_wp2_with fail
        go_round
        case rel =>
          refine ⟨a + 1, a + 1, 0, by omega, by go_num, by go_num, rfl, ⟨by omega, by omega, fun j h hj => ?_, fun _ => by omega⟩⟩
          by_cases hja : j = a
          · subst hja; exact .inl ⟨by assumption, by assumption⟩
          · exact hI.out.2.2.1 j h (by omega)
        case measure => simp [intOf]; omega
      · obtain rfl : a = pl := by have := hI.out.1; omega
        by_cases hk0 : k = 0
        · subst hk0
          obtain rfl : a = 0 := by omega
          have hc := HP.out.l' hks
          have HR0 : Hid (R = false) := HF.out (fun h => by have := h.2.2.1; omega)
          rcases (show (s[0].toNat : Int) < 65 ∨ 90 < (s[0].toNat : Int) by unfold isL at hc; omega) with c1 | c1
          all_goals
            clear hc
            go_wp2_with fail
            all_goals
              go_ret
              exact ⟨ret_bool HR0.out.symm, rfl⟩
        · have hk1 : (0 : Int) < (k : Int) := by omega
          have h1a : 1 ≤ a := hI.out.2.2.2 (by omega)
          by_cases hkd : k < a + pd
          · have hc := HP.out.d k hks (by omega) hkd
            obtain ⟨c1, c2⟩ := hc
            obtain rfl : k = a + d := by have := hI.out.2.1; omega
            clear hk1
            have hk1 : (0 : Int) < (a : Int) + (d : Int) := by omega
            go_wp2_with fail
            go_round
            case rel =>
              refine ⟨a + d + 1, a, d + 1, by omega, by go_num, rfl, by go_num, ⟨by omega, by omega, fun j h hj => ?_, fun _ => by omega⟩⟩
              by_cases hja : j = a + d
              · subst hja; exact .inr (.inl ⟨by assumption, by assumption⟩)
              · exact hI.out.2.2.1 j h (by omega)
            case measure => simp [intOf]; omega
          · obtain rfl : d = pd := by have := hI.out.2.1; omega
            have hX : Hid ((k = a → ¬ isL s[k]) ∧ (k = a + d → ¬ isD s[k])) := ⟨fun h => by subst h; exact HP.out.l' hks, fun h => by subst h; exact HP.out.d' hks⟩
            have hcl : isL s[k] ∨ isD s[k] ∨ (s[k].toNat : Int) = 95 ∨ ¬ isO s[k] := by
              by_cases h : isO s[k]
              · rcases h with h | h | h
                · exact .inl h
                · exact .inr (.inl h)
                · exact .inr (.inr (.inl h))
              · exact .inr (.inr (.inr h))
            have HO : Hid (∀ hO : isO s[k], ∀ j (h : j < s.size), j < k + 1 → isO s[j]) := fun hO j h hj => by
              by_cases hja : j = k
              · subst hja; exact hO
              · exact hI.out.2.2.1 j h (by omega)
            rcases hcl with hc | hc | hc | hc
            · have hne : a ≠ k := fun h => hX.out.1 h.symm hc
              have hb : ((a : Int) == (k : Int)) = false := by rw [beq_eq_false_iff_ne]; omega
              have HC : Hid (isL s[k]) := hc
              obtain ⟨c1, c2⟩ := hc
              clear hne
              go_wp2_with fail
              go_round
              case rel => exact ⟨k + 1, a, d, by omega, by go_num, rfl, rfl, ⟨by omega, by omega, HO.out (.inl HC.out), fun _ => h1a⟩⟩
              case measure => simp [intOf]; omega
            · have hne : a + d ≠ k := fun h => hX.out.2 h.symm hc
              have hb : ((a : Int) + (d : Int) == (k : Int)) = false := by rw [beq_eq_false_iff_ne]; omega
              have HC : Hid (isD s[k]) := hc
              obtain ⟨c1, c2⟩ := hc
              clear hne
              go_wp2_with fail
              go_round
              case rel => exact ⟨k + 1, a, d, by omega, by go_num, rfl, rfl, ⟨by omega, by omega, HO.out (.inr (.inl HC.out)), fun _ => h1a⟩⟩
              case measure => simp [intOf]; omega
            · have HC : Hid ((s[k].toNat : Int) = 95) := hc
              have c1 : 90 < (s[k].toNat : Int) := by omega
              have c2 : (s[k].toNat : Int) ≤ 95 := by omega
              have c3 : 95 ≤ (s[k].toNat : Int) := by omega
              have c4 : ((s[k].toNat : Int) == 95) = true := by simpa using hc
              clear hc
              go_wp2_with fail
              go_round
              case rel => exact ⟨k + 1, a, d, by omega, by go_num, rfl, rfl, ⟨by omega, by omega, HO.out (.inr (.inr HC.out)), fun _ => h1a⟩⟩
              case measure => simp [intOf]; omega
            · have HR0 : Hid (R = false) := HF.out (fun h => hc (h.2.2.2.1 k hks))
              have c4 : ((s[k].toNat : Int) == 95) = false := by
                rw [beq_eq_false_iff_ne]
                exact fun h => hc (.inr (.inr h))
              rcases (show (s[k].toNat : Int) < 48 ∨ (57 < (s[k].toNat : Int) ∧ (s[k].toNat : Int) < 65) ∨ 90 < (s[k].toNat : Int) by unfold isO isL isD at hc; omega) with c1 | ⟨c1, c2⟩ | c1
              all_goals
                clear hc
                go_wp2_with fail
                all_goals
                  go_ret
                  exact ⟨ret_bool HR0.out.symm, rfl⟩
    · obtain rfl : k = s.size := by omega
      obtain rfl : a = pl := by have := hI.out.1; omega
      obtain rfl : d = pd := by have := hI.out.2.1; omega
      by_cases hd0 : d = 0
      · have HR1 : Hid (R = true) := HT.out ⟨HQ.out.1, HQ.out.2, hI.out.2.2.2 (by omega), fun j h => hI.out.2.2.1 j h h, fun h => by omega⟩
        subst hd0
        go_wp2_with fail
        go_ret
        exact ⟨ret_bool HR1.out.symm, rfl⟩
      · have hb : ((d : Int) == 0) = false := by rw [beq_eq_false_iff_ne]; omega
        by_cases hlt : a + d < s.size
        · have HR1 : Hid (R = true) := HT.out ⟨HQ.out.1, HQ.out.2, hI.out.2.2.2 (by omega), fun j h => hI.out.2.2.1 j h h, fun h => by omega⟩
          have hb2 : decide ((a : Int) + (d : Int) < (s.size : Int)) = true := by simp; omega
          clear hd0
          go_wp2_with fail
          go_ret
          exact ⟨ret_bool HR1.out.symm, rfl⟩
        · have HR1 : Hid (R = false) := HF.out (fun h => h.2.2.2.2 ⟨by omega, by omega⟩)
          have hb2 : decide ((a : Int) + (d : Int) < (s.size : Int)) = false := by simp; omega
          clear hd0
          go_wp2_with fail
          go_ret
          exact ⟨ret_bool HR1.out.symm, rfl⟩
end Go.Proofs.Ytifmfkofadhieaa

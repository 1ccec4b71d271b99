/-
  ViewScript: the law's given statement is proved. Conditions: none.
-/
import Derived.Test.YtocglcngfgpfnaaVScr
namespace Go.Proofs.Ytocglcngfgpfnaa
open Go.ChangeShapes Go.WideShapes Go.ChangeAt Go.RowKit

theorem open_script {H : Type} {enc : TypeId × Value → H} {W : World} {r : Reach} {b0 base : Nat} {sp : Nat → Bool} {hd : Bool} {v : Value} {d : DataW H} {p : List MemPlace}
    (hv : Value.okWide Try.prog W r b0 40 v) (h : DataW.Trod enc Try.prog W base sp hd 40 v d p) :
    ∃ A len cap ops, v = .slice A len cap ∧ len ≤ 9223372036854775807 ∧ ScriptAt W A len ops := by
  obtain ⟨A, len, cap, rfl⟩ := okWide_slice Try.underlying40 hv
  obtain ⟨fuel, hf⟩ := h
  obtain ⟨h1, h2, f, hi⟩ := open_flat (N := 6) (by omega) Try.underlying40 (by kernel_rfl) (by kernel_rfl) hf
  refine ⟨A, len, cap, fun i => ⟨f i 0, f i 1, f i 2, f i 3, f i 4, f i 5⟩, rfl, by unfold maxLen at h2; omega, fun k hk => ?_⟩
  obtain ⟨b, off, hA, hb, hc⟩ := hi k hk
  exact ⟨b, off, hA, hb, (hc 0 (by omega)).1, (hc 1 (by omega)).1, (hc 2 (by omega)).1, (hc 3 (by omega)).1, (hc 4 (by omega)).1, (hc 5 (by omega)).1⟩

namespace viewScript
theorem own : ownKnob Try.prog.godebug = none := by kernel_rfl
theorem laid : laidOutB Try.prog = true := by kernel_rfl

set_option maxRecDepth 100000 in
theorem lifted (os : Os) (started : os.Started) (H : Type) (enc : TypeId × Value → H) :
    ReturnsInHanded {} Try.checked os 4 .any (Rows.viewScriptSpec.pre6 enc Try.prog Try.f4 Rows.viewScriptRow.domain false) (Rows.viewScriptSpec.post enc Try.prog Try.f4 false true false false) := by
  refine returnsInHanded_of_change (C := Try.checked) own started (by kernel_rfl) Try.func4
    (ChangeSpec.witness6 (enc := enc) (C := Try.checked) false ⟨#[], #[.slice none 0 0, .int .i64 0], []⟩ 8 (by kernel_rfl) (by kernel_rfl) (by kernel_rfl) (by kernel_rfl)) ?_
  intro W base args ds gs before hval0 hW hcnd _
  have hval : ∀ (j : Nat) t v, Try.f4.params[j]? = some t → args[j]? = some v → Value.okWide Try.prog W .any base t v := hval0
  have hW' := hW
  obtain ⟨p, q, hA0, hV, rfl, hfz, hnd⟩ := hW
  have hA : DataW.TrodAll enc Try.prog W 0 (fun _ => true) true Try.f4.params.toList args.toList ds p := hA0
  skip
  rw [Try.params4] at hA hval
  obtain ⟨v0, vs0, d0, ds0, p0, q0, hargs, rfl, rfl, h0, r0⟩ := trodAll_cons hA
  obtain ⟨v1, vs1, d1, ds1, p1, q1, rfl, rfl, rfl, h1, r1⟩ := trodAll_cons r0
  obtain ⟨rfl, rfl, rfl⟩ := trodAll_nil r1
  obtain rfl : args = #[v0, v1] := by cases args; simp_all
  obtain ⟨A, len, cap, ops, rfl, hlen, hS⟩ := open_script (hval 0 40 v0 rfl rfl) h0
  obtain ⟨most, rfl, rfl, rfl, _⟩ := open_int Try.underlying3 (hval 1 3 v1 rfl rfl) h1
  have hcall : Calls Try.prog 4 #[.slice A len cap, .int .i64 most] W fun e w' => e = .returned (.bool true) ∧ Below W.heap.size W w' := by
    by_cases hm : 1 ≤ most ∧ most ≤ 16
    · exact script_walk A len cap ops most W hS hlen hm
    · exact script_bad A len cap most W (by omega)
  refine hcall.mono fun e W' ⟨he, hb⟩ => ?_
  subst he
  exact ⟨_, rfl, post_true laid rfl (by kernel_rfl) rfl Try.underlying4 hW' ⟨rfl, rfl, rfl⟩ hb⟩

theorem over : Rows.viewScriptRow.holds Try.pinned (OpenSpec.ofChange Rows.viewScriptSpec) :=
  OpenClaim.holds_of_wide 4 Try.f4 rfl rfl rfl rfl rfl rfl rfl ⟨rfl, rfl, rfl, rfl, rfl⟩ rfl rfl rfl rfl rfl (by kernel_rfl) Try.func4 (by kernel_rfl)
    (of_decide_eq_true (by kernel_rfl)) (by unfold Func.isWrapper; rw [if_neg (of_decide_eq_false (by kernel_rfl))]; exact ⟨rfl, rfl⟩)
    (fun os started H enc _ => lifted os started H enc)

theorem proved : Rows.ViewScriptSaid :=
  over
#print axioms proved
end viewScript
end Go.Proofs.Ytocglcngfgpfnaa

/-
  StoreAlone: the law's given statement is proved. Conditions: none.
-/
import Derived.Test.YtiiiiplfcaeegaaSOpen2
import Derived.Test.YtiiiiplfcaeegaaSAlone
namespace Go.Proofs.Ytiiiiplfcaeegaa
open Go.ChangeShapes Go.WideShapes Go.ChangeAt Go.RowKit

namespace storeAlone
theorem own : ownKnob Try.prog.godebug = none := by kernel_rfl
theorem laid : laidOutB Try.prog = true := by kernel_rfl

set_option maxRecDepth 100000 in
theorem lifted (os : Os) (started : os.Started) (H : Type) (enc : TypeId × Value → H) :
    ReturnsInHanded {} Try.checked os 6 .any (Rows.storeAloneSpec.pre6 enc Try.prog Try.f6 Rows.storeAloneRow.domain false) (Rows.storeAloneSpec.post enc Try.prog Try.f6 false true false false) := by
  refine returnsInHanded_of_change (C := Try.checked) own started (by kernel_rfl) Try.func6
    (ChangeSpec.witness6 (enc := enc) (C := Try.checked) false ⟨#[], #[.slice none 0 0, .agg #[.int .i64 0, .int .i64 0], .agg #[.int .i64 0, .int .i64 0]], []⟩ 8 (by kernel_rfl) (by kernel_rfl) (by kernel_rfl) (by kernel_rfl)) ?_
  intro W base args ds gs before hval0 hW hcnd _
  have hval : ∀ (j : Nat) t v, Try.f6.params[j]? = some t → args[j]? = some v → Value.okWide Try.prog W .any base t v := hval0
  have hW' := hW
  obtain ⟨p, q, hA0, hV, rfl, hfz, hnd⟩ := hW
  have hA : DataW.TrodAll enc Try.prog W 0 (fun _ => true) true Try.f6.params.toList args.toList ds p := hA0
  skip
  rw [Try.params6] at hA hval
  obtain ⟨v0, vs0, d0, ds0, p0, q0, hargs, rfl, rfl, h0, r0⟩ := trodAll_cons hA
  obtain ⟨v1, vs1, d1, ds1, p1, q1, rfl, rfl, rfl, h1, r1⟩ := trodAll_cons r0
  obtain ⟨v2, vs2, d2, ds2, p2, q2, rfl, rfl, rfl, h2, r2⟩ := trodAll_cons r1
  obtain ⟨rfl, rfl, rfl⟩ := trodAll_nil r2
  obtain rfl : args = #[v0, v1, v2] := by cases args; simp_all
  obtain ⟨A0, len0, cap0, rfl, hl0, hC0⟩ := open_deeds (hval 0 51 v0 rfl rfl) h0
  obtain ⟨cr, cc, rfl, _⟩ := open_cell (hval 1 41 v1 rfl rfl) h1
  obtain ⟨oR, oC, rfl, _⟩ := open_cell (hval 2 41 v2 rfl rfl) h2
  have hcall := salone_walk A0 len0 cap0 cr cc oR oC W hC0 hl0
  refine hcall.mono fun e W' ⟨he, hb⟩ => ?_
  subst he
  exact ⟨_, rfl, post_true laid rfl (by kernel_rfl) rfl Try.underlying4 hW' ⟨rfl, rfl, rfl⟩ hb⟩

theorem over : Rows.storeAloneRow.holds Try.pinned (OpenSpec.ofChange Rows.storeAloneSpec) :=
  OpenClaim.holds_of_wide 6 Try.f6 rfl rfl rfl rfl rfl rfl rfl ⟨rfl, rfl, rfl, rfl, rfl⟩ rfl rfl rfl rfl rfl (by kernel_rfl) Try.func6 (by kernel_rfl)
    (of_decide_eq_true (by kernel_rfl)) (by unfold Func.isWrapper; rw [if_neg (of_decide_eq_false (by kernel_rfl))]; exact ⟨rfl, rfl⟩)
    (fun os started H enc _ => lifted os started H enc)

theorem proved : Rows.StoreAloneSaid :=
  over
#print axioms proved
end storeAlone
end Go.Proofs.Ytiiiiplfcaeegaa

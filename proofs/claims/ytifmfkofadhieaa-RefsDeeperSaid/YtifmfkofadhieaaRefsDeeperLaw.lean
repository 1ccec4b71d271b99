/-
  RefsDeeper: the law's given statement is proved. Conditions: none.
-/
import Derived.Test.YtifmfkofadhieaaRL4
import Derived.Test.YtifmfkofadhieaaSized
import Derived.Test.YtifmfkofadhieaaSized
namespace Go.Proofs.Ytifmfkofadhieaa
open Go.ChangeShapes Go.WideShapes Go.ChangeAt Go.RowKit

namespace refsDeeper
theorem own : ownKnob Try.prog.godebug = none := by kernel_rfl
theorem laid : laidOutB Try.prog = true := by kernel_rfl

set_option maxRecDepth 100000 in
theorem lifted (os : Os) (started : os.Started) (H : Type) (enc : TypeId × Value → H) :
    ReturnsInHanded {} Try.checked os 9 .any (Rows.refsDeeperSpec.pre6 enc Try.prog Try.f9 Rows.refsDeeperRow.domain false) (Rows.refsDeeperSpec.post enc Try.prog Try.f9 false true false false) := by
  refine returnsInHanded_of_change_sized (C := Try.checked) own started (by kernel_rfl) Try.func9
    (ChangeSpec.witness6 (enc := enc) (C := Try.checked) false ⟨#[], #[.agg #[.slice none 0 0]], []⟩ 8 (by kernel_rfl) (by kernel_rfl) (by kernel_rfl) (by kernel_rfl)) ?_
  intro W base args ds gs before hval0 hW hcnd hsz0 _
  have hval : ∀ (j : Nat) t v, Try.f9.params[j]? = some t → args[j]? = some v → Value.okWide Try.prog W .any base t v := hval0
  have hW' := hW
  obtain ⟨p, q, hA0, hV, rfl, hfz, hnd⟩ := hW
  have hA : DataW.TrodAll enc Try.prog W 0 (fun _ => true) true Try.f9.params.toList args.toList ds p := hA0
  have hsz : (DataW.weightsEach Try.prog (Try.f9.params.toList ++ Rows.refsDeeperSpec.plain.varTypes Try.prog) (ds ++ gs)).all (· ≤ reachBytes) = true := hsz0
  rw [Try.params9] at hA hval hsz
  obtain ⟨v0, vs0, d0, ds0, p0, q0, hargs, rfl, rfl, h0, r0⟩ := trodAll_cons hA
  obtain ⟨rfl, rfl, rfl⟩ := trodAll_nil r0
  obtain rfl : args = #[v0] := by cases args; simp_all
  obtain ⟨A0, Ns0, cap0, rfl, hlc0, hcap0, hL0, hN0⟩ := open_formula (hval 0 24 v0 rfl rfl) h0
  have hbytes := formula_bytes (len := Ns0.length) h0 hsz (j := 0) rfl rfl
  have hreach : reachBytes < 2 ^ 47 := reachBytes_lt
  have hcall := refsDeeper_walk Ns0 A0 cap0 W hL0 hN0 (by omega)
  refine hcall.mono fun e W' ⟨he, hb⟩ => ?_
  subst he
  exact ⟨_, rfl, post_true laid rfl (by kernel_rfl) rfl Try.underlying4 hW' ⟨rfl, rfl, rfl⟩ hb⟩

theorem over : Rows.refsDeeperRow.holds Try.pinned (OpenSpec.ofChange Rows.refsDeeperSpec) :=
  OpenClaim.holds_of_wide 9 Try.f9 rfl rfl rfl rfl rfl rfl rfl ⟨rfl, rfl, rfl, rfl, rfl⟩ rfl rfl rfl rfl rfl (by kernel_rfl) Try.func9 (by kernel_rfl)
    (of_decide_eq_true (by kernel_rfl)) (by unfold Func.isWrapper; rw [if_neg (of_decide_eq_false (by kernel_rfl))]; exact ⟨rfl, rfl⟩)
    (fun os started H enc _ => lifted os started H enc)

theorem proved : Rows.RefsDeeperSaid :=
  over
#print axioms proved
end refsDeeper
end Go.Proofs.Ytifmfkofadhieaa

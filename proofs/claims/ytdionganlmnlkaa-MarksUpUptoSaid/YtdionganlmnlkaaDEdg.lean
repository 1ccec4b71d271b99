/-
  Deps: contract of Edges. Conditions: those of each theorem.
-/
import Derived.Test.YtdionganlmnlkaaDDir
namespace Go.Proofs.Ytdionganlmnlkaa
open Go.ChangeShapes Go.WideShapes Go.ChangeAt Go.RowKit Go.Deep
attribute [local go_sem] Cls

/-- What Edges, Back answer. -/
def EdgIs (w : World) (Es : List Ed) (e : Ending) (w' : World) : Prop := ∃ v, e = .returned v ∧ OW KD w' w.heap.size v Es ∧ Below w.heap.size w w'
theorem mkE_inj {c : Cl} {x y : Rf} (h : mkE c x = mkE c y) : x = y := by
  obtain ⟨m, t, l, b, r⟩ := x
  obtain ⟨m', t', l', b', r'⟩ := y
  simp [mkE] at h
  obtain ⟨rfl, rfl, rfl, rfl, rfl⟩ := h
  rfl
theorem mkE_of (e : Ed) : mkE (eCl e) (eRf e) = e := rfl
theorem sub_len {out Es : List Ed} (hn : out.Nodup) (h : ∀ e, e ∈ out → e ∈ Es) : out.length ≤ Es.length :=
  pick_le (fun x => some x) (fun p => p) out Es hn (fun p hp => ⟨p, h p hp, rfl⟩)
end Go.Proofs.Ytdionganlmnlkaa

/-
  No cell of these rows narrows 'for every input' (looked for: loops, veiled, ifaces, maps, wideKeys, modest, calm, conditions, laid).
  DERIVED. THE GIVEN ROWS OF THIS SEAT. 4 by the template 'for every input the law returns true; each argument reads behind the call as it read before'; 0 by the template 'total and deterministic' (their statements: YtdionganlmnlkaaTotals.lean).
  GIVEN WITH THE SEED: the statements are not yours to turn. If you find one false, say at which input.
  Laid BY PROGRAM, IN A SANDBOX (cutbox-rows.mjs): the forced cells as the released guide's own fill.sh prints them over the translation d75f2ddc233a7c4d… (all of the seat's roots in one cut). By AI agents, Wed Nov 11 2026. No macro, syntax, notation, axiom, sorry.
-/
import Derived.Test.YtdionganlmnlkaaChecked
import GoSem.Claim
import GoSem.ClaimJoined
import GoSem.ClaimMapViews
import Derived.JoinedTies
import Derived.KernelRfl
namespace Go.Proofs.Ytdionganlmnlkaa
/- THE CELL 'sum', in the pinned program and in every row, IS THE sha256 OF THE DUMP (.gsa) THAT YtdionganlmnlkaaProg.lean LOADS. Nothing in Lean hashes anything: it is a label: what it is worth is what the hold of that sum in a sandbox is worth. -/
noncomputable def Try.pinned : Pinned := { name := "ytdionganlmnlkaa", sum := "d75f2ddc233a7c4d8a7677bf795e471c78f858c2136c850d4f927ec6da6c5cf9", checked := Try.checked }
namespace Rows
def none {H : Type} : Left H := { results := [], args := [] }

/-- 'oriellaw19.MarksUp': WHATEVER THE INPUT: true; the input reads as it did. -/
def marksUpSpec : ChangeSpec := { name := "marksUp", fn := fun _ => fun
  | [d] => { results := [.lit (.bool true)], args := [d] }
  | _ => none }
def marksUpRow : OpenClaim := { program := "ytdionganlmnlkaa", sum := "d75f2ddc233a7c4d8a7677bf795e471c78f858c2136c850d4f927ec6da6c5cf9", func := "oriel/oriellaw19.MarksUp", spec := "marksUp", unfollowed := true, recurses := true, plainKeys := false, apart := false }
def MarksUpSaid : Prop := marksUpRow.holds Try.pinned (OpenSpec.ofChange marksUpSpec)

/-- ITS FALSE NEIGHBOUR: 'it returns false'. Refute it at one input. -/
def marksUpWrong : ChangeSpec := { name := "marksUp", fn := fun _ => fun
  | [d] => { results := [.lit (.bool false)], args := [d] }
  | _ => none }
def MarksUpWrongFalsely : Prop := marksUpRow.holds Try.pinned (OpenSpec.ofChange marksUpWrong)

/-- 'oriellaw19.MarksRoom': WHATEVER THE INPUT: true; the input reads as it did. -/
def marksRoomSpec : ChangeSpec := { name := "marksRoom", fn := fun _ => fun
  | [d] => { results := [.lit (.bool true)], args := [d] }
  | _ => none }
def marksRoomRow : OpenClaim := { program := "ytdionganlmnlkaa", sum := "d75f2ddc233a7c4d8a7677bf795e471c78f858c2136c850d4f927ec6da6c5cf9", func := "oriel/oriellaw19.MarksRoom", spec := "marksRoom", unfollowed := true, recurses := true, plainKeys := false, apart := false }
def MarksRoomSaid : Prop := marksRoomRow.holds Try.pinned (OpenSpec.ofChange marksRoomSpec)

/-- ITS FALSE NEIGHBOUR: 'it returns false'. Refute it at one input. -/
def marksRoomWrong : ChangeSpec := { name := "marksRoom", fn := fun _ => fun
  | [d] => { results := [.lit (.bool false)], args := [d] }
  | _ => none }
def MarksRoomWrongFalsely : Prop := marksRoomRow.holds Try.pinned (OpenSpec.ofChange marksRoomWrong)

/-- 'oriellaw19.MarksStop': WHATEVER THE INPUT: true; the input reads as it did. -/
def marksStopSpec : ChangeSpec := { name := "marksStop", fn := fun _ => fun
  | [d1, d2] => { results := [.lit (.bool true)], args := [d1, d2] }
  | _ => none }
def marksStopRow : OpenClaim := { program := "ytdionganlmnlkaa", sum := "d75f2ddc233a7c4d8a7677bf795e471c78f858c2136c850d4f927ec6da6c5cf9", func := "oriel/oriellaw19.MarksStop", spec := "marksStop", unfollowed := true, recurses := true, plainKeys := false, apart := false }
def MarksStopSaid : Prop := marksStopRow.holds Try.pinned (OpenSpec.ofChange marksStopSpec)

/-- ITS FALSE NEIGHBOUR: 'it returns false'. Refute it at one input. -/
def marksStopWrong : ChangeSpec := { name := "marksStop", fn := fun _ => fun
  | [d1, d2] => { results := [.lit (.bool false)], args := [d1, d2] }
  | _ => none }
def MarksStopWrongFalsely : Prop := marksStopRow.holds Try.pinned (OpenSpec.ofChange marksStopWrong)

/-- 'oriellaw19.MarksOrder': WHATEVER THE INPUT: true; the input reads as it did. -/
def marksOrderSpec : ChangeSpec := { name := "marksOrder", fn := fun _ => fun
  | [d1, d2] => { results := [.lit (.bool true)], args := [d1, d2] }
  | _ => none }
def marksOrderRow : OpenClaim := { program := "ytdionganlmnlkaa", sum := "d75f2ddc233a7c4d8a7677bf795e471c78f858c2136c850d4f927ec6da6c5cf9", func := "oriel/oriellaw19.MarksOrder", spec := "marksOrder", unfollowed := true, recurses := true, plainKeys := false, apart := false }
def MarksOrderSaid : Prop := marksOrderRow.holds Try.pinned (OpenSpec.ofChange marksOrderSpec)

/-- ITS FALSE NEIGHBOUR: 'it returns false'. Refute it at one input. -/
def marksOrderWrong : ChangeSpec := { name := "marksOrder", fn := fun _ => fun
  | [d1, d2] => { results := [.lit (.bool false)], args := [d1, d2] }
  | _ => none }
def MarksOrderWrongFalsely : Prop := marksOrderRow.holds Try.pinned (OpenSpec.ofChange marksOrderWrong)

/- THE SECOND FORM. 'bulk': how many values and letters a reading holds, each counted each time it is reached (what is shared counts as often as it is met; a slice's spare places count too). A statement '..UptoSaid' is the law's where the arguments, and the package variables that the reading takes, are together of bulk at most 1048576: NARROWER than '..Said'. Prove '..Said' where nothing that the law and all that it calls make is longer than what came in: it says more and counts as full. Else prove '..UptoSaid'. A law counts once. -/
mutual
def uptoBulk {H : Type} : DataW H → Nat
  | .lit (.string bytes) => bytes.length + 1
  | .lit _ => 1
  | .nil => 1
  | .ptr d => uptoBulk d + 1
  | .slice elems spare => uptoBulkAll elems + uptoBulkAll spare + 1
  | .agg parts => uptoBulkAll parts + 1
  | .iface _ d => uptoBulk d + 1
  | .map entries => uptoBulkEntries entries + 1
  | .held _ => 1
def uptoBulkAll {H : Type} : List (DataW H) → Nat
  | [] => 0
  | d :: r => uptoBulk d + uptoBulkAll r
def uptoBulkEntries {H : Type} : List (Lit × DataW H) → Nat
  | [] => 0
  | x :: r => uptoBulkEntry x + uptoBulkEntries r
def uptoBulkEntry {H : Type} : Lit × DataW H → Nat
  | (.string bytes, d) => bytes.length + uptoBulk d + 1
  | (_, d) => uptoBulk d + 1
 end
def uptoSmall : (H : Type) → List (DataW H) → Bool := fun _ ds => decide (uptoBulkAll ds ≤ 1048576)
def OpenSpec.upto (s : _root_.Go.ChangeSpec) : _root_.Go.OpenSpec := { _root_.Go.OpenSpec.ofChange s with cond := some uptoSmall }

/-- 'oriellaw19.MarksUp', WHERE WHAT IT READS IS OF BULK AT MOST 1048576: true; the input reads as it did. -/
def marksUpUptoRow : OpenClaim := { program := "ytdionganlmnlkaa", sum := "d75f2ddc233a7c4d8a7677bf795e471c78f858c2136c850d4f927ec6da6c5cf9", func := "oriel/oriellaw19.MarksUp", spec := "marksUp", unfollowed := true, recurses := true, plainKeys := false, apart := false, narrowed := true }
def MarksUpUptoSaid : Prop := marksUpUptoRow.holds Try.pinned (OpenSpec.upto marksUpSpec)

/-- 'oriellaw19.MarksRoom', WHERE WHAT IT READS IS OF BULK AT MOST 1048576: true; the input reads as it did. -/
def marksRoomUptoRow : OpenClaim := { program := "ytdionganlmnlkaa", sum := "d75f2ddc233a7c4d8a7677bf795e471c78f858c2136c850d4f927ec6da6c5cf9", func := "oriel/oriellaw19.MarksRoom", spec := "marksRoom", unfollowed := true, recurses := true, plainKeys := false, apart := false, narrowed := true }
def MarksRoomUptoSaid : Prop := marksRoomUptoRow.holds Try.pinned (OpenSpec.upto marksRoomSpec)

/-- 'oriellaw19.MarksStop', WHERE WHAT IT READS IS OF BULK AT MOST 1048576: true; the input reads as it did. -/
def marksStopUptoRow : OpenClaim := { program := "ytdionganlmnlkaa", sum := "d75f2ddc233a7c4d8a7677bf795e471c78f858c2136c850d4f927ec6da6c5cf9", func := "oriel/oriellaw19.MarksStop", spec := "marksStop", unfollowed := true, recurses := true, plainKeys := false, apart := false, narrowed := true }
def MarksStopUptoSaid : Prop := marksStopUptoRow.holds Try.pinned (OpenSpec.upto marksStopSpec)

/-- 'oriellaw19.MarksOrder', WHERE WHAT IT READS IS OF BULK AT MOST 1048576: true; the input reads as it did. -/
def marksOrderUptoRow : OpenClaim := { program := "ytdionganlmnlkaa", sum := "d75f2ddc233a7c4d8a7677bf795e471c78f858c2136c850d4f927ec6da6c5cf9", func := "oriel/oriellaw19.MarksOrder", spec := "marksOrder", unfollowed := true, recurses := true, plainKeys := false, apart := false, narrowed := true }
def MarksOrderUptoSaid : Prop := marksOrderUptoRow.holds Try.pinned (OpenSpec.upto marksOrderSpec)

end Rows
end Go.Proofs.Ytdionganlmnlkaa

/-
  No cell of these rows narrows 'for every input' (looked for: loops, veiled, ifaces, maps, wideKeys, modest, calm, conditions, laid).
  DERIVED. THE GIVEN ROWS OF THIS SEAT. 7 by the template 'for every input the law returns true; each argument reads behind the call as it read before'; 0 by the template 'total and deterministic' (their statements: YtifmfkofadhieaaTotals.lean).
  GIVEN WITH THE SEED: the statements are not yours to turn. If you find one false, say at which input.
  Laid BY PROGRAM, IN A SANDBOX (cutbox-rows.mjs): the forced cells as the released guide's own fill.sh prints them over the translation d4d1079f6a51e40a… (all of the seat's roots in one cut). By AI agents, Wed Nov 11 2026. No macro, syntax, notation, axiom, sorry.
-/
import Derived.Test.YtifmfkofadhieaaChecked
import GoSem.Claim
import GoSem.ClaimJoined
import GoSem.ClaimMapViews
import Derived.JoinedTies
import Derived.KernelRfl
namespace Go.Proofs.Ytifmfkofadhieaa
/- THE CELL 'sum', in the pinned program and in every row, IS THE sha256 OF THE DUMP (.gsa) THAT YtifmfkofadhieaaProg.lean LOADS. Nothing in Lean hashes anything: it is a label: what it is worth is what the hold of that sum in a sandbox is worth. -/
noncomputable def Try.pinned : Pinned := { name := "ytifmfkofadhieaa", sum := "d4d1079f6a51e40a0ff8d1ecb8c620e07a0a9cd13809fe313df1ef6fdc0aba50", checked := Try.checked }
namespace Rows
def none {H : Type} : Left H := { results := [], args := [] }

/-- 'oriellaw05.RefsCheck': WHATEVER THE INPUT: true; the input reads as it did. -/
def refsCheckSpec : ChangeSpec := { name := "refsCheck", fn := fun _ => fun
  | [d] => { results := [.lit (.bool true)], args := [d] }
  | _ => none }
def refsCheckRow : OpenClaim := { program := "ytifmfkofadhieaa", sum := "d4d1079f6a51e40a0ff8d1ecb8c620e07a0a9cd13809fe313df1ef6fdc0aba50", func := "oriel/oriellaw05.RefsCheck", spec := "refsCheck", plainKeys := false, apart := false }
def RefsCheckSaid : Prop := refsCheckRow.holds Try.pinned (OpenSpec.ofChange refsCheckSpec)

/-- ITS FALSE NEIGHBOUR: 'it returns false'. Refute it at one input. -/
def refsCheckWrong : ChangeSpec := { name := "refsCheck", fn := fun _ => fun
  | [d] => { results := [.lit (.bool false)], args := [d] }
  | _ => none }
def RefsCheckWrongFalsely : Prop := refsCheckRow.holds Try.pinned (OpenSpec.ofChange refsCheckWrong)

/-- 'oriellaw05.RefsDepth': WHATEVER THE INPUT: true; the input reads as it did. -/
def refsDepthSpec : ChangeSpec := { name := "refsDepth", fn := fun _ => fun
  | [d] => { results := [.lit (.bool true)], args := [d] }
  | _ => none }
def refsDepthRow : OpenClaim := { program := "ytifmfkofadhieaa", sum := "d4d1079f6a51e40a0ff8d1ecb8c620e07a0a9cd13809fe313df1ef6fdc0aba50", func := "oriel/oriellaw05.RefsDepth", spec := "refsDepth", plainKeys := false, apart := false }
def RefsDepthSaid : Prop := refsDepthRow.holds Try.pinned (OpenSpec.ofChange refsDepthSpec)

/-- ITS FALSE NEIGHBOUR: 'it returns false'. Refute it at one input. -/
def refsDepthWrong : ChangeSpec := { name := "refsDepth", fn := fun _ => fun
  | [d] => { results := [.lit (.bool false)], args := [d] }
  | _ => none }
def RefsDepthWrongFalsely : Prop := refsDepthRow.holds Try.pinned (OpenSpec.ofChange refsDepthWrong)

/-- 'oriellaw05.RefsTold': WHATEVER THE INPUT: true; the input reads as it did. -/
def refsToldSpec : ChangeSpec := { name := "refsTold", fn := fun _ => fun
  | [d] => { results := [.lit (.bool true)], args := [d] }
  | _ => none }
def refsToldRow : OpenClaim := { program := "ytifmfkofadhieaa", sum := "d4d1079f6a51e40a0ff8d1ecb8c620e07a0a9cd13809fe313df1ef6fdc0aba50", func := "oriel/oriellaw05.RefsTold", spec := "refsTold", plainKeys := false, apart := false }
def RefsToldSaid : Prop := refsToldRow.holds Try.pinned (OpenSpec.ofChange refsToldSpec)

/-- ITS FALSE NEIGHBOUR: 'it returns false'. Refute it at one input. -/
def refsToldWrong : ChangeSpec := { name := "refsTold", fn := fun _ => fun
  | [d] => { results := [.lit (.bool false)], args := [d] }
  | _ => none }
def RefsToldWrongFalsely : Prop := refsToldRow.holds Try.pinned (OpenSpec.ofChange refsToldWrong)

/-- 'oriellaw05.RefsJust': WHATEVER THE INPUT: true; the input reads as it did. -/
def refsJustSpec : ChangeSpec := { name := "refsJust", fn := fun _ => fun
  | [d] => { results := [.lit (.bool true)], args := [d] }
  | _ => none }
def refsJustRow : OpenClaim := { program := "ytifmfkofadhieaa", sum := "d4d1079f6a51e40a0ff8d1ecb8c620e07a0a9cd13809fe313df1ef6fdc0aba50", func := "oriel/oriellaw05.RefsJust", spec := "refsJust", plainKeys := false, apart := false }
def RefsJustSaid : Prop := refsJustRow.holds Try.pinned (OpenSpec.ofChange refsJustSpec)

/-- ITS FALSE NEIGHBOUR: 'it returns false'. Refute it at one input. -/
def refsJustWrong : ChangeSpec := { name := "refsJust", fn := fun _ => fun
  | [d] => { results := [.lit (.bool false)], args := [d] }
  | _ => none }
def RefsJustWrongFalsely : Prop := refsJustRow.holds Try.pinned (OpenSpec.ofChange refsJustWrong)

/-- 'oriellaw05.RefsSame': WHATEVER THE INPUT: true; the input reads as it did. -/
def refsSameSpec : ChangeSpec := { name := "refsSame", fn := fun _ => fun
  | [d1, d2] => { results := [.lit (.bool true)], args := [d1, d2] }
  | _ => none }
def refsSameRow : OpenClaim := { program := "ytifmfkofadhieaa", sum := "d4d1079f6a51e40a0ff8d1ecb8c620e07a0a9cd13809fe313df1ef6fdc0aba50", func := "oriel/oriellaw05.RefsSame", spec := "refsSame", plainKeys := false, apart := false }
def RefsSameSaid : Prop := refsSameRow.holds Try.pinned (OpenSpec.ofChange refsSameSpec)

/-- ITS FALSE NEIGHBOUR: 'it returns false'. Refute it at one input. -/
def refsSameWrong : ChangeSpec := { name := "refsSame", fn := fun _ => fun
  | [d1, d2] => { results := [.lit (.bool false)], args := [d1, d2] }
  | _ => none }
def RefsSameWrongFalsely : Prop := refsSameRow.holds Try.pinned (OpenSpec.ofChange refsSameWrong)

/-- 'oriellaw05.RefsOwns': WHATEVER THE INPUT: true; the input reads as it did. -/
def refsOwnsSpec : ChangeSpec := { name := "refsOwns", fn := fun _ => fun
  | [d] => { results := [.lit (.bool true)], args := [d] }
  | _ => none }
def refsOwnsRow : OpenClaim := { program := "ytifmfkofadhieaa", sum := "d4d1079f6a51e40a0ff8d1ecb8c620e07a0a9cd13809fe313df1ef6fdc0aba50", func := "oriel/oriellaw05.RefsOwns", spec := "refsOwns", plainKeys := false, apart := false }
def RefsOwnsSaid : Prop := refsOwnsRow.holds Try.pinned (OpenSpec.ofChange refsOwnsSpec)

/-- ITS FALSE NEIGHBOUR: 'it returns false'. Refute it at one input. -/
def refsOwnsWrong : ChangeSpec := { name := "refsOwns", fn := fun _ => fun
  | [d] => { results := [.lit (.bool false)], args := [d] }
  | _ => none }
def RefsOwnsWrongFalsely : Prop := refsOwnsRow.holds Try.pinned (OpenSpec.ofChange refsOwnsWrong)

/-- 'oriellaw05.RefsDeeper': WHATEVER THE INPUT: true; the input reads as it did. -/
def refsDeeperSpec : ChangeSpec := { name := "refsDeeper", fn := fun _ => fun
  | [d] => { results := [.lit (.bool true)], args := [d] }
  | _ => none }
def refsDeeperRow : OpenClaim := { program := "ytifmfkofadhieaa", sum := "d4d1079f6a51e40a0ff8d1ecb8c620e07a0a9cd13809fe313df1ef6fdc0aba50", func := "oriel/oriellaw05.RefsDeeper", spec := "refsDeeper", plainKeys := false, apart := false }
def RefsDeeperSaid : Prop := refsDeeperRow.holds Try.pinned (OpenSpec.ofChange refsDeeperSpec)

/-- ITS FALSE NEIGHBOUR: 'it returns false'. Refute it at one input. -/
def refsDeeperWrong : ChangeSpec := { name := "refsDeeper", fn := fun _ => fun
  | [d] => { results := [.lit (.bool false)], args := [d] }
  | _ => none }
def RefsDeeperWrongFalsely : Prop := refsDeeperRow.holds Try.pinned (OpenSpec.ofChange refsDeeperWrong)

/- THE SECOND FORM. 'bulk': how many values and letters a reading holds, each counted each time it is reached (what is shared counts as often as it is met; a slice's spare places count too). A statement '..UptoSaid' is the law's where the arguments, and the package variables that the reading takes, are together of bulk at most 1048576: NARROWER than '..Said'. Prove '..Said' where nothing that the law and all that it calls make is longer than what came in: it says more and counts as full. Else prove '..UptoSaid'. A law counts once. -/
mutual
def uptoBulk {H : Type} : DataW H → Nat
  | .lit (.string bytes) => bytes.length + 1
  | .lit _ => 1
  | .nil => 1
  | .ptr d => uptoBulk d + 1
  | .slice elems spare => uptoBulkAll elems + uptoBulkAll spare + 1
  | .agg parts => uptoBulkAll parts + 1
  | .iface _ d => uptoBulk d + 1
  | .map entries => uptoBulkEntries entries + 1
  | .held _ => 1
def uptoBulkAll {H : Type} : List (DataW H) → Nat
  | [] => 0
  | d :: r => uptoBulk d + uptoBulkAll r
def uptoBulkEntries {H : Type} : List (Lit × DataW H) → Nat
  | [] => 0
  | x :: r => uptoBulkEntry x + uptoBulkEntries r
def uptoBulkEntry {H : Type} : Lit × DataW H → Nat
  | (.string bytes, d) => bytes.length + uptoBulk d + 1
  | (_, d) => uptoBulk d + 1
 end
def uptoSmall : (H : Type) → List (DataW H) → Bool := fun _ ds => decide (uptoBulkAll ds ≤ 1048576)
def OpenSpec.upto (s : _root_.Go.ChangeSpec) : _root_.Go.OpenSpec := { _root_.Go.OpenSpec.ofChange s with cond := some uptoSmall }

/-- 'oriellaw05.RefsCheck', WHERE WHAT IT READS IS OF BULK AT MOST 1048576: true; the input reads as it did. -/
def refsCheckUptoRow : OpenClaim := { program := "ytifmfkofadhieaa", sum := "d4d1079f6a51e40a0ff8d1ecb8c620e07a0a9cd13809fe313df1ef6fdc0aba50", func := "oriel/oriellaw05.RefsCheck", spec := "refsCheck", plainKeys := false, apart := false, narrowed := true }
def RefsCheckUptoSaid : Prop := refsCheckUptoRow.holds Try.pinned (OpenSpec.upto refsCheckSpec)

/-- 'oriellaw05.RefsDepth', WHERE WHAT IT READS IS OF BULK AT MOST 1048576: true; the input reads as it did. -/
def refsDepthUptoRow : OpenClaim := { program := "ytifmfkofadhieaa", sum := "d4d1079f6a51e40a0ff8d1ecb8c620e07a0a9cd13809fe313df1ef6fdc0aba50", func := "oriel/oriellaw05.RefsDepth", spec := "refsDepth", plainKeys := false, apart := false, narrowed := true }
def RefsDepthUptoSaid : Prop := refsDepthUptoRow.holds Try.pinned (OpenSpec.upto refsDepthSpec)

/-- 'oriellaw05.RefsTold', WHERE WHAT IT READS IS OF BULK AT MOST 1048576: true; the input reads as it did. -/
def refsToldUptoRow : OpenClaim := { program := "ytifmfkofadhieaa", sum := "d4d1079f6a51e40a0ff8d1ecb8c620e07a0a9cd13809fe313df1ef6fdc0aba50", func := "oriel/oriellaw05.RefsTold", spec := "refsTold", plainKeys := false, apart := false, narrowed := true }
def RefsToldUptoSaid : Prop := refsToldUptoRow.holds Try.pinned (OpenSpec.upto refsToldSpec)

/-- 'oriellaw05.RefsJust', WHERE WHAT IT READS IS OF BULK AT MOST 1048576: true; the input reads as it did. -/
def refsJustUptoRow : OpenClaim := { program := "ytifmfkofadhieaa", sum := "d4d1079f6a51e40a0ff8d1ecb8c620e07a0a9cd13809fe313df1ef6fdc0aba50", func := "oriel/oriellaw05.RefsJust", spec := "refsJust", plainKeys := false, apart := false, narrowed := true }
def RefsJustUptoSaid : Prop := refsJustUptoRow.holds Try.pinned (OpenSpec.upto refsJustSpec)

/-- 'oriellaw05.RefsSame', WHERE WHAT IT READS IS OF BULK AT MOST 1048576: true; the input reads as it did. -/
def refsSameUptoRow : OpenClaim := { program := "ytifmfkofadhieaa", sum := "d4d1079f6a51e40a0ff8d1ecb8c620e07a0a9cd13809fe313df1ef6fdc0aba50", func := "oriel/oriellaw05.RefsSame", spec := "refsSame", plainKeys := false, apart := false, narrowed := true }
def RefsSameUptoSaid : Prop := refsSameUptoRow.holds Try.pinned (OpenSpec.upto refsSameSpec)

/-- 'oriellaw05.RefsOwns', WHERE WHAT IT READS IS OF BULK AT MOST 1048576: true; the input reads as it did. -/
def refsOwnsUptoRow : OpenClaim := { program := "ytifmfkofadhieaa", sum := "d4d1079f6a51e40a0ff8d1ecb8c620e07a0a9cd13809fe313df1ef6fdc0aba50", func := "oriel/oriellaw05.RefsOwns", spec := "refsOwns", plainKeys := false, apart := false, narrowed := true }
def RefsOwnsUptoSaid : Prop := refsOwnsUptoRow.holds Try.pinned (OpenSpec.upto refsOwnsSpec)

/-- 'oriellaw05.RefsDeeper', WHERE WHAT IT READS IS OF BULK AT MOST 1048576: true; the input reads as it did. -/
def refsDeeperUptoRow : OpenClaim := { program := "ytifmfkofadhieaa", sum := "d4d1079f6a51e40a0ff8d1ecb8c620e07a0a9cd13809fe313df1ef6fdc0aba50", func := "oriel/oriellaw05.RefsDeeper", spec := "refsDeeper", plainKeys := false, apart := false, narrowed := true }
def RefsDeeperUptoSaid : Prop := refsDeeperUptoRow.holds Try.pinned (OpenSpec.upto refsDeeperSpec)

end Rows
end Go.Proofs.Ytifmfkofadhieaa

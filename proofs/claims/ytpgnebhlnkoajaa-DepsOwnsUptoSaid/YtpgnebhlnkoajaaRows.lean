/-
  No cell of these rows narrows 'for every input' (looked for: loops, veiled, ifaces, maps, wideKeys, modest, calm, conditions, laid).
  DERIVED. THE GIVEN ROWS OF THIS SEAT. 6 by the template 'for every input the law returns true; each argument reads behind the call as it read before'; 0 by the template 'total and deterministic' (their statements: YtpgnebhlnkoajaaTotals.lean).
  GIVEN WITH THE SEED: the statements are not yours to turn. If you find one false, say at which input.
  Laid BY PROGRAM, IN A SANDBOX (cutbox-rows.mjs): the forced cells as the released guide's own fill.sh prints them over the translation 2d7a6e666dcd618a… (all of the seat's roots in one cut). By AI agents, Wed Nov 11 2026. No macro, syntax, notation, axiom, sorry.
-/
import Derived.Test.YtpgnebhlnkoajaaChecked
import GoSem.Claim
import GoSem.ClaimJoined
import GoSem.ClaimMapViews
import Derived.JoinedTies
import Derived.KernelRfl
namespace Go.Proofs.Ytpgnebhlnkoajaa
/- THE CELL 'sum', in the pinned program and in every row, IS THE sha256 OF THE DUMP (.gsa) THAT YtpgnebhlnkoajaaProg.lean LOADS. Nothing in Lean hashes anything: it is a label: what it is worth is what the hold of that sum in a sandbox is worth. -/
noncomputable def Try.pinned : Pinned := { name := "ytpgnebhlnkoajaa", sum := "2d7a6e666dcd618a03d8e09195ef2cce166d9c0e46981ee813024b72cdb1a233", checked := Try.checked }
namespace Rows
def none {H : Type} : Left H := { results := [], args := [] }

/-- 'oriellaw17.DepsPlays': WHATEVER THE INPUT: true; the input reads as it did. -/
def depsPlaysSpec : ChangeSpec := { name := "depsPlays", fn := fun _ => fun
  | [d1, d2] => { results := [.lit (.bool true)], args := [d1, d2] }
  | _ => none }
def depsPlaysRow : OpenClaim := { program := "ytpgnebhlnkoajaa", sum := "2d7a6e666dcd618a03d8e09195ef2cce166d9c0e46981ee813024b72cdb1a233", func := "oriel/oriellaw17.DepsPlays", spec := "depsPlays", unfollowed := true, recurses := true, plainKeys := false, apart := false }
def DepsPlaysSaid : Prop := depsPlaysRow.holds Try.pinned (OpenSpec.ofChange depsPlaysSpec)

/-- ITS FALSE NEIGHBOUR: 'it returns false'. Refute it at one input. -/
def depsPlaysWrong : ChangeSpec := { name := "depsPlays", fn := fun _ => fun
  | [d1, d2] => { results := [.lit (.bool false)], args := [d1, d2] }
  | _ => none }
def DepsPlaysWrongFalsely : Prop := depsPlaysRow.holds Try.pinned (OpenSpec.ofChange depsPlaysWrong)

/-- 'oriellaw17.DepsTurned': WHATEVER THE INPUT: true; the input reads as it did. -/
def depsTurnedSpec : ChangeSpec := { name := "depsTurned", fn := fun _ => fun
  | [d1, d2] => { results := [.lit (.bool true)], args := [d1, d2] }
  | _ => none }
def depsTurnedRow : OpenClaim := { program := "ytpgnebhlnkoajaa", sum := "2d7a6e666dcd618a03d8e09195ef2cce166d9c0e46981ee813024b72cdb1a233", func := "oriel/oriellaw17.DepsTurned", spec := "depsTurned", unfollowed := true, recurses := true, plainKeys := false, apart := false }
def DepsTurnedSaid : Prop := depsTurnedRow.holds Try.pinned (OpenSpec.ofChange depsTurnedSpec)

/-- ITS FALSE NEIGHBOUR: 'it returns false'. Refute it at one input. -/
def depsTurnedWrong : ChangeSpec := { name := "depsTurned", fn := fun _ => fun
  | [d1, d2] => { results := [.lit (.bool false)], args := [d1, d2] }
  | _ => none }
def DepsTurnedWrongFalsely : Prop := depsTurnedRow.holds Try.pinned (OpenSpec.ofChange depsTurnedWrong)

/-- 'oriellaw17.DepsLast': WHATEVER THE INPUT: true; the input reads as it did. -/
def depsLastSpec : ChangeSpec := { name := "depsLast", fn := fun _ => fun
  | [d] => { results := [.lit (.bool true)], args := [d] }
  | _ => none }
def depsLastRow : OpenClaim := { program := "ytpgnebhlnkoajaa", sum := "2d7a6e666dcd618a03d8e09195ef2cce166d9c0e46981ee813024b72cdb1a233", func := "oriel/oriellaw17.DepsLast", spec := "depsLast", unfollowed := true, recurses := true, plainKeys := false, apart := false }
def DepsLastSaid : Prop := depsLastRow.holds Try.pinned (OpenSpec.ofChange depsLastSpec)

/-- ITS FALSE NEIGHBOUR: 'it returns false'. Refute it at one input. -/
def depsLastWrong : ChangeSpec := { name := "depsLast", fn := fun _ => fun
  | [d] => { results := [.lit (.bool false)], args := [d] }
  | _ => none }
def DepsLastWrongFalsely : Prop := depsLastRow.holds Try.pinned (OpenSpec.ofChange depsLastWrong)

/-- 'oriellaw17.DepsBoth': WHATEVER THE INPUT: true; the input reads as it did. -/
def depsBothSpec : ChangeSpec := { name := "depsBoth", fn := fun _ => fun
  | [d] => { results := [.lit (.bool true)], args := [d] }
  | _ => none }
def depsBothRow : OpenClaim := { program := "ytpgnebhlnkoajaa", sum := "2d7a6e666dcd618a03d8e09195ef2cce166d9c0e46981ee813024b72cdb1a233", func := "oriel/oriellaw17.DepsBoth", spec := "depsBoth", unfollowed := true, recurses := true, plainKeys := false, apart := false }
def DepsBothSaid : Prop := depsBothRow.holds Try.pinned (OpenSpec.ofChange depsBothSpec)

/-- ITS FALSE NEIGHBOUR: 'it returns false'. Refute it at one input. -/
def depsBothWrong : ChangeSpec := { name := "depsBoth", fn := fun _ => fun
  | [d] => { results := [.lit (.bool false)], args := [d] }
  | _ => none }
def DepsBothWrongFalsely : Prop := depsBothRow.holds Try.pinned (OpenSpec.ofChange depsBothWrong)

/-- 'oriellaw17.DepsOwns': WHATEVER THE INPUT: true; the input reads as it did. -/
def depsOwnsSpec : ChangeSpec := { name := "depsOwns", fn := fun _ => fun
  | [d1, d2] => { results := [.lit (.bool true)], args := [d1, d2] }
  | _ => none }
def depsOwnsRow : OpenClaim := { program := "ytpgnebhlnkoajaa", sum := "2d7a6e666dcd618a03d8e09195ef2cce166d9c0e46981ee813024b72cdb1a233", func := "oriel/oriellaw17.DepsOwns", spec := "depsOwns", unfollowed := true, recurses := true, plainKeys := false, apart := false }
def DepsOwnsSaid : Prop := depsOwnsRow.holds Try.pinned (OpenSpec.ofChange depsOwnsSpec)

/-- ITS FALSE NEIGHBOUR: 'it returns false'. Refute it at one input. -/
def depsOwnsWrong : ChangeSpec := { name := "depsOwns", fn := fun _ => fun
  | [d1, d2] => { results := [.lit (.bool false)], args := [d1, d2] }
  | _ => none }
def DepsOwnsWrongFalsely : Prop := depsOwnsRow.holds Try.pinned (OpenSpec.ofChange depsOwnsWrong)

/-- 'oriellaw17.DepsOrder': WHATEVER THE INPUT: true; the input reads as it did. -/
def depsOrderSpec : ChangeSpec := { name := "depsOrder", fn := fun _ => fun
  | [d1, d2] => { results := [.lit (.bool true)], args := [d1, d2] }
  | _ => none }
def depsOrderRow : OpenClaim := { program := "ytpgnebhlnkoajaa", sum := "2d7a6e666dcd618a03d8e09195ef2cce166d9c0e46981ee813024b72cdb1a233", func := "oriel/oriellaw17.DepsOrder", spec := "depsOrder", unfollowed := true, recurses := true, plainKeys := false, apart := false }
def DepsOrderSaid : Prop := depsOrderRow.holds Try.pinned (OpenSpec.ofChange depsOrderSpec)

/-- ITS FALSE NEIGHBOUR: 'it returns false'. Refute it at one input. -/
def depsOrderWrong : ChangeSpec := { name := "depsOrder", fn := fun _ => fun
  | [d1, d2] => { results := [.lit (.bool false)], args := [d1, d2] }
  | _ => none }
def DepsOrderWrongFalsely : Prop := depsOrderRow.holds Try.pinned (OpenSpec.ofChange depsOrderWrong)

/- THE SECOND FORM. 'bulk': how many values and letters a reading holds, each counted each time it is reached (what is shared counts as often as it is met; a slice's spare places count too). A statement '..UptoSaid' is the law's where the arguments, and the package variables that the reading takes, are together of bulk at most 1048576: NARROWER than '..Said'. Prove '..Said' where nothing that the law and all that it calls make is longer than what came in: it says more and counts as full. Else prove '..UptoSaid'. A law counts once. -/
mutual
def uptoBulk {H : Type} : DataW H → Nat
  | .lit (.string bytes) => bytes.length + 1
  | .lit _ => 1
  | .nil => 1
  | .ptr d => uptoBulk d + 1
  | .slice elems spare => uptoBulkAll elems + uptoBulkAll spare + 1
  | .agg parts => uptoBulkAll parts + 1
  | .iface _ d => uptoBulk d + 1
  | .map entries => uptoBulkEntries entries + 1
  | .held _ => 1
def uptoBulkAll {H : Type} : List (DataW H) → Nat
  | [] => 0
  | d :: r => uptoBulk d + uptoBulkAll r
def uptoBulkEntries {H : Type} : List (Lit × DataW H) → Nat
  | [] => 0
  | x :: r => uptoBulkEntry x + uptoBulkEntries r
def uptoBulkEntry {H : Type} : Lit × DataW H → Nat
  | (.string bytes, d) => bytes.length + uptoBulk d + 1
  | (_, d) => uptoBulk d + 1
 end
def uptoSmall : (H : Type) → List (DataW H) → Bool := fun _ ds => decide (uptoBulkAll ds ≤ 1048576)
def OpenSpec.upto (s : _root_.Go.ChangeSpec) : _root_.Go.OpenSpec := { _root_.Go.OpenSpec.ofChange s with cond := some uptoSmall }

/-- 'oriellaw17.DepsPlays', WHERE WHAT IT READS IS OF BULK AT MOST 1048576: true; the input reads as it did. -/
def depsPlaysUptoRow : OpenClaim := { program := "ytpgnebhlnkoajaa", sum := "2d7a6e666dcd618a03d8e09195ef2cce166d9c0e46981ee813024b72cdb1a233", func := "oriel/oriellaw17.DepsPlays", spec := "depsPlays", unfollowed := true, recurses := true, plainKeys := false, apart := false, narrowed := true }
def DepsPlaysUptoSaid : Prop := depsPlaysUptoRow.holds Try.pinned (OpenSpec.upto depsPlaysSpec)

/-- 'oriellaw17.DepsTurned', WHERE WHAT IT READS IS OF BULK AT MOST 1048576: true; the input reads as it did. -/
def depsTurnedUptoRow : OpenClaim := { program := "ytpgnebhlnkoajaa", sum := "2d7a6e666dcd618a03d8e09195ef2cce166d9c0e46981ee813024b72cdb1a233", func := "oriel/oriellaw17.DepsTurned", spec := "depsTurned", unfollowed := true, recurses := true, plainKeys := false, apart := false, narrowed := true }
def DepsTurnedUptoSaid : Prop := depsTurnedUptoRow.holds Try.pinned (OpenSpec.upto depsTurnedSpec)

/-- 'oriellaw17.DepsLast', WHERE WHAT IT READS IS OF BULK AT MOST 1048576: true; the input reads as it did. -/
def depsLastUptoRow : OpenClaim := { program := "ytpgnebhlnkoajaa", sum := "2d7a6e666dcd618a03d8e09195ef2cce166d9c0e46981ee813024b72cdb1a233", func := "oriel/oriellaw17.DepsLast", spec := "depsLast", unfollowed := true, recurses := true, plainKeys := false, apart := false, narrowed := true }
def DepsLastUptoSaid : Prop := depsLastUptoRow.holds Try.pinned (OpenSpec.upto depsLastSpec)

/-- 'oriellaw17.DepsBoth', WHERE WHAT IT READS IS OF BULK AT MOST 1048576: true; the input reads as it did. -/
def depsBothUptoRow : OpenClaim := { program := "ytpgnebhlnkoajaa", sum := "2d7a6e666dcd618a03d8e09195ef2cce166d9c0e46981ee813024b72cdb1a233", func := "oriel/oriellaw17.DepsBoth", spec := "depsBoth", unfollowed := true, recurses := true, plainKeys := false, apart := false, narrowed := true }
def DepsBothUptoSaid : Prop := depsBothUptoRow.holds Try.pinned (OpenSpec.upto depsBothSpec)

/-- 'oriellaw17.DepsOwns', WHERE WHAT IT READS IS OF BULK AT MOST 1048576: true; the input reads as it did. -/
def depsOwnsUptoRow : OpenClaim := { program := "ytpgnebhlnkoajaa", sum := "2d7a6e666dcd618a03d8e09195ef2cce166d9c0e46981ee813024b72cdb1a233", func := "oriel/oriellaw17.DepsOwns", spec := "depsOwns", unfollowed := true, recurses := true, plainKeys := false, apart := false, narrowed := true }
def DepsOwnsUptoSaid : Prop := depsOwnsUptoRow.holds Try.pinned (OpenSpec.upto depsOwnsSpec)

/-- 'oriellaw17.DepsOrder', WHERE WHAT IT READS IS OF BULK AT MOST 1048576: true; the input reads as it did. -/
def depsOrderUptoRow : OpenClaim := { program := "ytpgnebhlnkoajaa", sum := "2d7a6e666dcd618a03d8e09195ef2cce166d9c0e46981ee813024b72cdb1a233", func := "oriel/oriellaw17.DepsOrder", spec := "depsOrder", unfollowed := true, recurses := true, plainKeys := false, apart := false, narrowed := true }
def DepsOrderUptoSaid : Prop := depsOrderUptoRow.holds Try.pinned (OpenSpec.upto depsOrderSpec)

end Rows
end Go.Proofs.Ytpgnebhlnkoajaa

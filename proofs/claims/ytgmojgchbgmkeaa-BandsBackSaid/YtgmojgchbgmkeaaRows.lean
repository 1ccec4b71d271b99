/-
  No cell of these rows narrows 'for every input' (looked for: loops, veiled, ifaces, maps, wideKeys, modest, calm, conditions, laid).
  DERIVED. THE GIVEN ROWS OF THIS SEAT. 3 by the template 'for every input the law returns true; each argument reads behind the call as it read before'; 0 by the template 'total and deterministic' (their statements: YtgmojgchbgmkeaaTotals.lean).
  GIVEN WITH THE SEED: the statements are not yours to turn. If you find one false, say at which input.
  Laid BY PROGRAM, IN A SANDBOX (cutbox-rows.mjs): the forced cells as the released guide's own fill.sh prints them over the translation 735f0d870d425b67… (all of the seat's roots in one cut). By AI agents, Wed Nov 11 2026. No macro, syntax, notation, axiom, sorry.
-/
import Derived.Test.YtgmojgchbgmkeaaChecked
import GoSem.Claim
import GoSem.ClaimJoined
import GoSem.ClaimMapViews
import Derived.JoinedTies
import Derived.KernelRfl
namespace Go.Proofs.Ytgmojgchbgmkeaa
/- THE CELL 'sum', in the pinned program and in every row, IS THE sha256 OF THE DUMP (.gsa) THAT YtgmojgchbgmkeaaProg.lean LOADS. Nothing in Lean hashes anything: it is a label: what it is worth is what the hold of that sum in a sandbox is worth. -/
noncomputable def Try.pinned : Pinned := { name := "ytgmojgchbgmkeaa", sum := "735f0d870d425b676e48b82d5faf5167d141e187ad5f22191f9aaa4dcf2d82d5", checked := Try.checked }
namespace Rows
def none {H : Type} : Left H := { results := [], args := [] }

/-- 'oriellaw16.BandsScript': WHATEVER THE INPUT: true; the input reads as it did. -/
def bandsScriptSpec : ChangeSpec := { name := "bandsScript", fn := fun _ => fun
  | [d] => { results := [.lit (.bool true)], args := [d] }
  | _ => none }
def bandsScriptRow : OpenClaim := { program := "ytgmojgchbgmkeaa", sum := "735f0d870d425b676e48b82d5faf5167d141e187ad5f22191f9aaa4dcf2d82d5", func := "oriel/oriellaw16.BandsScript", spec := "bandsScript", unfollowed := true, recurses := true, plainKeys := false, apart := false }
def BandsScriptSaid : Prop := bandsScriptRow.holds Try.pinned (OpenSpec.ofChange bandsScriptSpec)

/-- ITS FALSE NEIGHBOUR: 'it returns false'. Refute it at one input. -/
def bandsScriptWrong : ChangeSpec := { name := "bandsScript", fn := fun _ => fun
  | [d] => { results := [.lit (.bool false)], args := [d] }
  | _ => none }
def BandsScriptWrongFalsely : Prop := bandsScriptRow.holds Try.pinned (OpenSpec.ofChange bandsScriptWrong)

/-- 'oriellaw16.BandsBack': WHATEVER THE INPUT: true; the input reads as it did. -/
def bandsBackSpec : ChangeSpec := { name := "bandsBack", fn := fun _ => fun
  | [d1, d2] => { results := [.lit (.bool true)], args := [d1, d2] }
  | _ => none }
def bandsBackRow : OpenClaim := { program := "ytgmojgchbgmkeaa", sum := "735f0d870d425b676e48b82d5faf5167d141e187ad5f22191f9aaa4dcf2d82d5", func := "oriel/oriellaw16.BandsBack", spec := "bandsBack", unfollowed := true, recurses := true, plainKeys := false, apart := false }
def BandsBackSaid : Prop := bandsBackRow.holds Try.pinned (OpenSpec.ofChange bandsBackSpec)

/-- ITS FALSE NEIGHBOUR: 'it returns false'. Refute it at one input. -/
def bandsBackWrong : ChangeSpec := { name := "bandsBack", fn := fun _ => fun
  | [d1, d2] => { results := [.lit (.bool false)], args := [d1, d2] }
  | _ => none }
def BandsBackWrongFalsely : Prop := bandsBackRow.holds Try.pinned (OpenSpec.ofChange bandsBackWrong)

/-- 'oriellaw16.BandsTurned': WHATEVER THE INPUT: true; the input reads as it did. -/
def bandsTurnedSpec : ChangeSpec := { name := "bandsTurned", fn := fun _ => fun
  | [d1, d2] => { results := [.lit (.bool true)], args := [d1, d2] }
  | _ => none }
def bandsTurnedRow : OpenClaim := { program := "ytgmojgchbgmkeaa", sum := "735f0d870d425b676e48b82d5faf5167d141e187ad5f22191f9aaa4dcf2d82d5", func := "oriel/oriellaw16.BandsTurned", spec := "bandsTurned", unfollowed := true, recurses := true, plainKeys := false, apart := false }
def BandsTurnedSaid : Prop := bandsTurnedRow.holds Try.pinned (OpenSpec.ofChange bandsTurnedSpec)

/-- ITS FALSE NEIGHBOUR: 'it returns false'. Refute it at one input. -/
def bandsTurnedWrong : ChangeSpec := { name := "bandsTurned", fn := fun _ => fun
  | [d1, d2] => { results := [.lit (.bool false)], args := [d1, d2] }
  | _ => none }
def BandsTurnedWrongFalsely : Prop := bandsTurnedRow.holds Try.pinned (OpenSpec.ofChange bandsTurnedWrong)

/- THE SECOND FORM. 'bulk': how many values and letters a reading holds, each counted each time it is reached (what is shared counts as often as it is met; a slice's spare places count too). A statement '..UptoSaid' is the law's where the arguments, and the package variables that the reading takes, are together of bulk at most 1048576: NARROWER than '..Said'. Prove '..Said' where nothing that the law and all that it calls make is longer than what came in: it says more and counts as full. Else prove '..UptoSaid'. A law counts once. -/
mutual
def uptoBulk {H : Type} : DataW H → Nat
  | .lit (.string bytes) => bytes.length + 1
  | .lit _ => 1
  | .nil => 1
  | .ptr d => uptoBulk d + 1
  | .slice elems spare => uptoBulkAll elems + uptoBulkAll spare + 1
  | .agg parts => uptoBulkAll parts + 1
  | .iface _ d => uptoBulk d + 1
  | .map entries => uptoBulkEntries entries + 1
  | .held _ => 1
def uptoBulkAll {H : Type} : List (DataW H) → Nat
  | [] => 0
  | d :: r => uptoBulk d + uptoBulkAll r
def uptoBulkEntries {H : Type} : List (Lit × DataW H) → Nat
  | [] => 0
  | x :: r => uptoBulkEntry x + uptoBulkEntries r
def uptoBulkEntry {H : Type} : Lit × DataW H → Nat
  | (.string bytes, d) => bytes.length + uptoBulk d + 1
  | (_, d) => uptoBulk d + 1
 end
def uptoSmall : (H : Type) → List (DataW H) → Bool := fun _ ds => decide (uptoBulkAll ds ≤ 1048576)
def OpenSpec.upto (s : _root_.Go.ChangeSpec) : _root_.Go.OpenSpec := { _root_.Go.OpenSpec.ofChange s with cond := some uptoSmall }

/-- 'oriellaw16.BandsScript', WHERE WHAT IT READS IS OF BULK AT MOST 1048576: true; the input reads as it did. -/
def bandsScriptUptoRow : OpenClaim := { program := "ytgmojgchbgmkeaa", sum := "735f0d870d425b676e48b82d5faf5167d141e187ad5f22191f9aaa4dcf2d82d5", func := "oriel/oriellaw16.BandsScript", spec := "bandsScript", unfollowed := true, recurses := true, plainKeys := false, apart := false, narrowed := true }
def BandsScriptUptoSaid : Prop := bandsScriptUptoRow.holds Try.pinned (OpenSpec.upto bandsScriptSpec)

/-- 'oriellaw16.BandsBack', WHERE WHAT IT READS IS OF BULK AT MOST 1048576: true; the input reads as it did. -/
def bandsBackUptoRow : OpenClaim := { program := "ytgmojgchbgmkeaa", sum := "735f0d870d425b676e48b82d5faf5167d141e187ad5f22191f9aaa4dcf2d82d5", func := "oriel/oriellaw16.BandsBack", spec := "bandsBack", unfollowed := true, recurses := true, plainKeys := false, apart := false, narrowed := true }
def BandsBackUptoSaid : Prop := bandsBackUptoRow.holds Try.pinned (OpenSpec.upto bandsBackSpec)

/-- 'oriellaw16.BandsTurned', WHERE WHAT IT READS IS OF BULK AT MOST 1048576: true; the input reads as it did. -/
def bandsTurnedUptoRow : OpenClaim := { program := "ytgmojgchbgmkeaa", sum := "735f0d870d425b676e48b82d5faf5167d141e187ad5f22191f9aaa4dcf2d82d5", func := "oriel/oriellaw16.BandsTurned", spec := "bandsTurned", unfollowed := true, recurses := true, plainKeys := false, apart := false, narrowed := true }
def BandsTurnedUptoSaid : Prop := bandsTurnedUptoRow.holds Try.pinned (OpenSpec.upto bandsTurnedSpec)

end Rows
end Go.Proofs.Ytgmojgchbgmkeaa

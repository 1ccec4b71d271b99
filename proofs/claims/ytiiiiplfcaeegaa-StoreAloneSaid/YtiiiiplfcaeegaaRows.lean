/-
  No cell of these rows narrows 'for every input' (looked for: loops, veiled, ifaces, maps, wideKeys, modest, calm, conditions, laid).
  DERIVED. THE GIVEN ROWS OF THIS SEAT. 5 by the template 'for every input the law returns true; each argument reads behind the call as it read before'; 0 by the template 'total and deterministic' (their statements: YtiiiiplfcaeegaaTotals.lean).
  GIVEN WITH THE SEED: the statements are not yours to turn. If you find one false, say at which input.
  Laid BY PROGRAM, IN A SANDBOX (cutbox-rows.mjs): the forced cells as the released guide's own fill.sh prints them over the translation 61f9a4799b79f45f… (all of the seat's roots in one cut). By AI agents, Wed Nov 11 2026. No macro, syntax, notation, axiom, sorry.
-/
import Derived.Test.YtiiiiplfcaeegaaChecked
import GoSem.Claim
import GoSem.ClaimJoined
import GoSem.ClaimMapViews
import Derived.JoinedTies
import Derived.KernelRfl
namespace Go.Proofs.Ytiiiiplfcaeegaa
/- THE CELL 'sum', in the pinned program and in every row, IS THE sha256 OF THE DUMP (.gsa) THAT YtiiiiplfcaeegaaProg.lean LOADS. Nothing in Lean hashes anything: it is a label: what it is worth is what the hold of that sum in a sandbox is worth. -/
noncomputable def Try.pinned : Pinned := { name := "ytiiiiplfcaeegaa", sum := "61f9a4799b79f45fb9ff791ba4b66865ba6e84315daf0a7b887b74453506a51d", checked := Try.checked }
namespace Rows
def none {H : Type} : Left H := { results := [], args := [] }

/-- 'oriellaw15.StoreWalk': WHATEVER THE INPUT: true; the input reads as it did. -/
def storeWalkSpec : ChangeSpec := { name := "storeWalk", fn := fun _ => fun
  | [d1, d2] => { results := [.lit (.bool true)], args := [d1, d2] }
  | _ => none }
def storeWalkRow : OpenClaim := { program := "ytiiiiplfcaeegaa", sum := "61f9a4799b79f45fb9ff791ba4b66865ba6e84315daf0a7b887b74453506a51d", func := "oriel/oriellaw15.StoreWalk", spec := "storeWalk", apart := false }
def StoreWalkSaid : Prop := storeWalkRow.holds Try.pinned (OpenSpec.ofChange storeWalkSpec)

/-- ITS FALSE NEIGHBOUR: 'it returns false'. Refute it at one input. -/
def storeWalkWrong : ChangeSpec := { name := "storeWalk", fn := fun _ => fun
  | [d1, d2] => { results := [.lit (.bool false)], args := [d1, d2] }
  | _ => none }
def StoreWalkWrongFalsely : Prop := storeWalkRow.holds Try.pinned (OpenSpec.ofChange storeWalkWrong)

/-- 'oriellaw15.StoreOrder': WHATEVER THE INPUT: true; the input reads as it did. -/
def storeOrderSpec : ChangeSpec := { name := "storeOrder", fn := fun _ => fun
  | [d1, d2] => { results := [.lit (.bool true)], args := [d1, d2] }
  | _ => none }
def storeOrderRow : OpenClaim := { program := "ytiiiiplfcaeegaa", sum := "61f9a4799b79f45fb9ff791ba4b66865ba6e84315daf0a7b887b74453506a51d", func := "oriel/oriellaw15.StoreOrder", spec := "storeOrder", apart := false }
def StoreOrderSaid : Prop := storeOrderRow.holds Try.pinned (OpenSpec.ofChange storeOrderSpec)

/-- ITS FALSE NEIGHBOUR: 'it returns false'. Refute it at one input. -/
def storeOrderWrong : ChangeSpec := { name := "storeOrder", fn := fun _ => fun
  | [d1, d2] => { results := [.lit (.bool false)], args := [d1, d2] }
  | _ => none }
def StoreOrderWrongFalsely : Prop := storeOrderRow.holds Try.pinned (OpenSpec.ofChange storeOrderWrong)

/-- 'oriellaw15.StorePlays': WHATEVER THE INPUT: true; the input reads as it did. -/
def storePlaysSpec : ChangeSpec := { name := "storePlays", fn := fun _ => fun
  | [d] => { results := [.lit (.bool true)], args := [d] }
  | _ => none }
def storePlaysRow : OpenClaim := { program := "ytiiiiplfcaeegaa", sum := "61f9a4799b79f45fb9ff791ba4b66865ba6e84315daf0a7b887b74453506a51d", func := "oriel/oriellaw15.StorePlays", spec := "storePlays", apart := false }
def StorePlaysSaid : Prop := storePlaysRow.holds Try.pinned (OpenSpec.ofChange storePlaysSpec)

/-- ITS FALSE NEIGHBOUR: 'it returns false'. Refute it at one input. -/
def storePlaysWrong : ChangeSpec := { name := "storePlays", fn := fun _ => fun
  | [d] => { results := [.lit (.bool false)], args := [d] }
  | _ => none }
def StorePlaysWrongFalsely : Prop := storePlaysRow.holds Try.pinned (OpenSpec.ofChange storePlaysWrong)

/-- 'oriellaw15.StoreAlone': WHATEVER THE INPUT: true; the input reads as it did. -/
def storeAloneSpec : ChangeSpec := { name := "storeAlone", fn := fun _ => fun
  | [d1, d2, d3] => { results := [.lit (.bool true)], args := [d1, d2, d3] }
  | _ => none }
def storeAloneRow : OpenClaim := { program := "ytiiiiplfcaeegaa", sum := "61f9a4799b79f45fb9ff791ba4b66865ba6e84315daf0a7b887b74453506a51d", func := "oriel/oriellaw15.StoreAlone", spec := "storeAlone", apart := false }
def StoreAloneSaid : Prop := storeAloneRow.holds Try.pinned (OpenSpec.ofChange storeAloneSpec)

/-- ITS FALSE NEIGHBOUR: 'it returns false'. Refute it at one input. -/
def storeAloneWrong : ChangeSpec := { name := "storeAlone", fn := fun _ => fun
  | [d1, d2, d3] => { results := [.lit (.bool false)], args := [d1, d2, d3] }
  | _ => none }
def StoreAloneWrongFalsely : Prop := storeAloneRow.holds Try.pinned (OpenSpec.ofChange storeAloneWrong)

/-- 'oriellaw15.StoreApart': WHATEVER THE INPUT: true; the input reads as it did. -/
def storeApartSpec : ChangeSpec := { name := "storeApart", fn := fun _ => fun
  | [d1, d2] => { results := [.lit (.bool true)], args := [d1, d2] }
  | _ => none }
def storeApartRow : OpenClaim := { program := "ytiiiiplfcaeegaa", sum := "61f9a4799b79f45fb9ff791ba4b66865ba6e84315daf0a7b887b74453506a51d", func := "oriel/oriellaw15.StoreApart", spec := "storeApart", apart := false }
def StoreApartSaid : Prop := storeApartRow.holds Try.pinned (OpenSpec.ofChange storeApartSpec)

/-- ITS FALSE NEIGHBOUR: 'it returns false'. Refute it at one input. -/
def storeApartWrong : ChangeSpec := { name := "storeApart", fn := fun _ => fun
  | [d1, d2] => { results := [.lit (.bool false)], args := [d1, d2] }
  | _ => none }
def StoreApartWrongFalsely : Prop := storeApartRow.holds Try.pinned (OpenSpec.ofChange storeApartWrong)

/- THE SECOND FORM. 'bulk': how many values and letters a reading holds, each counted each time it is reached (what is shared counts as often as it is met; a slice's spare places count too). A statement '..UptoSaid' is the law's where the arguments, and the package variables that the reading takes, are together of bulk at most 1048576: NARROWER than '..Said'. Prove '..Said' where nothing that the law and all that it calls make is longer than what came in: it says more and counts as full. Else prove '..UptoSaid'. A law counts once. -/
mutual
def uptoBulk {H : Type} : DataW H → Nat
  | .lit (.string bytes) => bytes.length + 1
  | .lit _ => 1
  | .nil => 1
  | .ptr d => uptoBulk d + 1
  | .slice elems spare => uptoBulkAll elems + uptoBulkAll spare + 1
  | .agg parts => uptoBulkAll parts + 1
  | .iface _ d => uptoBulk d + 1
  | .map entries => uptoBulkEntries entries + 1
  | .held _ => 1
def uptoBulkAll {H : Type} : List (DataW H) → Nat
  | [] => 0
  | d :: r => uptoBulk d + uptoBulkAll r
def uptoBulkEntries {H : Type} : List (Lit × DataW H) → Nat
  | [] => 0
  | x :: r => uptoBulkEntry x + uptoBulkEntries r
def uptoBulkEntry {H : Type} : Lit × DataW H → Nat
  | (.string bytes, d) => bytes.length + uptoBulk d + 1
  | (_, d) => uptoBulk d + 1
 end
def uptoSmall : (H : Type) → List (DataW H) → Bool := fun _ ds => decide (uptoBulkAll ds ≤ 1048576)
def OpenSpec.upto (s : _root_.Go.ChangeSpec) : _root_.Go.OpenSpec := { _root_.Go.OpenSpec.ofChange s with cond := some uptoSmall }

/-- 'oriellaw15.StoreWalk', WHERE WHAT IT READS IS OF BULK AT MOST 1048576: true; the input reads as it did. -/
def storeWalkUptoRow : OpenClaim := { program := "ytiiiiplfcaeegaa", sum := "61f9a4799b79f45fb9ff791ba4b66865ba6e84315daf0a7b887b74453506a51d", func := "oriel/oriellaw15.StoreWalk", spec := "storeWalk", apart := false, narrowed := true }
def StoreWalkUptoSaid : Prop := storeWalkUptoRow.holds Try.pinned (OpenSpec.upto storeWalkSpec)

/-- 'oriellaw15.StoreOrder', WHERE WHAT IT READS IS OF BULK AT MOST 1048576: true; the input reads as it did. -/
def storeOrderUptoRow : OpenClaim := { program := "ytiiiiplfcaeegaa", sum := "61f9a4799b79f45fb9ff791ba4b66865ba6e84315daf0a7b887b74453506a51d", func := "oriel/oriellaw15.StoreOrder", spec := "storeOrder", apart := false, narrowed := true }
def StoreOrderUptoSaid : Prop := storeOrderUptoRow.holds Try.pinned (OpenSpec.upto storeOrderSpec)

/-- 'oriellaw15.StorePlays', WHERE WHAT IT READS IS OF BULK AT MOST 1048576: true; the input reads as it did. -/
def storePlaysUptoRow : OpenClaim := { program := "ytiiiiplfcaeegaa", sum := "61f9a4799b79f45fb9ff791ba4b66865ba6e84315daf0a7b887b74453506a51d", func := "oriel/oriellaw15.StorePlays", spec := "storePlays", apart := false, narrowed := true }
def StorePlaysUptoSaid : Prop := storePlaysUptoRow.holds Try.pinned (OpenSpec.upto storePlaysSpec)

/-- 'oriellaw15.StoreAlone', WHERE WHAT IT READS IS OF BULK AT MOST 1048576: true; the input reads as it did. -/
def storeAloneUptoRow : OpenClaim := { program := "ytiiiiplfcaeegaa", sum := "61f9a4799b79f45fb9ff791ba4b66865ba6e84315daf0a7b887b74453506a51d", func := "oriel/oriellaw15.StoreAlone", spec := "storeAlone", apart := false, narrowed := true }
def StoreAloneUptoSaid : Prop := storeAloneUptoRow.holds Try.pinned (OpenSpec.upto storeAloneSpec)

/-- 'oriellaw15.StoreApart', WHERE WHAT IT READS IS OF BULK AT MOST 1048576: true; the input reads as it did. -/
def storeApartUptoRow : OpenClaim := { program := "ytiiiiplfcaeegaa", sum := "61f9a4799b79f45fb9ff791ba4b66865ba6e84315daf0a7b887b74453506a51d", func := "oriel/oriellaw15.StoreApart", spec := "storeApart", apart := false, narrowed := true }
def StoreApartUptoSaid : Prop := storeApartUptoRow.holds Try.pinned (OpenSpec.upto storeApartSpec)

end Rows
end Go.Proofs.Ytiiiiplfcaeegaa

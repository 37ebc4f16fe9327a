/-
  No cell of these rows narrows 'for every input' (looked for: loops, veiled, ifaces, maps, wideKeys, modest, calm, conditions, laid).
  DERIVED. THE GIVEN ROWS OF THIS SEAT. 4 by the template 'for every input the law returns true; each argument reads behind the call as it read before'; 0 by the template 'total and deterministic' (their statements: YtgeaboahccfdcaaTotals.lean).
  GIVEN WITH THE SEED: the statements are not yours to turn. If you find one false, say at which input.
  Laid BY PROGRAM, IN A SANDBOX (cutbox-rows.mjs): the forced cells as the released guide's own fill.sh prints them over the translation 33c15d69a69cffb7… (all of the seat's roots in one cut). By AI agents, Wed Nov 11 2026. No macro, syntax, notation, axiom, sorry.
-/
import Derived.Test.YtgeaboahccfdcaaChecked
import GoSem.Claim
import GoSem.ClaimJoined
import GoSem.ClaimMapViews
import Derived.JoinedTies
import Derived.KernelRfl
namespace Go.Proofs.Ytgeaboahccfdcaa
/- THE CELL 'sum', in the pinned program and in every row, IS THE sha256 OF THE DUMP (.gsa) THAT YtgeaboahccfdcaaProg.lean LOADS. Nothing in Lean hashes anything: it is a label: what it is worth is what the hold of that sum in a sandbox is worth. -/
noncomputable def Try.pinned : Pinned := { name := "ytgeaboahccfdcaa", sum := "33c15d69a69cffb792e6f4a455e95e83de6bfebd5ef9d63b60c42a905e99e5ac", checked := Try.checked }
namespace Rows
def none {H : Type} : Left H := { results := [], args := [] }

/-- 'gromalaw06.HeapPlays': WHATEVER THE INPUT: true; the input reads as it did. -/
def heapPlaysSpec : ChangeSpec := { name := "heapPlays", fn := fun _ => fun
  | [d1, d2] => { results := [.lit (.bool true)], args := [d1, d2] }
  | _ => none }
def heapPlaysRow : OpenClaim := { program := "ytgeaboahccfdcaa", sum := "33c15d69a69cffb792e6f4a455e95e83de6bfebd5ef9d63b60c42a905e99e5ac", func := "groma/gromalaw06.HeapPlays", spec := "heapPlays", unfollowed := true, recurses := true, apart := false }
def HeapPlaysSaid : Prop := heapPlaysRow.holds Try.pinned (OpenSpec.ofChange heapPlaysSpec)

/-- ITS FALSE NEIGHBOUR: 'it returns false'. Refute it at one input. -/
def heapPlaysWrong : ChangeSpec := { name := "heapPlays", fn := fun _ => fun
  | [d1, d2] => { results := [.lit (.bool false)], args := [d1, d2] }
  | _ => none }
def HeapPlaysWrongFalsely : Prop := heapPlaysRow.holds Try.pinned (OpenSpec.ofChange heapPlaysWrong)

/-- 'gromalaw06.HeapOwn': WHATEVER THE INPUT: true; the input reads as it did. -/
def heapOwnSpec : ChangeSpec := { name := "heapOwn", fn := fun _ => fun
  | [d1, d2] => { results := [.lit (.bool true)], args := [d1, d2] }
  | _ => none }
def heapOwnRow : OpenClaim := { program := "ytgeaboahccfdcaa", sum := "33c15d69a69cffb792e6f4a455e95e83de6bfebd5ef9d63b60c42a905e99e5ac", func := "groma/gromalaw06.HeapOwn", spec := "heapOwn", unfollowed := true, recurses := true, apart := false }
def HeapOwnSaid : Prop := heapOwnRow.holds Try.pinned (OpenSpec.ofChange heapOwnSpec)

/-- ITS FALSE NEIGHBOUR: 'it returns false'. Refute it at one input. -/
def heapOwnWrong : ChangeSpec := { name := "heapOwn", fn := fun _ => fun
  | [d1, d2] => { results := [.lit (.bool false)], args := [d1, d2] }
  | _ => none }
def HeapOwnWrongFalsely : Prop := heapOwnRow.holds Try.pinned (OpenSpec.ofChange heapOwnWrong)

/-- 'gromalaw06.HeapDrains': WHATEVER THE INPUT: true; the input reads as it did. -/
def heapDrainsSpec : ChangeSpec := { name := "heapDrains", fn := fun _ => fun
  | [d1, d2] => { results := [.lit (.bool true)], args := [d1, d2] }
  | _ => none }
def heapDrainsRow : OpenClaim := { program := "ytgeaboahccfdcaa", sum := "33c15d69a69cffb792e6f4a455e95e83de6bfebd5ef9d63b60c42a905e99e5ac", func := "groma/gromalaw06.HeapDrains", spec := "heapDrains", unfollowed := true, recurses := true, apart := false }
def HeapDrainsSaid : Prop := heapDrainsRow.holds Try.pinned (OpenSpec.ofChange heapDrainsSpec)

/-- ITS FALSE NEIGHBOUR: 'it returns false'. Refute it at one input. -/
def heapDrainsWrong : ChangeSpec := { name := "heapDrains", fn := fun _ => fun
  | [d1, d2] => { results := [.lit (.bool false)], args := [d1, d2] }
  | _ => none }
def HeapDrainsWrongFalsely : Prop := heapDrainsRow.holds Try.pinned (OpenSpec.ofChange heapDrainsWrong)

/-- 'gromalaw06.HeapTurned': WHATEVER THE INPUT: true; the input reads as it did. -/
def heapTurnedSpec : ChangeSpec := { name := "heapTurned", fn := fun _ => fun
  | [d] => { results := [.lit (.bool true)], args := [d] }
  | _ => none }
def heapTurnedRow : OpenClaim := { program := "ytgeaboahccfdcaa", sum := "33c15d69a69cffb792e6f4a455e95e83de6bfebd5ef9d63b60c42a905e99e5ac", func := "groma/gromalaw06.HeapTurned", spec := "heapTurned", unfollowed := true, recurses := true, apart := false }
def HeapTurnedSaid : Prop := heapTurnedRow.holds Try.pinned (OpenSpec.ofChange heapTurnedSpec)

/-- ITS FALSE NEIGHBOUR: 'it returns false'. Refute it at one input. -/
def heapTurnedWrong : ChangeSpec := { name := "heapTurned", fn := fun _ => fun
  | [d] => { results := [.lit (.bool false)], args := [d] }
  | _ => none }
def HeapTurnedWrongFalsely : Prop := heapTurnedRow.holds Try.pinned (OpenSpec.ofChange heapTurnedWrong)

/- THE SECOND FORM. 'bulk': how many values and letters a reading holds, each counted each time it is reached (what is shared counts as often as it is met; a slice's spare places count too). A statement '..UptoSaid' is the law's where the arguments, and the package variables that the reading takes, are together of bulk at most 1048576: NARROWER than '..Said'. Prove '..Said' where nothing that the law and all that it calls make is longer than what came in: it says more and counts as full. Else prove '..UptoSaid'. A law counts once. -/
mutual
def uptoBulk {H : Type} : DataW H → Nat
  | .lit (.string bytes) => bytes.length + 1
  | .lit _ => 1
  | .nil => 1
  | .ptr d => uptoBulk d + 1
  | .slice elems spare => uptoBulkAll elems + uptoBulkAll spare + 1
  | .agg parts => uptoBulkAll parts + 1
  | .iface _ d => uptoBulk d + 1
  | .map entries => uptoBulkEntries entries + 1
  | .held _ => 1
def uptoBulkAll {H : Type} : List (DataW H) → Nat
  | [] => 0
  | d :: r => uptoBulk d + uptoBulkAll r
def uptoBulkEntries {H : Type} : List (Lit × DataW H) → Nat
  | [] => 0
  | x :: r => uptoBulkEntry x + uptoBulkEntries r
def uptoBulkEntry {H : Type} : Lit × DataW H → Nat
  | (.string bytes, d) => bytes.length + uptoBulk d + 1
  | (_, d) => uptoBulk d + 1
 end
def uptoSmall : (H : Type) → List (DataW H) → Bool := fun _ ds => decide (uptoBulkAll ds ≤ 1048576)
def OpenSpec.upto (s : _root_.Go.ChangeSpec) : _root_.Go.OpenSpec := { _root_.Go.OpenSpec.ofChange s with cond := some uptoSmall }

/-- 'gromalaw06.HeapPlays', WHERE WHAT IT READS IS OF BULK AT MOST 1048576: true; the input reads as it did. -/
def heapPlaysUptoRow : OpenClaim := { program := "ytgeaboahccfdcaa", sum := "33c15d69a69cffb792e6f4a455e95e83de6bfebd5ef9d63b60c42a905e99e5ac", func := "groma/gromalaw06.HeapPlays", spec := "heapPlays", unfollowed := true, recurses := true, apart := false, narrowed := true }
def HeapPlaysUptoSaid : Prop := heapPlaysUptoRow.holds Try.pinned (OpenSpec.upto heapPlaysSpec)

/-- 'gromalaw06.HeapOwn', WHERE WHAT IT READS IS OF BULK AT MOST 1048576: true; the input reads as it did. -/
def heapOwnUptoRow : OpenClaim := { program := "ytgeaboahccfdcaa", sum := "33c15d69a69cffb792e6f4a455e95e83de6bfebd5ef9d63b60c42a905e99e5ac", func := "groma/gromalaw06.HeapOwn", spec := "heapOwn", unfollowed := true, recurses := true, apart := false, narrowed := true }
def HeapOwnUptoSaid : Prop := heapOwnUptoRow.holds Try.pinned (OpenSpec.upto heapOwnSpec)

/-- 'gromalaw06.HeapDrains', WHERE WHAT IT READS IS OF BULK AT MOST 1048576: true; the input reads as it did. -/
def heapDrainsUptoRow : OpenClaim := { program := "ytgeaboahccfdcaa", sum := "33c15d69a69cffb792e6f4a455e95e83de6bfebd5ef9d63b60c42a905e99e5ac", func := "groma/gromalaw06.HeapDrains", spec := "heapDrains", unfollowed := true, recurses := true, apart := false, narrowed := true }
def HeapDrainsUptoSaid : Prop := heapDrainsUptoRow.holds Try.pinned (OpenSpec.upto heapDrainsSpec)

/-- 'gromalaw06.HeapTurned', WHERE WHAT IT READS IS OF BULK AT MOST 1048576: true; the input reads as it did. -/
def heapTurnedUptoRow : OpenClaim := { program := "ytgeaboahccfdcaa", sum := "33c15d69a69cffb792e6f4a455e95e83de6bfebd5ef9d63b60c42a905e99e5ac", func := "groma/gromalaw06.HeapTurned", spec := "heapTurned", unfollowed := true, recurses := true, apart := false, narrowed := true }
def HeapTurnedUptoSaid : Prop := heapTurnedUptoRow.holds Try.pinned (OpenSpec.upto heapTurnedSpec)

end Rows
end Go.Proofs.Ytgeaboahccfdcaa

/-
  No cell of these rows narrows 'for every input' (looked for: loops, veiled, ifaces, maps, wideKeys, modest, calm, conditions, laid).
  DERIVED. THE GIVEN ROWS OF THIS SEAT. 6 by the template 'for every input the law returns true; each argument reads behind the call as it read before'; 0 by the template 'total and deterministic' (their statements: YtkfolfkgjpcmiaaTotals.lean).
  GIVEN WITH THE SEED: the statements are not yours to turn. If you find one false, say at which input.
  Laid BY PROGRAM, IN A SANDBOX (cutbox-rows.mjs): the forced cells as the released guide's own fill.sh prints them over the translation 8611263be4b0d34e… (all of the seat's roots in one cut). By AI agents, Wed Nov 11 2026. No macro, syntax, notation, axiom, sorry.
-/
import Derived.Test.YtkfolfkgjpcmiaaChecked
import GoSem.Claim
import GoSem.ClaimJoined
import GoSem.ClaimMapViews
import Derived.JoinedTies
import Derived.KernelRfl
namespace Go.Proofs.Ytkfolfkgjpcmiaa
/- THE CELL 'sum', in the pinned program and in every row, IS THE sha256 OF THE DUMP (.gsa) THAT YtkfolfkgjpcmiaaProg.lean LOADS. Nothing in Lean hashes anything: it is a label: what it is worth is what the hold of that sum in a sandbox is worth. -/
noncomputable def Try.pinned : Pinned := { name := "ytkfolfkgjpcmiaa", sum := "8611263be4b0d34ecaf5937f65ddb99f37c5a0a0fe699b75e24a5e1632f32a9e", checked := Try.checked }
namespace Rows
def none {H : Type} : Left H := { results := [], args := [] }

/-- 'gromalaw07.MergeSorts': WHATEVER THE INPUT: true; the input reads as it did. -/
def mergeSortsSpec : ChangeSpec := { name := "mergeSorts", fn := fun _ => fun
  | [d] => { results := [.lit (.bool true)], args := [d] }
  | _ => none }
def mergeSortsRow : OpenClaim := { program := "ytkfolfkgjpcmiaa", sum := "8611263be4b0d34ecaf5937f65ddb99f37c5a0a0fe699b75e24a5e1632f32a9e", func := "groma/gromalaw07.MergeSorts", spec := "mergeSorts", unfollowed := true, recurses := true, apart := false }
def MergeSortsSaid : Prop := mergeSortsRow.holds Try.pinned (OpenSpec.ofChange mergeSortsSpec)

/-- ITS FALSE NEIGHBOUR: 'it returns false'. Refute it at one input. -/
def mergeSortsWrong : ChangeSpec := { name := "mergeSorts", fn := fun _ => fun
  | [d] => { results := [.lit (.bool false)], args := [d] }
  | _ => none }
def MergeSortsWrongFalsely : Prop := mergeSortsRow.holds Try.pinned (OpenSpec.ofChange mergeSortsWrong)

/-- 'gromalaw07.MergeMerges': WHATEVER THE INPUT: true; the input reads as it did. -/
def mergeMergesSpec : ChangeSpec := { name := "mergeMerges", fn := fun _ => fun
  | [d1, d2] => { results := [.lit (.bool true)], args := [d1, d2] }
  | _ => none }
def mergeMergesRow : OpenClaim := { program := "ytkfolfkgjpcmiaa", sum := "8611263be4b0d34ecaf5937f65ddb99f37c5a0a0fe699b75e24a5e1632f32a9e", func := "groma/gromalaw07.MergeMerges", spec := "mergeMerges", unfollowed := true, recurses := true, apart := false }
def MergeMergesSaid : Prop := mergeMergesRow.holds Try.pinned (OpenSpec.ofChange mergeMergesSpec)

/-- ITS FALSE NEIGHBOUR: 'it returns false'. Refute it at one input. -/
def mergeMergesWrong : ChangeSpec := { name := "mergeMerges", fn := fun _ => fun
  | [d1, d2] => { results := [.lit (.bool false)], args := [d1, d2] }
  | _ => none }
def MergeMergesWrongFalsely : Prop := mergeMergesRow.holds Try.pinned (OpenSpec.ofChange mergeMergesWrong)

/-- 'gromalaw07.MergeRuns': WHATEVER THE INPUT: true; the input reads as it did. -/
def mergeRunsSpec : ChangeSpec := { name := "mergeRuns", fn := fun _ => fun
  | [d1, d2] => { results := [.lit (.bool true)], args := [d1, d2] }
  | _ => none }
def mergeRunsRow : OpenClaim := { program := "ytkfolfkgjpcmiaa", sum := "8611263be4b0d34ecaf5937f65ddb99f37c5a0a0fe699b75e24a5e1632f32a9e", func := "groma/gromalaw07.MergeRuns", spec := "mergeRuns", unfollowed := true, recurses := true, apart := false }
def MergeRunsSaid : Prop := mergeRunsRow.holds Try.pinned (OpenSpec.ofChange mergeRunsSpec)

/-- ITS FALSE NEIGHBOUR: 'it returns false'. Refute it at one input. -/
def mergeRunsWrong : ChangeSpec := { name := "mergeRuns", fn := fun _ => fun
  | [d1, d2] => { results := [.lit (.bool false)], args := [d1, d2] }
  | _ => none }
def MergeRunsWrongFalsely : Prop := mergeRunsRow.holds Try.pinned (OpenSpec.ofChange mergeRunsWrong)

/-- 'gromalaw07.MergeOnce': WHATEVER THE INPUT: true; the input reads as it did. -/
def mergeOnceSpec : ChangeSpec := { name := "mergeOnce", fn := fun _ => fun
  | [d] => { results := [.lit (.bool true)], args := [d] }
  | _ => none }
def mergeOnceRow : OpenClaim := { program := "ytkfolfkgjpcmiaa", sum := "8611263be4b0d34ecaf5937f65ddb99f37c5a0a0fe699b75e24a5e1632f32a9e", func := "groma/gromalaw07.MergeOnce", spec := "mergeOnce", unfollowed := true, recurses := true, apart := false }
def MergeOnceSaid : Prop := mergeOnceRow.holds Try.pinned (OpenSpec.ofChange mergeOnceSpec)

/-- ITS FALSE NEIGHBOUR: 'it returns false'. Refute it at one input. -/
def mergeOnceWrong : ChangeSpec := { name := "mergeOnce", fn := fun _ => fun
  | [d] => { results := [.lit (.bool false)], args := [d] }
  | _ => none }
def MergeOnceWrongFalsely : Prop := mergeOnceRow.holds Try.pinned (OpenSpec.ofChange mergeOnceWrong)

/-- 'gromalaw07.MergeFinds': WHATEVER THE INPUT: true; the input reads as it did. -/
def mergeFindsSpec : ChangeSpec := { name := "mergeFinds", fn := fun _ => fun
  | [d1, d2] => { results := [.lit (.bool true)], args := [d1, d2] }
  | _ => none }
def mergeFindsRow : OpenClaim := { program := "ytkfolfkgjpcmiaa", sum := "8611263be4b0d34ecaf5937f65ddb99f37c5a0a0fe699b75e24a5e1632f32a9e", func := "groma/gromalaw07.MergeFinds", spec := "mergeFinds", unfollowed := true, recurses := true, apart := false }
def MergeFindsSaid : Prop := mergeFindsRow.holds Try.pinned (OpenSpec.ofChange mergeFindsSpec)

/-- ITS FALSE NEIGHBOUR: 'it returns false'. Refute it at one input. -/
def mergeFindsWrong : ChangeSpec := { name := "mergeFinds", fn := fun _ => fun
  | [d1, d2] => { results := [.lit (.bool false)], args := [d1, d2] }
  | _ => none }
def MergeFindsWrongFalsely : Prop := mergeFindsRow.holds Try.pinned (OpenSpec.ofChange mergeFindsWrong)

/-- 'gromalaw07.MergeLess': WHATEVER THE INPUT: true; the input reads as it did. -/
def mergeLessSpec : ChangeSpec := { name := "mergeLess", fn := fun _ => fun
  | [d1, d2] => { results := [.lit (.bool true)], args := [d1, d2] }
  | _ => none }
def mergeLessRow : OpenClaim := { program := "ytkfolfkgjpcmiaa", sum := "8611263be4b0d34ecaf5937f65ddb99f37c5a0a0fe699b75e24a5e1632f32a9e", func := "groma/gromalaw07.MergeLess", spec := "mergeLess", unfollowed := true, recurses := true, apart := false }
def MergeLessSaid : Prop := mergeLessRow.holds Try.pinned (OpenSpec.ofChange mergeLessSpec)

/-- ITS FALSE NEIGHBOUR: 'it returns false'. Refute it at one input. -/
def mergeLessWrong : ChangeSpec := { name := "mergeLess", fn := fun _ => fun
  | [d1, d2] => { results := [.lit (.bool false)], args := [d1, d2] }
  | _ => none }
def MergeLessWrongFalsely : Prop := mergeLessRow.holds Try.pinned (OpenSpec.ofChange mergeLessWrong)

/- THE SECOND FORM. 'bulk': how many values and letters a reading holds, each counted each time it is reached (what is shared counts as often as it is met; a slice's spare places count too). A statement '..UptoSaid' is the law's where the arguments, and the package variables that the reading takes, are together of bulk at most 1048576: NARROWER than '..Said'. Prove '..Said' where nothing that the law and all that it calls make is longer than what came in: it says more and counts as full. Else prove '..UptoSaid'. A law counts once. -/
mutual
def uptoBulk {H : Type} : DataW H → Nat
  | .lit (.string bytes) => bytes.length + 1
  | .lit _ => 1
  | .nil => 1
  | .ptr d => uptoBulk d + 1
  | .slice elems spare => uptoBulkAll elems + uptoBulkAll spare + 1
  | .agg parts => uptoBulkAll parts + 1
  | .iface _ d => uptoBulk d + 1
  | .map entries => uptoBulkEntries entries + 1
  | .held _ => 1
def uptoBulkAll {H : Type} : List (DataW H) → Nat
  | [] => 0
  | d :: r => uptoBulk d + uptoBulkAll r
def uptoBulkEntries {H : Type} : List (Lit × DataW H) → Nat
  | [] => 0
  | x :: r => uptoBulkEntry x + uptoBulkEntries r
def uptoBulkEntry {H : Type} : Lit × DataW H → Nat
  | (.string bytes, d) => bytes.length + uptoBulk d + 1
  | (_, d) => uptoBulk d + 1
 end
def uptoSmall : (H : Type) → List (DataW H) → Bool := fun _ ds => decide (uptoBulkAll ds ≤ 1048576)
def OpenSpec.upto (s : _root_.Go.ChangeSpec) : _root_.Go.OpenSpec := { _root_.Go.OpenSpec.ofChange s with cond := some uptoSmall }

/-- 'gromalaw07.MergeSorts', WHERE WHAT IT READS IS OF BULK AT MOST 1048576: true; the input reads as it did. -/
def mergeSortsUptoRow : OpenClaim := { program := "ytkfolfkgjpcmiaa", sum := "8611263be4b0d34ecaf5937f65ddb99f37c5a0a0fe699b75e24a5e1632f32a9e", func := "groma/gromalaw07.MergeSorts", spec := "mergeSorts", unfollowed := true, recurses := true, apart := false, narrowed := true }
def MergeSortsUptoSaid : Prop := mergeSortsUptoRow.holds Try.pinned (OpenSpec.upto mergeSortsSpec)

/-- 'gromalaw07.MergeMerges', WHERE WHAT IT READS IS OF BULK AT MOST 1048576: true; the input reads as it did. -/
def mergeMergesUptoRow : OpenClaim := { program := "ytkfolfkgjpcmiaa", sum := "8611263be4b0d34ecaf5937f65ddb99f37c5a0a0fe699b75e24a5e1632f32a9e", func := "groma/gromalaw07.MergeMerges", spec := "mergeMerges", unfollowed := true, recurses := true, apart := false, narrowed := true }
def MergeMergesUptoSaid : Prop := mergeMergesUptoRow.holds Try.pinned (OpenSpec.upto mergeMergesSpec)

/-- 'gromalaw07.MergeRuns', WHERE WHAT IT READS IS OF BULK AT MOST 1048576: true; the input reads as it did. -/
def mergeRunsUptoRow : OpenClaim := { program := "ytkfolfkgjpcmiaa", sum := "8611263be4b0d34ecaf5937f65ddb99f37c5a0a0fe699b75e24a5e1632f32a9e", func := "groma/gromalaw07.MergeRuns", spec := "mergeRuns", unfollowed := true, recurses := true, apart := false, narrowed := true }
def MergeRunsUptoSaid : Prop := mergeRunsUptoRow.holds Try.pinned (OpenSpec.upto mergeRunsSpec)

/-- 'gromalaw07.MergeOnce', WHERE WHAT IT READS IS OF BULK AT MOST 1048576: true; the input reads as it did. -/
def mergeOnceUptoRow : OpenClaim := { program := "ytkfolfkgjpcmiaa", sum := "8611263be4b0d34ecaf5937f65ddb99f37c5a0a0fe699b75e24a5e1632f32a9e", func := "groma/gromalaw07.MergeOnce", spec := "mergeOnce", unfollowed := true, recurses := true, apart := false, narrowed := true }
def MergeOnceUptoSaid : Prop := mergeOnceUptoRow.holds Try.pinned (OpenSpec.upto mergeOnceSpec)

/-- 'gromalaw07.MergeFinds', WHERE WHAT IT READS IS OF BULK AT MOST 1048576: true; the input reads as it did. -/
def mergeFindsUptoRow : OpenClaim := { program := "ytkfolfkgjpcmiaa", sum := "8611263be4b0d34ecaf5937f65ddb99f37c5a0a0fe699b75e24a5e1632f32a9e", func := "groma/gromalaw07.MergeFinds", spec := "mergeFinds", unfollowed := true, recurses := true, apart := false, narrowed := true }
def MergeFindsUptoSaid : Prop := mergeFindsUptoRow.holds Try.pinned (OpenSpec.upto mergeFindsSpec)

/-- 'gromalaw07.MergeLess', WHERE WHAT IT READS IS OF BULK AT MOST 1048576: true; the input reads as it did. -/
def mergeLessUptoRow : OpenClaim := { program := "ytkfolfkgjpcmiaa", sum := "8611263be4b0d34ecaf5937f65ddb99f37c5a0a0fe699b75e24a5e1632f32a9e", func := "groma/gromalaw07.MergeLess", spec := "mergeLess", unfollowed := true, recurses := true, apart := false, narrowed := true }
def MergeLessUptoSaid : Prop := mergeLessUptoRow.holds Try.pinned (OpenSpec.upto mergeLessSpec)

end Rows
end Go.Proofs.Ytkfolfkgjpcmiaa

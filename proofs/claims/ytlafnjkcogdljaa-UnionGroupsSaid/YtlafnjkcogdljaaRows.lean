/-
  No cell of these rows narrows 'for every input' (looked for: loops, veiled, ifaces, maps, wideKeys, modest, calm, conditions, laid).
  DERIVED. THE GIVEN ROWS OF THIS SEAT. 4 by the template 'for every input the law returns true; each argument reads behind the call as it read before'; 0 by the template 'total and deterministic' (their statements: YtlafnjkcogdljaaTotals.lean).
  GIVEN WITH THE SEED: the statements are not yours to turn. If you find one false, say at which input.
  Laid BY PROGRAM, IN A SANDBOX (cutbox-rows.mjs): the forced cells as the released guide's own fill.sh prints them over the translation ff54dce8a1e26909… (all of the seat's roots in one cut). By AI agents, Wed Nov 11 2026. No macro, syntax, notation, axiom, sorry.
-/
import Derived.Test.YtlafnjkcogdljaaChecked
import GoSem.Claim
import GoSem.ClaimJoined
import GoSem.ClaimMapViews
import Derived.JoinedTies
import Derived.KernelRfl
namespace Go.Proofs.Ytlafnjkcogdljaa
/- THE CELL 'sum', in the pinned program and in every row, IS THE sha256 OF THE DUMP (.gsa) THAT YtlafnjkcogdljaaProg.lean LOADS. Nothing in Lean hashes anything: it is a label: what it is worth is what the hold of that sum in a sandbox is worth. -/
noncomputable def Try.pinned : Pinned := { name := "ytlafnjkcogdljaa", sum := "ff54dce8a1e26909f2bf0a0294fe8f4a5c304b478c4c64013329a3fb3c94cec5", checked := Try.checked }
namespace Rows
def none {H : Type} : Left H := { results := [], args := [] }

/-- 'gromalaw08.UnionPlays': WHATEVER THE INPUT: true; the input reads as it did. -/
def unionPlaysSpec : ChangeSpec := { name := "unionPlays", fn := fun _ => fun
  | [d1, d2] => { results := [.lit (.bool true)], args := [d1, d2] }
  | _ => none }
def unionPlaysRow : OpenClaim := { program := "ytlafnjkcogdljaa", sum := "ff54dce8a1e26909f2bf0a0294fe8f4a5c304b478c4c64013329a3fb3c94cec5", func := "groma/gromalaw08.UnionPlays", spec := "unionPlays", apart := false }
def UnionPlaysSaid : Prop := unionPlaysRow.holds Try.pinned (OpenSpec.ofChange unionPlaysSpec)

/-- ITS FALSE NEIGHBOUR: 'it returns false'. Refute it at one input. -/
def unionPlaysWrong : ChangeSpec := { name := "unionPlays", fn := fun _ => fun
  | [d1, d2] => { results := [.lit (.bool false)], args := [d1, d2] }
  | _ => none }
def UnionPlaysWrongFalsely : Prop := unionPlaysRow.holds Try.pinned (OpenSpec.ofChange unionPlaysWrong)

/-- 'gromalaw08.UnionMakes': WHATEVER THE INPUT: true; the input reads as it did. -/
def unionMakesSpec : ChangeSpec := { name := "unionMakes", fn := fun _ => fun
  | [d] => { results := [.lit (.bool true)], args := [d] }
  | _ => none }
def unionMakesRow : OpenClaim := { program := "ytlafnjkcogdljaa", sum := "ff54dce8a1e26909f2bf0a0294fe8f4a5c304b478c4c64013329a3fb3c94cec5", func := "groma/gromalaw08.UnionMakes", spec := "unionMakes", apart := false }
def UnionMakesSaid : Prop := unionMakesRow.holds Try.pinned (OpenSpec.ofChange unionMakesSpec)

/-- ITS FALSE NEIGHBOUR: 'it returns false'. Refute it at one input. -/
def unionMakesWrong : ChangeSpec := { name := "unionMakes", fn := fun _ => fun
  | [d] => { results := [.lit (.bool false)], args := [d] }
  | _ => none }
def UnionMakesWrongFalsely : Prop := unionMakesRow.holds Try.pinned (OpenSpec.ofChange unionMakesWrong)

/-- 'gromalaw08.UnionNumbers': WHATEVER THE INPUT: true; the input reads as it did. -/
def unionNumbersSpec : ChangeSpec := { name := "unionNumbers", fn := fun _ => fun
  | [d1, d2, d3] => { results := [.lit (.bool true)], args := [d1, d2, d3] }
  | _ => none }
def unionNumbersRow : OpenClaim := { program := "ytlafnjkcogdljaa", sum := "ff54dce8a1e26909f2bf0a0294fe8f4a5c304b478c4c64013329a3fb3c94cec5", func := "groma/gromalaw08.UnionNumbers", spec := "unionNumbers", apart := false }
def UnionNumbersSaid : Prop := unionNumbersRow.holds Try.pinned (OpenSpec.ofChange unionNumbersSpec)

/-- ITS FALSE NEIGHBOUR: 'it returns false'. Refute it at one input. -/
def unionNumbersWrong : ChangeSpec := { name := "unionNumbers", fn := fun _ => fun
  | [d1, d2, d3] => { results := [.lit (.bool false)], args := [d1, d2, d3] }
  | _ => none }
def UnionNumbersWrongFalsely : Prop := unionNumbersRow.holds Try.pinned (OpenSpec.ofChange unionNumbersWrong)

/-- 'gromalaw08.UnionGroups': WHATEVER THE INPUT: true; the input reads as it did. -/
def unionGroupsSpec : ChangeSpec := { name := "unionGroups", fn := fun _ => fun
  | [d1, d2, d3] => { results := [.lit (.bool true)], args := [d1, d2, d3] }
  | _ => none }
def unionGroupsRow : OpenClaim := { program := "ytlafnjkcogdljaa", sum := "ff54dce8a1e26909f2bf0a0294fe8f4a5c304b478c4c64013329a3fb3c94cec5", func := "groma/gromalaw08.UnionGroups", spec := "unionGroups", unfollowed := true, recurses := true, apart := false }
def UnionGroupsSaid : Prop := unionGroupsRow.holds Try.pinned (OpenSpec.ofChange unionGroupsSpec)

/-- ITS FALSE NEIGHBOUR: 'it returns false'. Refute it at one input. -/
def unionGroupsWrong : ChangeSpec := { name := "unionGroups", fn := fun _ => fun
  | [d1, d2, d3] => { results := [.lit (.bool false)], args := [d1, d2, d3] }
  | _ => none }
def UnionGroupsWrongFalsely : Prop := unionGroupsRow.holds Try.pinned (OpenSpec.ofChange unionGroupsWrong)

/- THE SECOND FORM. 'bulk': how many values and letters a reading holds, each counted each time it is reached (what is shared counts as often as it is met; a slice's spare places count too). A statement '..UptoSaid' is the law's where the arguments, and the package variables that the reading takes, are together of bulk at most 1048576: NARROWER than '..Said'. Prove '..Said' where nothing that the law and all that it calls make is longer than what came in: it says more and counts as full. Else prove '..UptoSaid'. A law counts once. -/
mutual
def uptoBulk {H : Type} : DataW H → Nat
  | .lit (.string bytes) => bytes.length + 1
  | .lit _ => 1
  | .nil => 1
  | .ptr d => uptoBulk d + 1
  | .slice elems spare => uptoBulkAll elems + uptoBulkAll spare + 1
  | .agg parts => uptoBulkAll parts + 1
  | .iface _ d => uptoBulk d + 1
  | .map entries => uptoBulkEntries entries + 1
  | .held _ => 1
def uptoBulkAll {H : Type} : List (DataW H) → Nat
  | [] => 0
  | d :: r => uptoBulk d + uptoBulkAll r
def uptoBulkEntries {H : Type} : List (Lit × DataW H) → Nat
  | [] => 0
  | x :: r => uptoBulkEntry x + uptoBulkEntries r
def uptoBulkEntry {H : Type} : Lit × DataW H → Nat
  | (.string bytes, d) => bytes.length + uptoBulk d + 1
  | (_, d) => uptoBulk d + 1
 end
def uptoSmall : (H : Type) → List (DataW H) → Bool := fun _ ds => decide (uptoBulkAll ds ≤ 1048576)
def OpenSpec.upto (s : _root_.Go.ChangeSpec) : _root_.Go.OpenSpec := { _root_.Go.OpenSpec.ofChange s with cond := some uptoSmall }

/-- 'gromalaw08.UnionPlays', WHERE WHAT IT READS IS OF BULK AT MOST 1048576: true; the input reads as it did. -/
def unionPlaysUptoRow : OpenClaim := { program := "ytlafnjkcogdljaa", sum := "ff54dce8a1e26909f2bf0a0294fe8f4a5c304b478c4c64013329a3fb3c94cec5", func := "groma/gromalaw08.UnionPlays", spec := "unionPlays", apart := false, narrowed := true }
def UnionPlaysUptoSaid : Prop := unionPlaysUptoRow.holds Try.pinned (OpenSpec.upto unionPlaysSpec)

/-- 'gromalaw08.UnionMakes', WHERE WHAT IT READS IS OF BULK AT MOST 1048576: true; the input reads as it did. -/
def unionMakesUptoRow : OpenClaim := { program := "ytlafnjkcogdljaa", sum := "ff54dce8a1e26909f2bf0a0294fe8f4a5c304b478c4c64013329a3fb3c94cec5", func := "groma/gromalaw08.UnionMakes", spec := "unionMakes", apart := false, narrowed := true }
def UnionMakesUptoSaid : Prop := unionMakesUptoRow.holds Try.pinned (OpenSpec.upto unionMakesSpec)

/-- 'gromalaw08.UnionNumbers', WHERE WHAT IT READS IS OF BULK AT MOST 1048576: true; the input reads as it did. -/
def unionNumbersUptoRow : OpenClaim := { program := "ytlafnjkcogdljaa", sum := "ff54dce8a1e26909f2bf0a0294fe8f4a5c304b478c4c64013329a3fb3c94cec5", func := "groma/gromalaw08.UnionNumbers", spec := "unionNumbers", apart := false, narrowed := true }
def UnionNumbersUptoSaid : Prop := unionNumbersUptoRow.holds Try.pinned (OpenSpec.upto unionNumbersSpec)

/-- 'gromalaw08.UnionGroups', WHERE WHAT IT READS IS OF BULK AT MOST 1048576: true; the input reads as it did. -/
def unionGroupsUptoRow : OpenClaim := { program := "ytlafnjkcogdljaa", sum := "ff54dce8a1e26909f2bf0a0294fe8f4a5c304b478c4c64013329a3fb3c94cec5", func := "groma/gromalaw08.UnionGroups", spec := "unionGroups", unfollowed := true, recurses := true, apart := false, narrowed := true }
def UnionGroupsUptoSaid : Prop := unionGroupsUptoRow.holds Try.pinned (OpenSpec.upto unionGroupsSpec)

end Rows
end Go.Proofs.Ytlafnjkcogdljaa

/-
  No cell of these rows narrows 'for every input' (looked for: loops, veiled, ifaces, maps, wideKeys, modest, calm, conditions, laid).
  DERIVED. THE GIVEN ROWS OF THIS SEAT. 4 by the template 'for every input the law returns true; each argument reads behind the call as it read before'; 0 by the template 'total and deterministic' (their statements: YtpoogkgekeocbaaTotals.lean).
  GIVEN WITH THE SEED: the statements are not yours to turn. If you find one false, say at which input.
  Laid BY PROGRAM, IN A SANDBOX (cutbox-rows.mjs): the forced cells as the released guide's own fill.sh prints them over the translation c190f674e0b8fcd8… (all of the seat's roots in one cut). By AI agents, Wed Nov 11 2026. No macro, syntax, notation, axiom, sorry.
-/
import Derived.Test.YtpoogkgekeocbaaChecked
import GoSem.Claim
import GoSem.ClaimJoined
import GoSem.ClaimMapViews
import Derived.JoinedTies
import Derived.KernelRfl
namespace Go.Proofs.Ytpoogkgekeocbaa
/- THE CELL 'sum', in the pinned program and in every row, IS THE sha256 OF THE DUMP (.gsa) THAT YtpoogkgekeocbaaProg.lean LOADS. Nothing in Lean hashes anything: it is a label: what it is worth is what the hold of that sum in a sandbox is worth. -/
noncomputable def Try.pinned : Pinned := { name := "ytpoogkgekeocbaa", sum := "c190f674e0b8fcd8b28bba16f6fe1cabfcfa87fe9b8466f916789c6e7760af21", checked := Try.checked }
namespace Rows
def none {H : Type} : Left H := { results := [], args := [] }

/-- 'gromalaw16.HotSets': WHATEVER THE INPUT: true; the input reads as it did. -/
def hotSetsSpec : ChangeSpec := { name := "hotSets", fn := fun _ => fun
  | [d1, d2, d3] => { results := [.lit (.bool true)], args := [d1, d2, d3] }
  | _ => none }
def hotSetsRow : OpenClaim := { program := "ytpoogkgekeocbaa", sum := "c190f674e0b8fcd8b28bba16f6fe1cabfcfa87fe9b8466f916789c6e7760af21", func := "groma/gromalaw16.HotSets", spec := "hotSets", unfollowed := true, recurses := true, apart := false }
def HotSetsSaid : Prop := hotSetsRow.holds Try.pinned (OpenSpec.ofChange hotSetsSpec)

/-- ITS FALSE NEIGHBOUR: 'it returns false'. Refute it at one input. -/
def hotSetsWrong : ChangeSpec := { name := "hotSets", fn := fun _ => fun
  | [d1, d2, d3] => { results := [.lit (.bool false)], args := [d1, d2, d3] }
  | _ => none }
def HotSetsWrongFalsely : Prop := hotSetsRow.holds Try.pinned (OpenSpec.ofChange hotSetsWrong)

/-- 'gromalaw16.HotTells': WHATEVER THE INPUT: true; the input reads as it did. -/
def hotTellsSpec : ChangeSpec := { name := "hotTells", fn := fun _ => fun
  | [d1, d2] => { results := [.lit (.bool true)], args := [d1, d2] }
  | _ => none }
def hotTellsRow : OpenClaim := { program := "ytpoogkgekeocbaa", sum := "c190f674e0b8fcd8b28bba16f6fe1cabfcfa87fe9b8466f916789c6e7760af21", func := "groma/gromalaw16.HotTells", spec := "hotTells", unfollowed := true, recurses := true, apart := false }
def HotTellsSaid : Prop := hotTellsRow.holds Try.pinned (OpenSpec.ofChange hotTellsSpec)

/-- ITS FALSE NEIGHBOUR: 'it returns false'. Refute it at one input. -/
def hotTellsWrong : ChangeSpec := { name := "hotTells", fn := fun _ => fun
  | [d1, d2] => { results := [.lit (.bool false)], args := [d1, d2] }
  | _ => none }
def HotTellsWrongFalsely : Prop := hotTellsRow.holds Try.pinned (OpenSpec.ofChange hotTellsWrong)

/-- 'gromalaw16.HotSame': WHATEVER THE INPUT: true; the input reads as it did. -/
def hotSameSpec : ChangeSpec := { name := "hotSame", fn := fun _ => fun
  | [d1, d2] => { results := [.lit (.bool true)], args := [d1, d2] }
  | _ => none }
def hotSameRow : OpenClaim := { program := "ytpoogkgekeocbaa", sum := "c190f674e0b8fcd8b28bba16f6fe1cabfcfa87fe9b8466f916789c6e7760af21", func := "groma/gromalaw16.HotSame", spec := "hotSame", unfollowed := true, recurses := true, apart := false }
def HotSameSaid : Prop := hotSameRow.holds Try.pinned (OpenSpec.ofChange hotSameSpec)

/-- ITS FALSE NEIGHBOUR: 'it returns false'. Refute it at one input. -/
def hotSameWrong : ChangeSpec := { name := "hotSame", fn := fun _ => fun
  | [d1, d2] => { results := [.lit (.bool false)], args := [d1, d2] }
  | _ => none }
def HotSameWrongFalsely : Prop := hotSameRow.holds Try.pinned (OpenSpec.ofChange hotSameWrong)

/-- 'gromalaw16.HotNear': WHATEVER THE INPUT: true; the input reads as it did. -/
def hotNearSpec : ChangeSpec := { name := "hotNear", fn := fun _ => fun
  | [d1, d2, d3] => { results := [.lit (.bool true)], args := [d1, d2, d3] }
  | _ => none }
def hotNearRow : OpenClaim := { program := "ytpoogkgekeocbaa", sum := "c190f674e0b8fcd8b28bba16f6fe1cabfcfa87fe9b8466f916789c6e7760af21", func := "groma/gromalaw16.HotNear", spec := "hotNear", unfollowed := true, recurses := true, apart := false }
def HotNearSaid : Prop := hotNearRow.holds Try.pinned (OpenSpec.ofChange hotNearSpec)

/-- ITS FALSE NEIGHBOUR: 'it returns false'. Refute it at one input. -/
def hotNearWrong : ChangeSpec := { name := "hotNear", fn := fun _ => fun
  | [d1, d2, d3] => { results := [.lit (.bool false)], args := [d1, d2, d3] }
  | _ => none }
def HotNearWrongFalsely : Prop := hotNearRow.holds Try.pinned (OpenSpec.ofChange hotNearWrong)

/- THE SECOND FORM. 'bulk': how many values and letters a reading holds, each counted each time it is reached (what is shared counts as often as it is met; a slice's spare places count too). A statement '..UptoSaid' is the law's where the arguments, and the package variables that the reading takes, are together of bulk at most 1048576: NARROWER than '..Said'. Prove '..Said' where nothing that the law and all that it calls make is longer than what came in: it says more and counts as full. Else prove '..UptoSaid'. A law counts once. -/
mutual
def uptoBulk {H : Type} : DataW H → Nat
  | .lit (.string bytes) => bytes.length + 1
  | .lit _ => 1
  | .nil => 1
  | .ptr d => uptoBulk d + 1
  | .slice elems spare => uptoBulkAll elems + uptoBulkAll spare + 1
  | .agg parts => uptoBulkAll parts + 1
  | .iface _ d => uptoBulk d + 1
  | .map entries => uptoBulkEntries entries + 1
  | .held _ => 1
def uptoBulkAll {H : Type} : List (DataW H) → Nat
  | [] => 0
  | d :: r => uptoBulk d + uptoBulkAll r
def uptoBulkEntries {H : Type} : List (Lit × DataW H) → Nat
  | [] => 0
  | x :: r => uptoBulkEntry x + uptoBulkEntries r
def uptoBulkEntry {H : Type} : Lit × DataW H → Nat
  | (.string bytes, d) => bytes.length + uptoBulk d + 1
  | (_, d) => uptoBulk d + 1
 end
def uptoSmall : (H : Type) → List (DataW H) → Bool := fun _ ds => decide (uptoBulkAll ds ≤ 1048576)
def OpenSpec.upto (s : _root_.Go.ChangeSpec) : _root_.Go.OpenSpec := { _root_.Go.OpenSpec.ofChange s with cond := some uptoSmall }

/-- 'gromalaw16.HotSets', WHERE WHAT IT READS IS OF BULK AT MOST 1048576: true; the input reads as it did. -/
def hotSetsUptoRow : OpenClaim := { program := "ytpoogkgekeocbaa", sum := "c190f674e0b8fcd8b28bba16f6fe1cabfcfa87fe9b8466f916789c6e7760af21", func := "groma/gromalaw16.HotSets", spec := "hotSets", unfollowed := true, recurses := true, apart := false, narrowed := true }
def HotSetsUptoSaid : Prop := hotSetsUptoRow.holds Try.pinned (OpenSpec.upto hotSetsSpec)

/-- 'gromalaw16.HotTells', WHERE WHAT IT READS IS OF BULK AT MOST 1048576: true; the input reads as it did. -/
def hotTellsUptoRow : OpenClaim := { program := "ytpoogkgekeocbaa", sum := "c190f674e0b8fcd8b28bba16f6fe1cabfcfa87fe9b8466f916789c6e7760af21", func := "groma/gromalaw16.HotTells", spec := "hotTells", unfollowed := true, recurses := true, apart := false, narrowed := true }
def HotTellsUptoSaid : Prop := hotTellsUptoRow.holds Try.pinned (OpenSpec.upto hotTellsSpec)

/-- 'gromalaw16.HotSame', WHERE WHAT IT READS IS OF BULK AT MOST 1048576: true; the input reads as it did. -/
def hotSameUptoRow : OpenClaim := { program := "ytpoogkgekeocbaa", sum := "c190f674e0b8fcd8b28bba16f6fe1cabfcfa87fe9b8466f916789c6e7760af21", func := "groma/gromalaw16.HotSame", spec := "hotSame", unfollowed := true, recurses := true, apart := false, narrowed := true }
def HotSameUptoSaid : Prop := hotSameUptoRow.holds Try.pinned (OpenSpec.upto hotSameSpec)

/-- 'gromalaw16.HotNear', WHERE WHAT IT READS IS OF BULK AT MOST 1048576: true; the input reads as it did. -/
def hotNearUptoRow : OpenClaim := { program := "ytpoogkgekeocbaa", sum := "c190f674e0b8fcd8b28bba16f6fe1cabfcfa87fe9b8466f916789c6e7760af21", func := "groma/gromalaw16.HotNear", spec := "hotNear", unfollowed := true, recurses := true, apart := false, narrowed := true }
def HotNearUptoSaid : Prop := hotNearUptoRow.holds Try.pinned (OpenSpec.upto hotNearSpec)

end Rows
end Go.Proofs.Ytpoogkgekeocbaa

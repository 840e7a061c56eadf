/-
  No cell of these rows narrows 'for every input' (looked for: loops, veiled, ifaces, maps, wideKeys, modest, calm, conditions, laid).
  DERIVED. THE GIVEN ROWS OF THIS SEAT. 3 by the template 'for every input the law returns true; each argument reads behind the call as it read before'; 0 by the template 'total and deterministic' (their statements: YtkbibhlfehamgaaTotals.lean).
  GIVEN WITH THE SEED: the statements are not yours to turn. If you find one false, say at which input.
  Laid BY PROGRAM, IN A SANDBOX (cutbox-rows.mjs): the forced cells as the released guide's own fill.sh prints them over the translation 2544038a44d7fcdc… (all of the seat's roots in one cut). By AI agents, Wed Nov 11 2026. No macro, syntax, notation, axiom, sorry.
-/
import Derived.Test.YtkbibhlfehamgaaChecked
import GoSem.Claim
import GoSem.ClaimJoined
import GoSem.ClaimMapViews
import Derived.JoinedTies
import Derived.KernelRfl
namespace Go.Proofs.Ytkbibhlfehamgaa
/- THE CELL 'sum', in the pinned program and in every row, IS THE sha256 OF THE DUMP (.gsa) THAT YtkbibhlfehamgaaProg.lean LOADS. Nothing in Lean hashes anything: it is a label: what it is worth is what the hold of that sum in a sandbox is worth. -/
noncomputable def Try.pinned : Pinned := { name := "ytkbibhlfehamgaa", sum := "2544038a44d7fcdc111ccf5d7a44e31e422bd1e06f55b518b47ff13c9a8a8ed9", checked := Try.checked }
namespace Rows
def none {H : Type} : Left H := { results := [], args := [] }

/-- 'pigeonholelaw15.EnvelReads': WHATEVER THE INPUT: true; the input reads as it did. -/
def envelReadsSpec : ChangeSpec := { name := "envelReads", fn := fun _ => fun
  | [d] => { results := [.lit (.bool true)], args := [d] }
  | _ => none }
def envelReadsRow : OpenClaim := { program := "ytkbibhlfehamgaa", sum := "2544038a44d7fcdc111ccf5d7a44e31e422bd1e06f55b518b47ff13c9a8a8ed9", func := "pigeonhole/pigeonholelaw15.EnvelReads", spec := "envelReads", unfollowed := true, recurses := true, apart := false }
def EnvelReadsSaid : Prop := envelReadsRow.holds Try.pinned (OpenSpec.ofChange envelReadsSpec)

/-- ITS FALSE NEIGHBOUR: 'it returns false'. Refute it at one input. -/
def envelReadsWrong : ChangeSpec := { name := "envelReads", fn := fun _ => fun
  | [d] => { results := [.lit (.bool false)], args := [d] }
  | _ => none }
def EnvelReadsWrongFalsely : Prop := envelReadsRow.holds Try.pinned (OpenSpec.ofChange envelReadsWrong)

/-- 'pigeonholelaw15.EnvelSteps': WHATEVER THE INPUT: true; the input reads as it did. -/
def envelStepsSpec : ChangeSpec := { name := "envelSteps", fn := fun _ => fun
  | [d1, d2, d3, d4] => { results := [.lit (.bool true)], args := [d1, d2, d3, d4] }
  | _ => none }
def envelStepsRow : OpenClaim := { program := "ytkbibhlfehamgaa", sum := "2544038a44d7fcdc111ccf5d7a44e31e422bd1e06f55b518b47ff13c9a8a8ed9", func := "pigeonhole/pigeonholelaw15.EnvelSteps", spec := "envelSteps", unfollowed := true, recurses := true, apart := false }
def EnvelStepsSaid : Prop := envelStepsRow.holds Try.pinned (OpenSpec.ofChange envelStepsSpec)

/-- ITS FALSE NEIGHBOUR: 'it returns false'. Refute it at one input. -/
def envelStepsWrong : ChangeSpec := { name := "envelSteps", fn := fun _ => fun
  | [d1, d2, d3, d4] => { results := [.lit (.bool false)], args := [d1, d2, d3, d4] }
  | _ => none }
def EnvelStepsWrongFalsely : Prop := envelStepsRow.holds Try.pinned (OpenSpec.ofChange envelStepsWrong)

/-- 'pigeonholelaw15.EnvelSame': WHATEVER THE INPUT: true; the input reads as it did. -/
def envelSameSpec : ChangeSpec := { name := "envelSame", fn := fun _ => fun
  | [d1, d2] => { results := [.lit (.bool true)], args := [d1, d2] }
  | _ => none }
def envelSameRow : OpenClaim := { program := "ytkbibhlfehamgaa", sum := "2544038a44d7fcdc111ccf5d7a44e31e422bd1e06f55b518b47ff13c9a8a8ed9", func := "pigeonhole/pigeonholelaw15.EnvelSame", spec := "envelSame", unfollowed := true, recurses := true, apart := false }
def EnvelSameSaid : Prop := envelSameRow.holds Try.pinned (OpenSpec.ofChange envelSameSpec)

/-- ITS FALSE NEIGHBOUR: 'it returns false'. Refute it at one input. -/
def envelSameWrong : ChangeSpec := { name := "envelSame", fn := fun _ => fun
  | [d1, d2] => { results := [.lit (.bool false)], args := [d1, d2] }
  | _ => none }
def EnvelSameWrongFalsely : Prop := envelSameRow.holds Try.pinned (OpenSpec.ofChange envelSameWrong)

/- THE SECOND FORM. 'bulk': how many values and letters a reading holds, each counted each time it is reached (what is shared counts as often as it is met; a slice's spare places count too). A statement '..UptoSaid' is the law's where the arguments, and the package variables that the reading takes, are together of bulk at most 1048576: NARROWER than '..Said'. Prove '..Said' where nothing that the law and all that it calls make is longer than what came in: it says more and counts as full. Else prove '..UptoSaid'. A law counts once. -/
mutual
def uptoBulk {H : Type} : DataW H → Nat
  | .lit (.string bytes) => bytes.length + 1
  | .lit _ => 1
  | .nil => 1
  | .ptr d => uptoBulk d + 1
  | .slice elems spare => uptoBulkAll elems + uptoBulkAll spare + 1
  | .agg parts => uptoBulkAll parts + 1
  | .iface _ d => uptoBulk d + 1
  | .map entries => uptoBulkEntries entries + 1
  | .held _ => 1
def uptoBulkAll {H : Type} : List (DataW H) → Nat
  | [] => 0
  | d :: r => uptoBulk d + uptoBulkAll r
def uptoBulkEntries {H : Type} : List (Lit × DataW H) → Nat
  | [] => 0
  | x :: r => uptoBulkEntry x + uptoBulkEntries r
def uptoBulkEntry {H : Type} : Lit × DataW H → Nat
  | (.string bytes, d) => bytes.length + uptoBulk d + 1
  | (_, d) => uptoBulk d + 1
 end
def uptoSmall : (H : Type) → List (DataW H) → Bool := fun _ ds => decide (uptoBulkAll ds ≤ 1048576)
def OpenSpec.upto (s : _root_.Go.ChangeSpec) : _root_.Go.OpenSpec := { _root_.Go.OpenSpec.ofChange s with cond := some uptoSmall }

/-- 'pigeonholelaw15.EnvelReads', WHERE WHAT IT READS IS OF BULK AT MOST 1048576: true; the input reads as it did. -/
def envelReadsUptoRow : OpenClaim := { program := "ytkbibhlfehamgaa", sum := "2544038a44d7fcdc111ccf5d7a44e31e422bd1e06f55b518b47ff13c9a8a8ed9", func := "pigeonhole/pigeonholelaw15.EnvelReads", spec := "envelReads", unfollowed := true, recurses := true, apart := false, narrowed := true }
def EnvelReadsUptoSaid : Prop := envelReadsUptoRow.holds Try.pinned (OpenSpec.upto envelReadsSpec)

/-- 'pigeonholelaw15.EnvelSteps', WHERE WHAT IT READS IS OF BULK AT MOST 1048576: true; the input reads as it did. -/
def envelStepsUptoRow : OpenClaim := { program := "ytkbibhlfehamgaa", sum := "2544038a44d7fcdc111ccf5d7a44e31e422bd1e06f55b518b47ff13c9a8a8ed9", func := "pigeonhole/pigeonholelaw15.EnvelSteps", spec := "envelSteps", unfollowed := true, recurses := true, apart := false, narrowed := true }
def EnvelStepsUptoSaid : Prop := envelStepsUptoRow.holds Try.pinned (OpenSpec.upto envelStepsSpec)

/-- 'pigeonholelaw15.EnvelSame', WHERE WHAT IT READS IS OF BULK AT MOST 1048576: true; the input reads as it did. -/
def envelSameUptoRow : OpenClaim := { program := "ytkbibhlfehamgaa", sum := "2544038a44d7fcdc111ccf5d7a44e31e422bd1e06f55b518b47ff13c9a8a8ed9", func := "pigeonhole/pigeonholelaw15.EnvelSame", spec := "envelSame", unfollowed := true, recurses := true, apart := false, narrowed := true }
def EnvelSameUptoSaid : Prop := envelSameUptoRow.holds Try.pinned (OpenSpec.upto envelSameSpec)

end Rows
end Go.Proofs.Ytkbibhlfehamgaa

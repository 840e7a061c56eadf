/-
  No cell of these rows narrows 'for every input' (looked for: loops, veiled, ifaces, maps, wideKeys, modest, calm, conditions, laid).
  DERIVED. THE GIVEN ROWS OF THIS SEAT. 3 by the template 'for every input the law returns true; each argument reads behind the call as it read before'; 0 by the template 'total and deterministic' (their statements: YtcleakjjefmmbaaGreatTotals.lean).
  GIVEN WITH THE SEED: the statements are not yours to turn. If you find one false, say at which input.
  Laid BY PROGRAM, IN A SANDBOX (cutbox-rows.mjs): the forced cells as the released guide's own fill.sh prints them over the translation 01e8e9376215d221… (all of the seat's roots in one cut). By AI agents, Wed Nov 11 2026. No macro, syntax, notation, axiom, sorry.
-/
import Derived.Test.YtcleakjjefmmbaaGreatChecked
import GoSem.Claim
import GoSem.ClaimJoined
import GoSem.ClaimMapViews
import Derived.JoinedTies
import Derived.KernelRfl
namespace Go.Proofs.YtcleakjjefmmbaaGreat
/- THE CELL 'sum', in the pinned program and in every row, IS THE sha256 OF THE DUMP (.gsa) THAT YtcleakjjefmmbaaGreatProg.lean LOADS. Nothing in Lean hashes anything: it is a label: what it is worth is what the hold of that sum in a sandbox is worth. -/
noncomputable def Tryz.pinned : Pinned := { name := "ytcleakjjefmmbaagreat", sum := "01e8e9376215d2214fb904f809e69be6618d24774f08f0dbc0465b67db9a2415", checked := Tryz.checked }
namespace Rows
def none {H : Type} : Left H := { results := [], args := [] }

/-- 'pigeonholelaw23.QueueOpens': WHATEVER THE INPUT: true; the input reads as it did. -/
def queueOpensSpec : ChangeSpec := { name := "queueOpens", fn := fun _ => fun
  | [d1, d2] => { results := [.lit (.bool true)], args := [d1, d2] }
  | _ => none }
def queueOpensRow : OpenClaim := { program := "ytcleakjjefmmbaagreat", sum := "01e8e9376215d2214fb904f809e69be6618d24774f08f0dbc0465b67db9a2415", func := "pigeonhole/pigeonholelaw23.QueueOpens", spec := "queueOpens", inPlace := ["internal/bytealg.IndexByteString", "maps.clone", "internal/abi.NoEscape", "internal/bytealg.MakeNoZero"], unfollowed := true, recurses := true, apart := false }
def QueueOpensSaid : Prop := queueOpensRow.holds Tryz.pinned (OpenSpec.ofChange queueOpensSpec)

/-- ITS FALSE NEIGHBOUR: 'it returns false'. Refute it at one input. -/
def queueOpensWrong : ChangeSpec := { name := "queueOpens", fn := fun _ => fun
  | [d1, d2] => { results := [.lit (.bool false)], args := [d1, d2] }
  | _ => none }
def QueueOpensWrongFalsely : Prop := queueOpensRow.holds Tryz.pinned (OpenSpec.ofChange queueOpensWrong)

/-- 'pigeonholelaw23.QueueNumbers': WHATEVER THE INPUT: true; the input reads as it did. -/
def queueNumbersSpec : ChangeSpec := { name := "queueNumbers", fn := fun _ => fun
  | [d1, d2] => { results := [.lit (.bool true)], args := [d1, d2] }
  | _ => none }
def queueNumbersRow : OpenClaim := { program := "ytcleakjjefmmbaagreat", sum := "01e8e9376215d2214fb904f809e69be6618d24774f08f0dbc0465b67db9a2415", func := "pigeonhole/pigeonholelaw23.QueueNumbers", spec := "queueNumbers", inPlace := ["internal/bytealg.IndexByteString", "maps.clone", "internal/abi.NoEscape", "internal/bytealg.MakeNoZero"], unfollowed := true, recurses := true, apart := false }
def QueueNumbersSaid : Prop := queueNumbersRow.holds Tryz.pinned (OpenSpec.ofChange queueNumbersSpec)

/-- ITS FALSE NEIGHBOUR: 'it returns false'. Refute it at one input. -/
def queueNumbersWrong : ChangeSpec := { name := "queueNumbers", fn := fun _ => fun
  | [d1, d2] => { results := [.lit (.bool false)], args := [d1, d2] }
  | _ => none }
def QueueNumbersWrongFalsely : Prop := queueNumbersRow.holds Tryz.pinned (OpenSpec.ofChange queueNumbersWrong)

/-- 'pigeonholelaw23.QueueSure': WHATEVER THE INPUT: true; the input reads as it did. -/
def queueSureSpec : ChangeSpec := { name := "queueSure", fn := fun _ => fun
  | [d1, d2, d3, d4] => { results := [.lit (.bool true)], args := [d1, d2, d3, d4] }
  | _ => none }
def queueSureRow : OpenClaim := { program := "ytcleakjjefmmbaagreat", sum := "01e8e9376215d2214fb904f809e69be6618d24774f08f0dbc0465b67db9a2415", func := "pigeonhole/pigeonholelaw23.QueueSure", spec := "queueSure", inPlace := ["internal/bytealg.IndexByteString", "maps.clone", "internal/abi.NoEscape", "internal/bytealg.MakeNoZero"], unfollowed := true, recurses := true, apart := false }
def QueueSureSaid : Prop := queueSureRow.holds Tryz.pinned (OpenSpec.ofChange queueSureSpec)

/-- ITS FALSE NEIGHBOUR: 'it returns false'. Refute it at one input. -/
def queueSureWrong : ChangeSpec := { name := "queueSure", fn := fun _ => fun
  | [d1, d2, d3, d4] => { results := [.lit (.bool false)], args := [d1, d2, d3, d4] }
  | _ => none }
def QueueSureWrongFalsely : Prop := queueSureRow.holds Tryz.pinned (OpenSpec.ofChange queueSureWrong)

/- THE SECOND FORM. 'bulk': how many values and letters a reading holds, each counted each time it is reached (what is shared counts as often as it is met; a slice's spare places count too). A statement '..UptoSaid' is the law's where the arguments, and the package variables that the reading takes, are together of bulk at most 1048576: NARROWER than '..Said'. Prove '..Said' where nothing that the law and all that it calls make is longer than what came in: it says more and counts as full. Else prove '..UptoSaid'. A law counts once. -/
mutual
def uptoBulk {H : Type} : DataW H → Nat
  | .lit (.string bytes) => bytes.length + 1
  | .lit _ => 1
  | .nil => 1
  | .ptr d => uptoBulk d + 1
  | .slice elems spare => uptoBulkAll elems + uptoBulkAll spare + 1
  | .agg parts => uptoBulkAll parts + 1
  | .iface _ d => uptoBulk d + 1
  | .map entries => uptoBulkEntries entries + 1
  | .held _ => 1
def uptoBulkAll {H : Type} : List (DataW H) → Nat
  | [] => 0
  | d :: r => uptoBulk d + uptoBulkAll r
def uptoBulkEntries {H : Type} : List (Lit × DataW H) → Nat
  | [] => 0
  | x :: r => uptoBulkEntry x + uptoBulkEntries r
def uptoBulkEntry {H : Type} : Lit × DataW H → Nat
  | (.string bytes, d) => bytes.length + uptoBulk d + 1
  | (_, d) => uptoBulk d + 1
 end
def uptoSmall : (H : Type) → List (DataW H) → Bool := fun _ ds => decide (uptoBulkAll ds ≤ 1048576)
def OpenSpec.upto (s : _root_.Go.ChangeSpec) : _root_.Go.OpenSpec := { _root_.Go.OpenSpec.ofChange s with cond := some uptoSmall }

/-- 'pigeonholelaw23.QueueOpens', WHERE WHAT IT READS IS OF BULK AT MOST 1048576: true; the input reads as it did. -/
def queueOpensUptoRow : OpenClaim := { program := "ytcleakjjefmmbaagreat", sum := "01e8e9376215d2214fb904f809e69be6618d24774f08f0dbc0465b67db9a2415", func := "pigeonhole/pigeonholelaw23.QueueOpens", spec := "queueOpens", inPlace := ["internal/bytealg.IndexByteString", "maps.clone", "internal/abi.NoEscape", "internal/bytealg.MakeNoZero"], unfollowed := true, recurses := true, apart := false, narrowed := true }
def QueueOpensUptoSaid : Prop := queueOpensUptoRow.holds Tryz.pinned (OpenSpec.upto queueOpensSpec)

/-- 'pigeonholelaw23.QueueNumbers', WHERE WHAT IT READS IS OF BULK AT MOST 1048576: true; the input reads as it did. -/
def queueNumbersUptoRow : OpenClaim := { program := "ytcleakjjefmmbaagreat", sum := "01e8e9376215d2214fb904f809e69be6618d24774f08f0dbc0465b67db9a2415", func := "pigeonhole/pigeonholelaw23.QueueNumbers", spec := "queueNumbers", inPlace := ["internal/bytealg.IndexByteString", "maps.clone", "internal/abi.NoEscape", "internal/bytealg.MakeNoZero"], unfollowed := true, recurses := true, apart := false, narrowed := true }
def QueueNumbersUptoSaid : Prop := queueNumbersUptoRow.holds Tryz.pinned (OpenSpec.upto queueNumbersSpec)

/-- 'pigeonholelaw23.QueueSure', WHERE WHAT IT READS IS OF BULK AT MOST 1048576: true; the input reads as it did. -/
def queueSureUptoRow : OpenClaim := { program := "ytcleakjjefmmbaagreat", sum := "01e8e9376215d2214fb904f809e69be6618d24774f08f0dbc0465b67db9a2415", func := "pigeonhole/pigeonholelaw23.QueueSure", spec := "queueSure", inPlace := ["internal/bytealg.IndexByteString", "maps.clone", "internal/abi.NoEscape", "internal/bytealg.MakeNoZero"], unfollowed := true, recurses := true, apart := false, narrowed := true }
def QueueSureUptoSaid : Prop := queueSureUptoRow.holds Tryz.pinned (OpenSpec.upto queueSureSpec)

end Rows
end Go.Proofs.YtcleakjjefmmbaaGreat

/-
  No cell of these rows narrows 'for every input' (looked for: loops, veiled, ifaces, maps, wideKeys, modest, calm, conditions, laid).
  DERIVED. THE GIVEN ROWS OF THIS SEAT. 11 by the template 'for every input the law returns true; each argument reads behind the call as it read before'; 0 by the template 'total and deterministic' (their statements: YtohchhgheeolpaaTotals.lean).
  GIVEN WITH THE SEED: the statements are not yours to turn. If you find one false, say at which input.
  Laid BY PROGRAM, IN A SANDBOX (cutbox-rows.mjs): the forced cells as the released guide's own fill.sh prints them over the translation 327d3d1d39f6a1f1… (all of the seat's roots in one cut). By AI agents, Wed Nov 11 2026. No macro, syntax, notation, axiom, sorry.
-/
import Derived.Test.YtohchhgheeolpaaChecked
import GoSem.Claim
import GoSem.ClaimJoined
import GoSem.ClaimMapViews
import Derived.JoinedTies
import Derived.KernelRfl
namespace Go.Proofs.Ytohchhgheeolpaa
/- THE CELL 'sum', in the pinned program and in every row, IS THE sha256 OF THE DUMP (.gsa) THAT YtohchhgheeolpaaProg.lean LOADS. Nothing in Lean hashes anything: it is a label: what it is worth is what the hold of that sum in a sandbox is worth. -/
noncomputable def Try.pinned : Pinned := { name := "ytohchhgheeolpaa", sum := "327d3d1d39f6a1f1866304accc0c2d7eee5bf94c00e236bea69aaed6440c65eb", checked := Try.checked }
namespace Rows
def none {H : Type} : Left H := { results := [], args := [] }

/-- 'pigeonholelaw04.VdiskReads': WHATEVER THE INPUT: true; the input reads as it did. -/
def vdiskReadsSpec : ChangeSpec := { name := "vdiskReads", fn := fun _ => fun
  | [d1, d2, d3, d4] => { results := [.lit (.bool true)], args := [d1, d2, d3, d4] }
  | _ => none }
def vdiskReadsRow : OpenClaim := { program := "ytohchhgheeolpaa", sum := "327d3d1d39f6a1f1866304accc0c2d7eee5bf94c00e236bea69aaed6440c65eb", func := "pigeonhole/pigeonholelaw04.VdiskReads", spec := "vdiskReads", inPlace := ["internal/bytealg.IndexByteString", "maps.clone"], apart := false }
def VdiskReadsSaid : Prop := vdiskReadsRow.holds Try.pinned (OpenSpec.ofChange vdiskReadsSpec)

/-- ITS FALSE NEIGHBOUR: 'it returns false'. Refute it at one input. -/
def vdiskReadsWrong : ChangeSpec := { name := "vdiskReads", fn := fun _ => fun
  | [d1, d2, d3, d4] => { results := [.lit (.bool false)], args := [d1, d2, d3, d4] }
  | _ => none }
def VdiskReadsWrongFalsely : Prop := vdiskReadsRow.holds Try.pinned (OpenSpec.ofChange vdiskReadsWrong)

/-- 'pigeonholelaw04.VdiskSwaps': WHATEVER THE INPUT: true; the input reads as it did. -/
def vdiskSwapsSpec : ChangeSpec := { name := "vdiskSwaps", fn := fun _ => fun
  | [d1, d2, d3, d4, d5] => { results := [.lit (.bool true)], args := [d1, d2, d3, d4, d5] }
  | _ => none }
def vdiskSwapsRow : OpenClaim := { program := "ytohchhgheeolpaa", sum := "327d3d1d39f6a1f1866304accc0c2d7eee5bf94c00e236bea69aaed6440c65eb", func := "pigeonhole/pigeonholelaw04.VdiskSwaps", spec := "vdiskSwaps", inPlace := ["internal/bytealg.IndexByteString", "maps.clone"], apart := false }
def VdiskSwapsSaid : Prop := vdiskSwapsRow.holds Try.pinned (OpenSpec.ofChange vdiskSwapsSpec)

/-- ITS FALSE NEIGHBOUR: 'it returns false'. Refute it at one input. -/
def vdiskSwapsWrong : ChangeSpec := { name := "vdiskSwaps", fn := fun _ => fun
  | [d1, d2, d3, d4, d5] => { results := [.lit (.bool false)], args := [d1, d2, d3, d4, d5] }
  | _ => none }
def VdiskSwapsWrongFalsely : Prop := vdiskSwapsRow.holds Try.pinned (OpenSpec.ofChange vdiskSwapsWrong)

/-- 'pigeonholelaw04.VdiskSure': WHATEVER THE INPUT: true; the input reads as it did. -/
def vdiskSureSpec : ChangeSpec := { name := "vdiskSure", fn := fun _ => fun
  | [d1, d2, d3, d4, d5] => { results := [.lit (.bool true)], args := [d1, d2, d3, d4, d5] }
  | _ => none }
def vdiskSureRow : OpenClaim := { program := "ytohchhgheeolpaa", sum := "327d3d1d39f6a1f1866304accc0c2d7eee5bf94c00e236bea69aaed6440c65eb", func := "pigeonhole/pigeonholelaw04.VdiskSure", spec := "vdiskSure", inPlace := ["internal/bytealg.IndexByteString", "maps.clone"], apart := false }
def VdiskSureSaid : Prop := vdiskSureRow.holds Try.pinned (OpenSpec.ofChange vdiskSureSpec)

/-- ITS FALSE NEIGHBOUR: 'it returns false'. Refute it at one input. -/
def vdiskSureWrong : ChangeSpec := { name := "vdiskSure", fn := fun _ => fun
  | [d1, d2, d3, d4, d5] => { results := [.lit (.bool false)], args := [d1, d2, d3, d4, d5] }
  | _ => none }
def VdiskSureWrongFalsely : Prop := vdiskSureRow.holds Try.pinned (OpenSpec.ofChange vdiskSureWrong)

/-- 'pigeonholelaw16.SafeSure': WHATEVER THE INPUT: true; the input reads as it did. -/
def safeSureSpec : ChangeSpec := { name := "safeSure", fn := fun _ => fun
  | [d1, d2, d3, d4, d5, d6] => { results := [.lit (.bool true)], args := [d1, d2, d3, d4, d5, d6] }
  | _ => none }
def safeSureRow : OpenClaim := { program := "ytohchhgheeolpaa", sum := "327d3d1d39f6a1f1866304accc0c2d7eee5bf94c00e236bea69aaed6440c65eb", func := "pigeonhole/pigeonholelaw16.SafeSure", spec := "safeSure", inPlace := ["internal/bytealg.IndexByteString", "maps.clone"], unfollowed := true, recurses := true, apart := false }
def SafeSureSaid : Prop := safeSureRow.holds Try.pinned (OpenSpec.ofChange safeSureSpec)

/-- ITS FALSE NEIGHBOUR: 'it returns false'. Refute it at one input. -/
def safeSureWrong : ChangeSpec := { name := "safeSure", fn := fun _ => fun
  | [d1, d2, d3, d4, d5, d6] => { results := [.lit (.bool false)], args := [d1, d2, d3, d4, d5, d6] }
  | _ => none }
def SafeSureWrongFalsely : Prop := safeSureRow.holds Try.pinned (OpenSpec.ofChange safeSureWrong)

/-- 'pigeonholelaw16.SafeSwaps': WHATEVER THE INPUT: true; the input reads as it did. -/
def safeSwapsSpec : ChangeSpec := { name := "safeSwaps", fn := fun _ => fun
  | [d1, d2, d3, d4, d5, d6, d7] => { results := [.lit (.bool true)], args := [d1, d2, d3, d4, d5, d6, d7] }
  | _ => none }
def safeSwapsRow : OpenClaim := { program := "ytohchhgheeolpaa", sum := "327d3d1d39f6a1f1866304accc0c2d7eee5bf94c00e236bea69aaed6440c65eb", func := "pigeonhole/pigeonholelaw16.SafeSwaps", spec := "safeSwaps", inPlace := ["internal/bytealg.IndexByteString", "maps.clone"], unfollowed := true, recurses := true, apart := false }
def SafeSwapsSaid : Prop := safeSwapsRow.holds Try.pinned (OpenSpec.ofChange safeSwapsSpec)

/-- ITS FALSE NEIGHBOUR: 'it returns false'. Refute it at one input. -/
def safeSwapsWrong : ChangeSpec := { name := "safeSwaps", fn := fun _ => fun
  | [d1, d2, d3, d4, d5, d6, d7] => { results := [.lit (.bool false)], args := [d1, d2, d3, d4, d5, d6, d7] }
  | _ => none }
def SafeSwapsWrongFalsely : Prop := safeSwapsRow.holds Try.pinned (OpenSpec.ofChange safeSwapsWrong)

/-- 'pigeonholelaw15.EnvelReads': WHATEVER THE INPUT: true; the input reads as it did. -/
def envelReadsSpec : ChangeSpec := { name := "envelReads", fn := fun _ => fun
  | [d] => { results := [.lit (.bool true)], args := [d] }
  | _ => none }
def envelReadsRow : OpenClaim := { program := "ytohchhgheeolpaa", sum := "327d3d1d39f6a1f1866304accc0c2d7eee5bf94c00e236bea69aaed6440c65eb", func := "pigeonhole/pigeonholelaw15.EnvelReads", spec := "envelReads", unfollowed := true, recurses := true, apart := false }
def EnvelReadsSaid : Prop := envelReadsRow.holds Try.pinned (OpenSpec.ofChange envelReadsSpec)

/-- ITS FALSE NEIGHBOUR: 'it returns false'. Refute it at one input. -/
def envelReadsWrong : ChangeSpec := { name := "envelReads", fn := fun _ => fun
  | [d] => { results := [.lit (.bool false)], args := [d] }
  | _ => none }
def EnvelReadsWrongFalsely : Prop := envelReadsRow.holds Try.pinned (OpenSpec.ofChange envelReadsWrong)

/-- 'pigeonholelaw15.EnvelSteps': WHATEVER THE INPUT: true; the input reads as it did. -/
def envelStepsSpec : ChangeSpec := { name := "envelSteps", fn := fun _ => fun
  | [d1, d2, d3, d4] => { results := [.lit (.bool true)], args := [d1, d2, d3, d4] }
  | _ => none }
def envelStepsRow : OpenClaim := { program := "ytohchhgheeolpaa", sum := "327d3d1d39f6a1f1866304accc0c2d7eee5bf94c00e236bea69aaed6440c65eb", func := "pigeonhole/pigeonholelaw15.EnvelSteps", spec := "envelSteps", unfollowed := true, recurses := true, apart := false }
def EnvelStepsSaid : Prop := envelStepsRow.holds Try.pinned (OpenSpec.ofChange envelStepsSpec)

/-- ITS FALSE NEIGHBOUR: 'it returns false'. Refute it at one input. -/
def envelStepsWrong : ChangeSpec := { name := "envelSteps", fn := fun _ => fun
  | [d1, d2, d3, d4] => { results := [.lit (.bool false)], args := [d1, d2, d3, d4] }
  | _ => none }
def EnvelStepsWrongFalsely : Prop := envelStepsRow.holds Try.pinned (OpenSpec.ofChange envelStepsWrong)

/-- 'pigeonholelaw15.EnvelSame': WHATEVER THE INPUT: true; the input reads as it did. -/
def envelSameSpec : ChangeSpec := { name := "envelSame", fn := fun _ => fun
  | [d1, d2] => { results := [.lit (.bool true)], args := [d1, d2] }
  | _ => none }
def envelSameRow : OpenClaim := { program := "ytohchhgheeolpaa", sum := "327d3d1d39f6a1f1866304accc0c2d7eee5bf94c00e236bea69aaed6440c65eb", func := "pigeonhole/pigeonholelaw15.EnvelSame", spec := "envelSame", unfollowed := true, recurses := true, apart := false }
def EnvelSameSaid : Prop := envelSameRow.holds Try.pinned (OpenSpec.ofChange envelSameSpec)

/-- ITS FALSE NEIGHBOUR: 'it returns false'. Refute it at one input. -/
def envelSameWrong : ChangeSpec := { name := "envelSame", fn := fun _ => fun
  | [d1, d2] => { results := [.lit (.bool false)], args := [d1, d2] }
  | _ => none }
def EnvelSameWrongFalsely : Prop := envelSameRow.holds Try.pinned (OpenSpec.ofChange envelSameWrong)

/-- 'pigeonholelaw20.MboxSums': WHATEVER THE INPUT: true; the input reads as it did. -/
def mboxSumsSpec : ChangeSpec := { name := "mboxSums", fn := fun _ => fun
  | [d] => { results := [.lit (.bool true)], args := [d] }
  | _ => none }
def mboxSumsRow : OpenClaim := { program := "ytohchhgheeolpaa", sum := "327d3d1d39f6a1f1866304accc0c2d7eee5bf94c00e236bea69aaed6440c65eb", func := "pigeonhole/pigeonholelaw20.MboxSums", spec := "mboxSums", unfollowed := true, recurses := true, apart := false }
def MboxSumsSaid : Prop := mboxSumsRow.holds Try.pinned (OpenSpec.ofChange mboxSumsSpec)

/-- ITS FALSE NEIGHBOUR: 'it returns false'. Refute it at one input. -/
def mboxSumsWrong : ChangeSpec := { name := "mboxSums", fn := fun _ => fun
  | [d] => { results := [.lit (.bool false)], args := [d] }
  | _ => none }
def MboxSumsWrongFalsely : Prop := mboxSumsRow.holds Try.pinned (OpenSpec.ofChange mboxSumsWrong)

/-- 'pigeonholelaw20.MboxTakes': WHATEVER THE INPUT: true; the input reads as it did. -/
def mboxTakesSpec : ChangeSpec := { name := "mboxTakes", fn := fun _ => fun
  | [d1, d2, d3, d4] => { results := [.lit (.bool true)], args := [d1, d2, d3, d4] }
  | _ => none }
def mboxTakesRow : OpenClaim := { program := "ytohchhgheeolpaa", sum := "327d3d1d39f6a1f1866304accc0c2d7eee5bf94c00e236bea69aaed6440c65eb", func := "pigeonhole/pigeonholelaw20.MboxTakes", spec := "mboxTakes", unfollowed := true, recurses := true, apart := false }
def MboxTakesSaid : Prop := mboxTakesRow.holds Try.pinned (OpenSpec.ofChange mboxTakesSpec)

/-- ITS FALSE NEIGHBOUR: 'it returns false'. Refute it at one input. -/
def mboxTakesWrong : ChangeSpec := { name := "mboxTakes", fn := fun _ => fun
  | [d1, d2, d3, d4] => { results := [.lit (.bool false)], args := [d1, d2, d3, d4] }
  | _ => none }
def MboxTakesWrongFalsely : Prop := mboxTakesRow.holds Try.pinned (OpenSpec.ofChange mboxTakesWrong)

/-- 'pigeonholelaw20.MboxBack': WHATEVER THE INPUT: true; the input reads as it did. -/
def mboxBackSpec : ChangeSpec := { name := "mboxBack", fn := fun _ => fun
  | [d1, d2] => { results := [.lit (.bool true)], args := [d1, d2] }
  | _ => none }
def mboxBackRow : OpenClaim := { program := "ytohchhgheeolpaa", sum := "327d3d1d39f6a1f1866304accc0c2d7eee5bf94c00e236bea69aaed6440c65eb", func := "pigeonhole/pigeonholelaw20.MboxBack", spec := "mboxBack", inPlace := ["maps.clone"], unfollowed := true, recurses := true, apart := false }
def MboxBackSaid : Prop := mboxBackRow.holds Try.pinned (OpenSpec.ofChange mboxBackSpec)

/-- ITS FALSE NEIGHBOUR: 'it returns false'. Refute it at one input. -/
def mboxBackWrong : ChangeSpec := { name := "mboxBack", fn := fun _ => fun
  | [d1, d2] => { results := [.lit (.bool false)], args := [d1, d2] }
  | _ => none }
def MboxBackWrongFalsely : Prop := mboxBackRow.holds Try.pinned (OpenSpec.ofChange mboxBackWrong)

/- THE SECOND FORM. 'bulk': how many values and letters a reading holds, each counted each time it is reached (what is shared counts as often as it is met; a slice's spare places count too). A statement '..UptoSaid' is the law's where the arguments, and the package variables that the reading takes, are together of bulk at most 1048576: NARROWER than '..Said'. Prove '..Said' where nothing that the law and all that it calls make is longer than what came in: it says more and counts as full. Else prove '..UptoSaid'. A law counts once. -/
mutual
def uptoBulk {H : Type} : DataW H → Nat
  | .lit (.string bytes) => bytes.length + 1
  | .lit _ => 1
  | .nil => 1
  | .ptr d => uptoBulk d + 1
  | .slice elems spare => uptoBulkAll elems + uptoBulkAll spare + 1
  | .agg parts => uptoBulkAll parts + 1
  | .iface _ d => uptoBulk d + 1
  | .map entries => uptoBulkEntries entries + 1
  | .held _ => 1
def uptoBulkAll {H : Type} : List (DataW H) → Nat
  | [] => 0
  | d :: r => uptoBulk d + uptoBulkAll r
def uptoBulkEntries {H : Type} : List (Lit × DataW H) → Nat
  | [] => 0
  | x :: r => uptoBulkEntry x + uptoBulkEntries r
def uptoBulkEntry {H : Type} : Lit × DataW H → Nat
  | (.string bytes, d) => bytes.length + uptoBulk d + 1
  | (_, d) => uptoBulk d + 1
 end
def uptoSmall : (H : Type) → List (DataW H) → Bool := fun _ ds => decide (uptoBulkAll ds ≤ 1048576)
def OpenSpec.upto (s : _root_.Go.ChangeSpec) : _root_.Go.OpenSpec := { _root_.Go.OpenSpec.ofChange s with cond := some uptoSmall }

/-- 'pigeonholelaw04.VdiskReads', WHERE WHAT IT READS IS OF BULK AT MOST 1048576: true; the input reads as it did. -/
def vdiskReadsUptoRow : OpenClaim := { program := "ytohchhgheeolpaa", sum := "327d3d1d39f6a1f1866304accc0c2d7eee5bf94c00e236bea69aaed6440c65eb", func := "pigeonhole/pigeonholelaw04.VdiskReads", spec := "vdiskReads", inPlace := ["internal/bytealg.IndexByteString", "maps.clone"], apart := false, narrowed := true }
def VdiskReadsUptoSaid : Prop := vdiskReadsUptoRow.holds Try.pinned (OpenSpec.upto vdiskReadsSpec)

/-- 'pigeonholelaw04.VdiskSwaps', WHERE WHAT IT READS IS OF BULK AT MOST 1048576: true; the input reads as it did. -/
def vdiskSwapsUptoRow : OpenClaim := { program := "ytohchhgheeolpaa", sum := "327d3d1d39f6a1f1866304accc0c2d7eee5bf94c00e236bea69aaed6440c65eb", func := "pigeonhole/pigeonholelaw04.VdiskSwaps", spec := "vdiskSwaps", inPlace := ["internal/bytealg.IndexByteString", "maps.clone"], apart := false, narrowed := true }
def VdiskSwapsUptoSaid : Prop := vdiskSwapsUptoRow.holds Try.pinned (OpenSpec.upto vdiskSwapsSpec)

/-- 'pigeonholelaw04.VdiskSure', WHERE WHAT IT READS IS OF BULK AT MOST 1048576: true; the input reads as it did. -/
def vdiskSureUptoRow : OpenClaim := { program := "ytohchhgheeolpaa", sum := "327d3d1d39f6a1f1866304accc0c2d7eee5bf94c00e236bea69aaed6440c65eb", func := "pigeonhole/pigeonholelaw04.VdiskSure", spec := "vdiskSure", inPlace := ["internal/bytealg.IndexByteString", "maps.clone"], apart := false, narrowed := true }
def VdiskSureUptoSaid : Prop := vdiskSureUptoRow.holds Try.pinned (OpenSpec.upto vdiskSureSpec)

/-- 'pigeonholelaw16.SafeSure', WHERE WHAT IT READS IS OF BULK AT MOST 1048576: true; the input reads as it did. -/
def safeSureUptoRow : OpenClaim := { program := "ytohchhgheeolpaa", sum := "327d3d1d39f6a1f1866304accc0c2d7eee5bf94c00e236bea69aaed6440c65eb", func := "pigeonhole/pigeonholelaw16.SafeSure", spec := "safeSure", inPlace := ["internal/bytealg.IndexByteString", "maps.clone"], unfollowed := true, recurses := true, apart := false, narrowed := true }
def SafeSureUptoSaid : Prop := safeSureUptoRow.holds Try.pinned (OpenSpec.upto safeSureSpec)

/-- 'pigeonholelaw16.SafeSwaps', WHERE WHAT IT READS IS OF BULK AT MOST 1048576: true; the input reads as it did. -/
def safeSwapsUptoRow : OpenClaim := { program := "ytohchhgheeolpaa", sum := "327d3d1d39f6a1f1866304accc0c2d7eee5bf94c00e236bea69aaed6440c65eb", func := "pigeonhole/pigeonholelaw16.SafeSwaps", spec := "safeSwaps", inPlace := ["internal/bytealg.IndexByteString", "maps.clone"], unfollowed := true, recurses := true, apart := false, narrowed := true }
def SafeSwapsUptoSaid : Prop := safeSwapsUptoRow.holds Try.pinned (OpenSpec.upto safeSwapsSpec)

/-- 'pigeonholelaw15.EnvelReads', WHERE WHAT IT READS IS OF BULK AT MOST 1048576: true; the input reads as it did. -/
def envelReadsUptoRow : OpenClaim := { program := "ytohchhgheeolpaa", sum := "327d3d1d39f6a1f1866304accc0c2d7eee5bf94c00e236bea69aaed6440c65eb", func := "pigeonhole/pigeonholelaw15.EnvelReads", spec := "envelReads", unfollowed := true, recurses := true, apart := false, narrowed := true }
def EnvelReadsUptoSaid : Prop := envelReadsUptoRow.holds Try.pinned (OpenSpec.upto envelReadsSpec)

/-- 'pigeonholelaw15.EnvelSteps', WHERE WHAT IT READS IS OF BULK AT MOST 1048576: true; the input reads as it did. -/
def envelStepsUptoRow : OpenClaim := { program := "ytohchhgheeolpaa", sum := "327d3d1d39f6a1f1866304accc0c2d7eee5bf94c00e236bea69aaed6440c65eb", func := "pigeonhole/pigeonholelaw15.EnvelSteps", spec := "envelSteps", unfollowed := true, recurses := true, apart := false, narrowed := true }
def EnvelStepsUptoSaid : Prop := envelStepsUptoRow.holds Try.pinned (OpenSpec.upto envelStepsSpec)

/-- 'pigeonholelaw15.EnvelSame', WHERE WHAT IT READS IS OF BULK AT MOST 1048576: true; the input reads as it did. -/
def envelSameUptoRow : OpenClaim := { program := "ytohchhgheeolpaa", sum := "327d3d1d39f6a1f1866304accc0c2d7eee5bf94c00e236bea69aaed6440c65eb", func := "pigeonhole/pigeonholelaw15.EnvelSame", spec := "envelSame", unfollowed := true, recurses := true, apart := false, narrowed := true }
def EnvelSameUptoSaid : Prop := envelSameUptoRow.holds Try.pinned (OpenSpec.upto envelSameSpec)

/-- 'pigeonholelaw20.MboxSums', WHERE WHAT IT READS IS OF BULK AT MOST 1048576: true; the input reads as it did. -/
def mboxSumsUptoRow : OpenClaim := { program := "ytohchhgheeolpaa", sum := "327d3d1d39f6a1f1866304accc0c2d7eee5bf94c00e236bea69aaed6440c65eb", func := "pigeonhole/pigeonholelaw20.MboxSums", spec := "mboxSums", unfollowed := true, recurses := true, apart := false, narrowed := true }
def MboxSumsUptoSaid : Prop := mboxSumsUptoRow.holds Try.pinned (OpenSpec.upto mboxSumsSpec)

/-- 'pigeonholelaw20.MboxTakes', WHERE WHAT IT READS IS OF BULK AT MOST 1048576: true; the input reads as it did. -/
def mboxTakesUptoRow : OpenClaim := { program := "ytohchhgheeolpaa", sum := "327d3d1d39f6a1f1866304accc0c2d7eee5bf94c00e236bea69aaed6440c65eb", func := "pigeonhole/pigeonholelaw20.MboxTakes", spec := "mboxTakes", unfollowed := true, recurses := true, apart := false, narrowed := true }
def MboxTakesUptoSaid : Prop := mboxTakesUptoRow.holds Try.pinned (OpenSpec.upto mboxTakesSpec)

/-- 'pigeonholelaw20.MboxBack', WHERE WHAT IT READS IS OF BULK AT MOST 1048576: true; the input reads as it did. -/
def mboxBackUptoRow : OpenClaim := { program := "ytohchhgheeolpaa", sum := "327d3d1d39f6a1f1866304accc0c2d7eee5bf94c00e236bea69aaed6440c65eb", func := "pigeonhole/pigeonholelaw20.MboxBack", spec := "mboxBack", inPlace := ["maps.clone"], unfollowed := true, recurses := true, apart := false, narrowed := true }
def MboxBackUptoSaid : Prop := mboxBackUptoRow.holds Try.pinned (OpenSpec.upto mboxBackSpec)

end Rows
end Go.Proofs.Ytohchhgheeolpaa

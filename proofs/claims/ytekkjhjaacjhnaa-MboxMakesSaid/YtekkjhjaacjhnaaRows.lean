/-
  No cell of these rows narrows 'for every input' (looked for: loops, veiled, ifaces, maps, wideKeys, modest, calm, conditions, laid).
  DERIVED. THE GIVEN ROWS OF THIS SEAT. 8 by the template 'for every input the law returns true; each argument reads behind the call as it read before'; 0 by the template 'total and deterministic' (their statements: YtekkjhjaacjhnaaTotals.lean).
  GIVEN WITH THE SEED: the statements are not yours to turn. If you find one false, say at which input.
  Laid BY PROGRAM, IN A SANDBOX (cutbox-rows.mjs): the forced cells as the released guide's own fill.sh prints them over the translation 704ebba8bf7e9f03… (all of the seat's roots in one cut). By AI agents, Wed Nov 11 2026. No macro, syntax, notation, axiom, sorry.
-/
import Derived.Test.YtekkjhjaacjhnaaChecked
import GoSem.Claim
import GoSem.ClaimJoined
import GoSem.ClaimMapViews
import Derived.JoinedTies
import Derived.KernelRfl
namespace Go.Proofs.Ytekkjhjaacjhnaa
/- THE CELL 'sum', in the pinned program and in every row, IS THE sha256 OF THE DUMP (.gsa) THAT YtekkjhjaacjhnaaProg.lean LOADS. Nothing in Lean hashes anything: it is a label: what it is worth is what the hold of that sum in a sandbox is worth. -/
noncomputable def Try.pinned : Pinned := { name := "ytekkjhjaacjhnaa", sum := "704ebba8bf7e9f031e10c3a0386eeee534352d6ff23e77adfcb97b72c02986c2", checked := Try.checked }
namespace Rows
def none {H : Type} : Left H := { results := [], args := [] }

/-- 'pigeonholelaw20.MboxMakes': WHATEVER THE INPUT: true; the input reads as it did. -/
def mboxMakesSpec : ChangeSpec := { name := "mboxMakes", fn := fun _ => fun
  | [d1, d2, d3, d4, d5, d6] => { results := [.lit (.bool true)], args := [d1, d2, d3, d4, d5, d6] }
  | _ => none }
def mboxMakesRow : OpenClaim := { program := "ytekkjhjaacjhnaa", sum := "704ebba8bf7e9f031e10c3a0386eeee534352d6ff23e77adfcb97b72c02986c2", func := "pigeonhole/pigeonholelaw20.MboxMakes", spec := "mboxMakes", apart := false }
def MboxMakesSaid : Prop := mboxMakesRow.holds Try.pinned (OpenSpec.ofChange mboxMakesSpec)

/-- ITS FALSE NEIGHBOUR: 'it returns false'. Refute it at one input. -/
def mboxMakesWrong : ChangeSpec := { name := "mboxMakes", fn := fun _ => fun
  | [d1, d2, d3, d4, d5, d6] => { results := [.lit (.bool false)], args := [d1, d2, d3, d4, d5, d6] }
  | _ => none }
def MboxMakesWrongFalsely : Prop := mboxMakesRow.holds Try.pinned (OpenSpec.ofChange mboxMakesWrong)

/-- 'pigeonholelaw04.VdiskReads': WHATEVER THE INPUT: true; the input reads as it did. -/
def vdiskReadsSpec : ChangeSpec := { name := "vdiskReads", fn := fun _ => fun
  | [d1, d2, d3, d4] => { results := [.lit (.bool true)], args := [d1, d2, d3, d4] }
  | _ => none }
def vdiskReadsRow : OpenClaim := { program := "ytekkjhjaacjhnaa", sum := "704ebba8bf7e9f031e10c3a0386eeee534352d6ff23e77adfcb97b72c02986c2", func := "pigeonhole/pigeonholelaw04.VdiskReads", spec := "vdiskReads", inPlace := ["internal/bytealg.IndexByteString", "maps.clone"], apart := false }
def VdiskReadsSaid : Prop := vdiskReadsRow.holds Try.pinned (OpenSpec.ofChange vdiskReadsSpec)

/-- ITS FALSE NEIGHBOUR: 'it returns false'. Refute it at one input. -/
def vdiskReadsWrong : ChangeSpec := { name := "vdiskReads", fn := fun _ => fun
  | [d1, d2, d3, d4] => { results := [.lit (.bool false)], args := [d1, d2, d3, d4] }
  | _ => none }
def VdiskReadsWrongFalsely : Prop := vdiskReadsRow.holds Try.pinned (OpenSpec.ofChange vdiskReadsWrong)

/-- 'pigeonholelaw04.VdiskSwaps': WHATEVER THE INPUT: true; the input reads as it did. -/
def vdiskSwapsSpec : ChangeSpec := { name := "vdiskSwaps", fn := fun _ => fun
  | [d1, d2, d3, d4, d5] => { results := [.lit (.bool true)], args := [d1, d2, d3, d4, d5] }
  | _ => none }
def vdiskSwapsRow : OpenClaim := { program := "ytekkjhjaacjhnaa", sum := "704ebba8bf7e9f031e10c3a0386eeee534352d6ff23e77adfcb97b72c02986c2", func := "pigeonhole/pigeonholelaw04.VdiskSwaps", spec := "vdiskSwaps", inPlace := ["internal/bytealg.IndexByteString", "maps.clone"], apart := false }
def VdiskSwapsSaid : Prop := vdiskSwapsRow.holds Try.pinned (OpenSpec.ofChange vdiskSwapsSpec)

/-- ITS FALSE NEIGHBOUR: 'it returns false'. Refute it at one input. -/
def vdiskSwapsWrong : ChangeSpec := { name := "vdiskSwaps", fn := fun _ => fun
  | [d1, d2, d3, d4, d5] => { results := [.lit (.bool false)], args := [d1, d2, d3, d4, d5] }
  | _ => none }
def VdiskSwapsWrongFalsely : Prop := vdiskSwapsRow.holds Try.pinned (OpenSpec.ofChange vdiskSwapsWrong)

/-- 'pigeonholelaw04.VdiskSure': WHATEVER THE INPUT: true; the input reads as it did. -/
def vdiskSureSpec : ChangeSpec := { name := "vdiskSure", fn := fun _ => fun
  | [d1, d2, d3, d4, d5] => { results := [.lit (.bool true)], args := [d1, d2, d3, d4, d5] }
  | _ => none }
def vdiskSureRow : OpenClaim := { program := "ytekkjhjaacjhnaa", sum := "704ebba8bf7e9f031e10c3a0386eeee534352d6ff23e77adfcb97b72c02986c2", func := "pigeonhole/pigeonholelaw04.VdiskSure", spec := "vdiskSure", inPlace := ["internal/bytealg.IndexByteString", "maps.clone"], apart := false }
def VdiskSureSaid : Prop := vdiskSureRow.holds Try.pinned (OpenSpec.ofChange vdiskSureSpec)

/-- ITS FALSE NEIGHBOUR: 'it returns false'. Refute it at one input. -/
def vdiskSureWrong : ChangeSpec := { name := "vdiskSure", fn := fun _ => fun
  | [d1, d2, d3, d4, d5] => { results := [.lit (.bool false)], args := [d1, d2, d3, d4, d5] }
  | _ => none }
def VdiskSureWrongFalsely : Prop := vdiskSureRow.holds Try.pinned (OpenSpec.ofChange vdiskSureWrong)

/-- 'pigeonholelaw14.RecordWrites': WHATEVER THE INPUT: true; the input reads as it did. -/
def recordWritesSpec : ChangeSpec := { name := "recordWrites", fn := fun _ => fun
  | [d] => { results := [.lit (.bool true)], args := [d] }
  | _ => none }
def recordWritesRow : OpenClaim := { program := "ytekkjhjaacjhnaa", sum := "704ebba8bf7e9f031e10c3a0386eeee534352d6ff23e77adfcb97b72c02986c2", func := "pigeonhole/pigeonholelaw14.RecordWrites", spec := "recordWrites", unfollowed := true, recurses := true, apart := false }
def RecordWritesSaid : Prop := recordWritesRow.holds Try.pinned (OpenSpec.ofChange recordWritesSpec)

/-- ITS FALSE NEIGHBOUR: 'it returns false'. Refute it at one input. -/
def recordWritesWrong : ChangeSpec := { name := "recordWrites", fn := fun _ => fun
  | [d] => { results := [.lit (.bool false)], args := [d] }
  | _ => none }
def RecordWritesWrongFalsely : Prop := recordWritesRow.holds Try.pinned (OpenSpec.ofChange recordWritesWrong)

/-- 'pigeonholelaw14.RecordReads': WHATEVER THE INPUT: true; the input reads as it did. -/
def recordReadsSpec : ChangeSpec := { name := "recordReads", fn := fun _ => fun
  | [d1, d2] => { results := [.lit (.bool true)], args := [d1, d2] }
  | _ => none }
def recordReadsRow : OpenClaim := { program := "ytekkjhjaacjhnaa", sum := "704ebba8bf7e9f031e10c3a0386eeee534352d6ff23e77adfcb97b72c02986c2", func := "pigeonhole/pigeonholelaw14.RecordReads", spec := "recordReads", unfollowed := true, recurses := true, apart := false }
def RecordReadsSaid : Prop := recordReadsRow.holds Try.pinned (OpenSpec.ofChange recordReadsSpec)

/-- ITS FALSE NEIGHBOUR: 'it returns false'. Refute it at one input. -/
def recordReadsWrong : ChangeSpec := { name := "recordReads", fn := fun _ => fun
  | [d1, d2] => { results := [.lit (.bool false)], args := [d1, d2] }
  | _ => none }
def RecordReadsWrongFalsely : Prop := recordReadsRow.holds Try.pinned (OpenSpec.ofChange recordReadsWrong)

/-- 'pigeonholelaw14.RecordScans': WHATEVER THE INPUT: true; the input reads as it did. -/
def recordScansSpec : ChangeSpec := { name := "recordScans", fn := fun _ => fun
  | [d] => { results := [.lit (.bool true)], args := [d] }
  | _ => none }
def recordScansRow : OpenClaim := { program := "ytekkjhjaacjhnaa", sum := "704ebba8bf7e9f031e10c3a0386eeee534352d6ff23e77adfcb97b72c02986c2", func := "pigeonhole/pigeonholelaw14.RecordScans", spec := "recordScans", unfollowed := true, recurses := true, apart := false }
def RecordScansSaid : Prop := recordScansRow.holds Try.pinned (OpenSpec.ofChange recordScansSpec)

/-- ITS FALSE NEIGHBOUR: 'it returns false'. Refute it at one input. -/
def recordScansWrong : ChangeSpec := { name := "recordScans", fn := fun _ => fun
  | [d] => { results := [.lit (.bool false)], args := [d] }
  | _ => none }
def RecordScansWrongFalsely : Prop := recordScansRow.holds Try.pinned (OpenSpec.ofChange recordScansWrong)

/-- 'pigeonholelaw14.RecordBack': WHATEVER THE INPUT: true; the input reads as it did. -/
def recordBackSpec : ChangeSpec := { name := "recordBack", fn := fun _ => fun
  | [d1, d2, d3] => { results := [.lit (.bool true)], args := [d1, d2, d3] }
  | _ => none }
def recordBackRow : OpenClaim := { program := "ytekkjhjaacjhnaa", sum := "704ebba8bf7e9f031e10c3a0386eeee534352d6ff23e77adfcb97b72c02986c2", func := "pigeonhole/pigeonholelaw14.RecordBack", spec := "recordBack", unfollowed := true, recurses := true, apart := false }
def RecordBackSaid : Prop := recordBackRow.holds Try.pinned (OpenSpec.ofChange recordBackSpec)

/-- ITS FALSE NEIGHBOUR: 'it returns false'. Refute it at one input. -/
def recordBackWrong : ChangeSpec := { name := "recordBack", fn := fun _ => fun
  | [d1, d2, d3] => { results := [.lit (.bool false)], args := [d1, d2, d3] }
  | _ => none }
def RecordBackWrongFalsely : Prop := recordBackRow.holds Try.pinned (OpenSpec.ofChange recordBackWrong)

/- THE SECOND FORM. 'bulk': how many values and letters a reading holds, each counted each time it is reached (what is shared counts as often as it is met; a slice's spare places count too). A statement '..UptoSaid' is the law's where the arguments, and the package variables that the reading takes, are together of bulk at most 1048576: NARROWER than '..Said'. Prove '..Said' where nothing that the law and all that it calls make is longer than what came in: it says more and counts as full. Else prove '..UptoSaid'. A law counts once. -/
mutual
def uptoBulk {H : Type} : DataW H → Nat
  | .lit (.string bytes) => bytes.length + 1
  | .lit _ => 1
  | .nil => 1
  | .ptr d => uptoBulk d + 1
  | .slice elems spare => uptoBulkAll elems + uptoBulkAll spare + 1
  | .agg parts => uptoBulkAll parts + 1
  | .iface _ d => uptoBulk d + 1
  | .map entries => uptoBulkEntries entries + 1
  | .held _ => 1
def uptoBulkAll {H : Type} : List (DataW H) → Nat
  | [] => 0
  | d :: r => uptoBulk d + uptoBulkAll r
def uptoBulkEntries {H : Type} : List (Lit × DataW H) → Nat
  | [] => 0
  | x :: r => uptoBulkEntry x + uptoBulkEntries r
def uptoBulkEntry {H : Type} : Lit × DataW H → Nat
  | (.string bytes, d) => bytes.length + uptoBulk d + 1
  | (_, d) => uptoBulk d + 1
 end
def uptoSmall : (H : Type) → List (DataW H) → Bool := fun _ ds => decide (uptoBulkAll ds ≤ 1048576)
def OpenSpec.upto (s : _root_.Go.ChangeSpec) : _root_.Go.OpenSpec := { _root_.Go.OpenSpec.ofChange s with cond := some uptoSmall }

/-- 'pigeonholelaw20.MboxMakes', WHERE WHAT IT READS IS OF BULK AT MOST 1048576: true; the input reads as it did. -/
def mboxMakesUptoRow : OpenClaim := { program := "ytekkjhjaacjhnaa", sum := "704ebba8bf7e9f031e10c3a0386eeee534352d6ff23e77adfcb97b72c02986c2", func := "pigeonhole/pigeonholelaw20.MboxMakes", spec := "mboxMakes", apart := false, narrowed := true }
def MboxMakesUptoSaid : Prop := mboxMakesUptoRow.holds Try.pinned (OpenSpec.upto mboxMakesSpec)

/-- 'pigeonholelaw04.VdiskReads', WHERE WHAT IT READS IS OF BULK AT MOST 1048576: true; the input reads as it did. -/
def vdiskReadsUptoRow : OpenClaim := { program := "ytekkjhjaacjhnaa", sum := "704ebba8bf7e9f031e10c3a0386eeee534352d6ff23e77adfcb97b72c02986c2", func := "pigeonhole/pigeonholelaw04.VdiskReads", spec := "vdiskReads", inPlace := ["internal/bytealg.IndexByteString", "maps.clone"], apart := false, narrowed := true }
def VdiskReadsUptoSaid : Prop := vdiskReadsUptoRow.holds Try.pinned (OpenSpec.upto vdiskReadsSpec)

/-- 'pigeonholelaw04.VdiskSwaps', WHERE WHAT IT READS IS OF BULK AT MOST 1048576: true; the input reads as it did. -/
def vdiskSwapsUptoRow : OpenClaim := { program := "ytekkjhjaacjhnaa", sum := "704ebba8bf7e9f031e10c3a0386eeee534352d6ff23e77adfcb97b72c02986c2", func := "pigeonhole/pigeonholelaw04.VdiskSwaps", spec := "vdiskSwaps", inPlace := ["internal/bytealg.IndexByteString", "maps.clone"], apart := false, narrowed := true }
def VdiskSwapsUptoSaid : Prop := vdiskSwapsUptoRow.holds Try.pinned (OpenSpec.upto vdiskSwapsSpec)

/-- 'pigeonholelaw04.VdiskSure', WHERE WHAT IT READS IS OF BULK AT MOST 1048576: true; the input reads as it did. -/
def vdiskSureUptoRow : OpenClaim := { program := "ytekkjhjaacjhnaa", sum := "704ebba8bf7e9f031e10c3a0386eeee534352d6ff23e77adfcb97b72c02986c2", func := "pigeonhole/pigeonholelaw04.VdiskSure", spec := "vdiskSure", inPlace := ["internal/bytealg.IndexByteString", "maps.clone"], apart := false, narrowed := true }
def VdiskSureUptoSaid : Prop := vdiskSureUptoRow.holds Try.pinned (OpenSpec.upto vdiskSureSpec)

/-- 'pigeonholelaw14.RecordWrites', WHERE WHAT IT READS IS OF BULK AT MOST 1048576: true; the input reads as it did. -/
def recordWritesUptoRow : OpenClaim := { program := "ytekkjhjaacjhnaa", sum := "704ebba8bf7e9f031e10c3a0386eeee534352d6ff23e77adfcb97b72c02986c2", func := "pigeonhole/pigeonholelaw14.RecordWrites", spec := "recordWrites", unfollowed := true, recurses := true, apart := false, narrowed := true }
def RecordWritesUptoSaid : Prop := recordWritesUptoRow.holds Try.pinned (OpenSpec.upto recordWritesSpec)

/-- 'pigeonholelaw14.RecordReads', WHERE WHAT IT READS IS OF BULK AT MOST 1048576: true; the input reads as it did. -/
def recordReadsUptoRow : OpenClaim := { program := "ytekkjhjaacjhnaa", sum := "704ebba8bf7e9f031e10c3a0386eeee534352d6ff23e77adfcb97b72c02986c2", func := "pigeonhole/pigeonholelaw14.RecordReads", spec := "recordReads", unfollowed := true, recurses := true, apart := false, narrowed := true }
def RecordReadsUptoSaid : Prop := recordReadsUptoRow.holds Try.pinned (OpenSpec.upto recordReadsSpec)

/-- 'pigeonholelaw14.RecordScans', WHERE WHAT IT READS IS OF BULK AT MOST 1048576: true; the input reads as it did. -/
def recordScansUptoRow : OpenClaim := { program := "ytekkjhjaacjhnaa", sum := "704ebba8bf7e9f031e10c3a0386eeee534352d6ff23e77adfcb97b72c02986c2", func := "pigeonhole/pigeonholelaw14.RecordScans", spec := "recordScans", unfollowed := true, recurses := true, apart := false, narrowed := true }
def RecordScansUptoSaid : Prop := recordScansUptoRow.holds Try.pinned (OpenSpec.upto recordScansSpec)

/-- 'pigeonholelaw14.RecordBack', WHERE WHAT IT READS IS OF BULK AT MOST 1048576: true; the input reads as it did. -/
def recordBackUptoRow : OpenClaim := { program := "ytekkjhjaacjhnaa", sum := "704ebba8bf7e9f031e10c3a0386eeee534352d6ff23e77adfcb97b72c02986c2", func := "pigeonhole/pigeonholelaw14.RecordBack", spec := "recordBack", unfollowed := true, recurses := true, apart := false, narrowed := true }
def RecordBackUptoSaid : Prop := recordBackUptoRow.holds Try.pinned (OpenSpec.upto recordBackSpec)

end Rows
end Go.Proofs.Ytekkjhjaacjhnaa

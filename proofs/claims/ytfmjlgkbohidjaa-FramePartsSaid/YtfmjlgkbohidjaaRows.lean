/-
  No cell of these rows narrows 'for every input' (looked for: loops, veiled, ifaces, maps, wideKeys, modest, calm, conditions, laid).
  DERIVED. THE GIVEN ROWS OF THIS SEAT. 12 by the template 'for every input the law returns true; each argument reads behind the call as it read before'; 0 by the template 'total and deterministic' (their statements: YtfmjlgkbohidjaaTotals.lean).
  GIVEN WITH THE SEED: the statements are not yours to turn. If you find one false, say at which input.
  Laid BY PROGRAM, IN A SANDBOX (cutbox-rows.mjs): the forced cells as the released guide's own fill.sh prints them over the translation 2a8402251c0ba5d6… (all of the seat's roots in one cut). By AI agents, Wed Nov 11 2026. No macro, syntax, notation, axiom, sorry.
-/
import Derived.Test.YtfmjlgkbohidjaaChecked
import GoSem.Claim
import GoSem.ClaimJoined
import GoSem.ClaimMapViews
import Derived.JoinedTies
import Derived.KernelRfl
namespace Go.Proofs.Ytfmjlgkbohidjaa
/- THE CELL 'sum', in the pinned program and in every row, IS THE sha256 OF THE DUMP (.gsa) THAT YtfmjlgkbohidjaaProg.lean LOADS. Nothing in Lean hashes anything: it is a label: what it is worth is what the hold of that sum in a sandbox is worth. -/
noncomputable def Try.pinned : Pinned := { name := "ytfmjlgkbohidjaa", sum := "2a8402251c0ba5d6f2d6b272e87dbd259416793b3a193a04b0ea05b5a60bbced", checked := Try.checked }
namespace Rows
def none {H : Type} : Left H := { results := [], args := [] }

/-- 'pigeonholelaw01.OctetSources': WHATEVER THE INPUT: true; the input reads as it did. -/
def octetSourcesSpec : ChangeSpec := { name := "octetSources", fn := fun _ => fun
  | [d1, d2] => { results := [.lit (.bool true)], args := [d1, d2] }
  | _ => none }
def octetSourcesRow : OpenClaim := { program := "ytfmjlgkbohidjaa", sum := "2a8402251c0ba5d6f2d6b272e87dbd259416793b3a193a04b0ea05b5a60bbced", func := "pigeonhole/pigeonholelaw01.OctetSources", spec := "octetSources", apart := false }
def OctetSourcesSaid : Prop := octetSourcesRow.holds Try.pinned (OpenSpec.ofChange octetSourcesSpec)

/-- ITS FALSE NEIGHBOUR: 'it returns false'. Refute it at one input. -/
def octetSourcesWrong : ChangeSpec := { name := "octetSources", fn := fun _ => fun
  | [d1, d2] => { results := [.lit (.bool false)], args := [d1, d2] }
  | _ => none }
def OctetSourcesWrongFalsely : Prop := octetSourcesRow.holds Try.pinned (OpenSpec.ofChange octetSourcesWrong)

/-- 'pigeonholelaw01.OctetNumbers': WHATEVER THE INPUT: true; the input reads as it did. -/
def octetNumbersSpec : ChangeSpec := { name := "octetNumbers", fn := fun _ => fun
  | [d1, d2, d3, d4, d5] => { results := [.lit (.bool true)], args := [d1, d2, d3, d4, d5] }
  | _ => none }
def octetNumbersRow : OpenClaim := { program := "ytfmjlgkbohidjaa", sum := "2a8402251c0ba5d6f2d6b272e87dbd259416793b3a193a04b0ea05b5a60bbced", func := "pigeonhole/pigeonholelaw01.OctetNumbers", spec := "octetNumbers", apart := false }
def OctetNumbersSaid : Prop := octetNumbersRow.holds Try.pinned (OpenSpec.ofChange octetNumbersSpec)

/-- ITS FALSE NEIGHBOUR: 'it returns false'. Refute it at one input. -/
def octetNumbersWrong : ChangeSpec := { name := "octetNumbers", fn := fun _ => fun
  | [d1, d2, d3, d4, d5] => { results := [.lit (.bool false)], args := [d1, d2, d3, d4, d5] }
  | _ => none }
def OctetNumbersWrongFalsely : Prop := octetNumbersRow.holds Try.pinned (OpenSpec.ofChange octetNumbersWrong)

/-- 'pigeonholelaw01.OctetTurns': WHATEVER THE INPUT: true; the input reads as it did. -/
def octetTurnsSpec : ChangeSpec := { name := "octetTurns", fn := fun _ => fun
  | [d1, d2, d3] => { results := [.lit (.bool true)], args := [d1, d2, d3] }
  | _ => none }
def octetTurnsRow : OpenClaim := { program := "ytfmjlgkbohidjaa", sum := "2a8402251c0ba5d6f2d6b272e87dbd259416793b3a193a04b0ea05b5a60bbced", func := "pigeonhole/pigeonholelaw01.OctetTurns", spec := "octetTurns", apart := false }
def OctetTurnsSaid : Prop := octetTurnsRow.holds Try.pinned (OpenSpec.ofChange octetTurnsSpec)

/-- ITS FALSE NEIGHBOUR: 'it returns false'. Refute it at one input. -/
def octetTurnsWrong : ChangeSpec := { name := "octetTurns", fn := fun _ => fun
  | [d1, d2, d3] => { results := [.lit (.bool false)], args := [d1, d2, d3] }
  | _ => none }
def OctetTurnsWrongFalsely : Prop := octetTurnsRow.holds Try.pinned (OpenSpec.ofChange octetTurnsWrong)

/-- 'pigeonholelaw01.OctetSinks': WHATEVER THE INPUT: true; the input reads as it did. -/
def octetSinksSpec : ChangeSpec := { name := "octetSinks", fn := fun _ => fun
  | [d] => { results := [.lit (.bool true)], args := [d] }
  | _ => none }
def octetSinksRow : OpenClaim := { program := "ytfmjlgkbohidjaa", sum := "2a8402251c0ba5d6f2d6b272e87dbd259416793b3a193a04b0ea05b5a60bbced", func := "pigeonhole/pigeonholelaw01.OctetSinks", spec := "octetSinks", apart := false }
def OctetSinksSaid : Prop := octetSinksRow.holds Try.pinned (OpenSpec.ofChange octetSinksSpec)

/-- ITS FALSE NEIGHBOUR: 'it returns false'. Refute it at one input. -/
def octetSinksWrong : ChangeSpec := { name := "octetSinks", fn := fun _ => fun
  | [d] => { results := [.lit (.bool false)], args := [d] }
  | _ => none }
def OctetSinksWrongFalsely : Prop := octetSinksRow.holds Try.pinned (OpenSpec.ofChange octetSinksWrong)

/-- 'pigeonholelaw01.OctetBack': WHATEVER THE INPUT: true; the input reads as it did. -/
def octetBackSpec : ChangeSpec := { name := "octetBack", fn := fun _ => fun
  | [d] => { results := [.lit (.bool true)], args := [d] }
  | _ => none }
def octetBackRow : OpenClaim := { program := "ytfmjlgkbohidjaa", sum := "2a8402251c0ba5d6f2d6b272e87dbd259416793b3a193a04b0ea05b5a60bbced", func := "pigeonhole/pigeonholelaw01.OctetBack", spec := "octetBack", apart := false }
def OctetBackSaid : Prop := octetBackRow.holds Try.pinned (OpenSpec.ofChange octetBackSpec)

/-- ITS FALSE NEIGHBOUR: 'it returns false'. Refute it at one input. -/
def octetBackWrong : ChangeSpec := { name := "octetBack", fn := fun _ => fun
  | [d] => { results := [.lit (.bool false)], args := [d] }
  | _ => none }
def OctetBackWrongFalsely : Prop := octetBackRow.holds Try.pinned (OpenSpec.ofChange octetBackWrong)

/-- 'pigeonholelaw03.FrameWraps': WHATEVER THE INPUT: true; the input reads as it did. -/
def frameWrapsSpec : ChangeSpec := { name := "frameWraps", fn := fun _ => fun
  | [d1, d2] => { results := [.lit (.bool true)], args := [d1, d2] }
  | _ => none }
def frameWrapsRow : OpenClaim := { program := "ytfmjlgkbohidjaa", sum := "2a8402251c0ba5d6f2d6b272e87dbd259416793b3a193a04b0ea05b5a60bbced", func := "pigeonhole/pigeonholelaw03.FrameWraps", spec := "frameWraps", unfollowed := true, recurses := true, apart := false }
def FrameWrapsSaid : Prop := frameWrapsRow.holds Try.pinned (OpenSpec.ofChange frameWrapsSpec)

/-- ITS FALSE NEIGHBOUR: 'it returns false'. Refute it at one input. -/
def frameWrapsWrong : ChangeSpec := { name := "frameWraps", fn := fun _ => fun
  | [d1, d2] => { results := [.lit (.bool false)], args := [d1, d2] }
  | _ => none }
def FrameWrapsWrongFalsely : Prop := frameWrapsRow.holds Try.pinned (OpenSpec.ofChange frameWrapsWrong)

/-- 'pigeonholelaw03.FrameMost': WHATEVER THE INPUT: true; the input reads as it did. -/
def frameMostSpec : ChangeSpec := { name := "frameMost", fn := fun _ => fun
  | [d] => { results := [.lit (.bool true)], args := [d] }
  | _ => none }
def frameMostRow : OpenClaim := { program := "ytfmjlgkbohidjaa", sum := "2a8402251c0ba5d6f2d6b272e87dbd259416793b3a193a04b0ea05b5a60bbced", func := "pigeonhole/pigeonholelaw03.FrameMost", spec := "frameMost", unfollowed := true, recurses := true, apart := false }
def FrameMostSaid : Prop := frameMostRow.holds Try.pinned (OpenSpec.ofChange frameMostSpec)

/-- ITS FALSE NEIGHBOUR: 'it returns false'. Refute it at one input. -/
def frameMostWrong : ChangeSpec := { name := "frameMost", fn := fun _ => fun
  | [d] => { results := [.lit (.bool false)], args := [d] }
  | _ => none }
def FrameMostWrongFalsely : Prop := frameMostRow.holds Try.pinned (OpenSpec.ofChange frameMostWrong)

/-- 'pigeonholelaw03.FrameScans': WHATEVER THE INPUT: true; the input reads as it did. -/
def frameScansSpec : ChangeSpec := { name := "frameScans", fn := fun _ => fun
  | [d] => { results := [.lit (.bool true)], args := [d] }
  | _ => none }
def frameScansRow : OpenClaim := { program := "ytfmjlgkbohidjaa", sum := "2a8402251c0ba5d6f2d6b272e87dbd259416793b3a193a04b0ea05b5a60bbced", func := "pigeonhole/pigeonholelaw03.FrameScans", spec := "frameScans", unfollowed := true, recurses := true, apart := false }
def FrameScansSaid : Prop := frameScansRow.holds Try.pinned (OpenSpec.ofChange frameScansSpec)

/-- ITS FALSE NEIGHBOUR: 'it returns false'. Refute it at one input. -/
def frameScansWrong : ChangeSpec := { name := "frameScans", fn := fun _ => fun
  | [d] => { results := [.lit (.bool false)], args := [d] }
  | _ => none }
def FrameScansWrongFalsely : Prop := frameScansRow.holds Try.pinned (OpenSpec.ofChange frameScansWrong)

/-- 'pigeonholelaw03.FrameParts': WHATEVER THE INPUT: true; the input reads as it did. -/
def framePartsSpec : ChangeSpec := { name := "frameParts", fn := fun _ => fun
  | [d] => { results := [.lit (.bool true)], args := [d] }
  | _ => none }
def framePartsRow : OpenClaim := { program := "ytfmjlgkbohidjaa", sum := "2a8402251c0ba5d6f2d6b272e87dbd259416793b3a193a04b0ea05b5a60bbced", func := "pigeonhole/pigeonholelaw03.FrameParts", spec := "frameParts", unfollowed := true, recurses := true, apart := false }
def FramePartsSaid : Prop := framePartsRow.holds Try.pinned (OpenSpec.ofChange framePartsSpec)

/-- ITS FALSE NEIGHBOUR: 'it returns false'. Refute it at one input. -/
def framePartsWrong : ChangeSpec := { name := "frameParts", fn := fun _ => fun
  | [d] => { results := [.lit (.bool false)], args := [d] }
  | _ => none }
def FramePartsWrongFalsely : Prop := framePartsRow.holds Try.pinned (OpenSpec.ofChange framePartsWrong)

/-- 'pigeonholelaw03.FrameTorn': WHATEVER THE INPUT: true; the input reads as it did. -/
def frameTornSpec : ChangeSpec := { name := "frameTorn", fn := fun _ => fun
  | [d1, d2, d3, d4, d5] => { results := [.lit (.bool true)], args := [d1, d2, d3, d4, d5] }
  | _ => none }
def frameTornRow : OpenClaim := { program := "ytfmjlgkbohidjaa", sum := "2a8402251c0ba5d6f2d6b272e87dbd259416793b3a193a04b0ea05b5a60bbced", func := "pigeonhole/pigeonholelaw03.FrameTorn", spec := "frameTorn", unfollowed := true, recurses := true, apart := false }
def FrameTornSaid : Prop := frameTornRow.holds Try.pinned (OpenSpec.ofChange frameTornSpec)

/-- ITS FALSE NEIGHBOUR: 'it returns false'. Refute it at one input. -/
def frameTornWrong : ChangeSpec := { name := "frameTorn", fn := fun _ => fun
  | [d1, d2, d3, d4, d5] => { results := [.lit (.bool false)], args := [d1, d2, d3, d4, d5] }
  | _ => none }
def FrameTornWrongFalsely : Prop := frameTornRow.holds Try.pinned (OpenSpec.ofChange frameTornWrong)

/-- 'pigeonholelaw03.FrameReads': WHATEVER THE INPUT: true; the input reads as it did. -/
def frameReadsSpec : ChangeSpec := { name := "frameReads", fn := fun _ => fun
  | [d1, d2] => { results := [.lit (.bool true)], args := [d1, d2] }
  | _ => none }
def frameReadsRow : OpenClaim := { program := "ytfmjlgkbohidjaa", sum := "2a8402251c0ba5d6f2d6b272e87dbd259416793b3a193a04b0ea05b5a60bbced", func := "pigeonhole/pigeonholelaw03.FrameReads", spec := "frameReads", unfollowed := true, recurses := true, apart := false }
def FrameReadsSaid : Prop := frameReadsRow.holds Try.pinned (OpenSpec.ofChange frameReadsSpec)

/-- ITS FALSE NEIGHBOUR: 'it returns false'. Refute it at one input. -/
def frameReadsWrong : ChangeSpec := { name := "frameReads", fn := fun _ => fun
  | [d1, d2] => { results := [.lit (.bool false)], args := [d1, d2] }
  | _ => none }
def FrameReadsWrongFalsely : Prop := frameReadsRow.holds Try.pinned (OpenSpec.ofChange frameReadsWrong)

/-- 'pigeonholelaw03.FrameBack': WHATEVER THE INPUT: true; the input reads as it did. -/
def frameBackSpec : ChangeSpec := { name := "frameBack", fn := fun _ => fun
  | [d1, d2, d3] => { results := [.lit (.bool true)], args := [d1, d2, d3] }
  | _ => none }
def frameBackRow : OpenClaim := { program := "ytfmjlgkbohidjaa", sum := "2a8402251c0ba5d6f2d6b272e87dbd259416793b3a193a04b0ea05b5a60bbced", func := "pigeonhole/pigeonholelaw03.FrameBack", spec := "frameBack", unfollowed := true, recurses := true, apart := false }
def FrameBackSaid : Prop := frameBackRow.holds Try.pinned (OpenSpec.ofChange frameBackSpec)

/-- ITS FALSE NEIGHBOUR: 'it returns false'. Refute it at one input. -/
def frameBackWrong : ChangeSpec := { name := "frameBack", fn := fun _ => fun
  | [d1, d2, d3] => { results := [.lit (.bool false)], args := [d1, d2, d3] }
  | _ => none }
def FrameBackWrongFalsely : Prop := frameBackRow.holds Try.pinned (OpenSpec.ofChange frameBackWrong)

/- THE SECOND FORM. 'bulk': how many values and letters a reading holds, each counted each time it is reached (what is shared counts as often as it is met; a slice's spare places count too). A statement '..UptoSaid' is the law's where the arguments, and the package variables that the reading takes, are together of bulk at most 1048576: NARROWER than '..Said'. Prove '..Said' where nothing that the law and all that it calls make is longer than what came in: it says more and counts as full. Else prove '..UptoSaid'. A law counts once. -/
mutual
def uptoBulk {H : Type} : DataW H → Nat
  | .lit (.string bytes) => bytes.length + 1
  | .lit _ => 1
  | .nil => 1
  | .ptr d => uptoBulk d + 1
  | .slice elems spare => uptoBulkAll elems + uptoBulkAll spare + 1
  | .agg parts => uptoBulkAll parts + 1
  | .iface _ d => uptoBulk d + 1
  | .map entries => uptoBulkEntries entries + 1
  | .held _ => 1
def uptoBulkAll {H : Type} : List (DataW H) → Nat
  | [] => 0
  | d :: r => uptoBulk d + uptoBulkAll r
def uptoBulkEntries {H : Type} : List (Lit × DataW H) → Nat
  | [] => 0
  | x :: r => uptoBulkEntry x + uptoBulkEntries r
def uptoBulkEntry {H : Type} : Lit × DataW H → Nat
  | (.string bytes, d) => bytes.length + uptoBulk d + 1
  | (_, d) => uptoBulk d + 1
 end
def uptoSmall : (H : Type) → List (DataW H) → Bool := fun _ ds => decide (uptoBulkAll ds ≤ 1048576)
def OpenSpec.upto (s : _root_.Go.ChangeSpec) : _root_.Go.OpenSpec := { _root_.Go.OpenSpec.ofChange s with cond := some uptoSmall }

/-- 'pigeonholelaw01.OctetSources', WHERE WHAT IT READS IS OF BULK AT MOST 1048576: true; the input reads as it did. -/
def octetSourcesUptoRow : OpenClaim := { program := "ytfmjlgkbohidjaa", sum := "2a8402251c0ba5d6f2d6b272e87dbd259416793b3a193a04b0ea05b5a60bbced", func := "pigeonhole/pigeonholelaw01.OctetSources", spec := "octetSources", apart := false, narrowed := true }
def OctetSourcesUptoSaid : Prop := octetSourcesUptoRow.holds Try.pinned (OpenSpec.upto octetSourcesSpec)

/-- 'pigeonholelaw01.OctetNumbers', WHERE WHAT IT READS IS OF BULK AT MOST 1048576: true; the input reads as it did. -/
def octetNumbersUptoRow : OpenClaim := { program := "ytfmjlgkbohidjaa", sum := "2a8402251c0ba5d6f2d6b272e87dbd259416793b3a193a04b0ea05b5a60bbced", func := "pigeonhole/pigeonholelaw01.OctetNumbers", spec := "octetNumbers", apart := false, narrowed := true }
def OctetNumbersUptoSaid : Prop := octetNumbersUptoRow.holds Try.pinned (OpenSpec.upto octetNumbersSpec)

/-- 'pigeonholelaw01.OctetTurns', WHERE WHAT IT READS IS OF BULK AT MOST 1048576: true; the input reads as it did. -/
def octetTurnsUptoRow : OpenClaim := { program := "ytfmjlgkbohidjaa", sum := "2a8402251c0ba5d6f2d6b272e87dbd259416793b3a193a04b0ea05b5a60bbced", func := "pigeonhole/pigeonholelaw01.OctetTurns", spec := "octetTurns", apart := false, narrowed := true }
def OctetTurnsUptoSaid : Prop := octetTurnsUptoRow.holds Try.pinned (OpenSpec.upto octetTurnsSpec)

/-- 'pigeonholelaw01.OctetSinks', WHERE WHAT IT READS IS OF BULK AT MOST 1048576: true; the input reads as it did. -/
def octetSinksUptoRow : OpenClaim := { program := "ytfmjlgkbohidjaa", sum := "2a8402251c0ba5d6f2d6b272e87dbd259416793b3a193a04b0ea05b5a60bbced", func := "pigeonhole/pigeonholelaw01.OctetSinks", spec := "octetSinks", apart := false, narrowed := true }
def OctetSinksUptoSaid : Prop := octetSinksUptoRow.holds Try.pinned (OpenSpec.upto octetSinksSpec)

/-- 'pigeonholelaw01.OctetBack', WHERE WHAT IT READS IS OF BULK AT MOST 1048576: true; the input reads as it did. -/
def octetBackUptoRow : OpenClaim := { program := "ytfmjlgkbohidjaa", sum := "2a8402251c0ba5d6f2d6b272e87dbd259416793b3a193a04b0ea05b5a60bbced", func := "pigeonhole/pigeonholelaw01.OctetBack", spec := "octetBack", apart := false, narrowed := true }
def OctetBackUptoSaid : Prop := octetBackUptoRow.holds Try.pinned (OpenSpec.upto octetBackSpec)

/-- 'pigeonholelaw03.FrameWraps', WHERE WHAT IT READS IS OF BULK AT MOST 1048576: true; the input reads as it did. -/
def frameWrapsUptoRow : OpenClaim := { program := "ytfmjlgkbohidjaa", sum := "2a8402251c0ba5d6f2d6b272e87dbd259416793b3a193a04b0ea05b5a60bbced", func := "pigeonhole/pigeonholelaw03.FrameWraps", spec := "frameWraps", unfollowed := true, recurses := true, apart := false, narrowed := true }
def FrameWrapsUptoSaid : Prop := frameWrapsUptoRow.holds Try.pinned (OpenSpec.upto frameWrapsSpec)

/-- 'pigeonholelaw03.FrameMost', WHERE WHAT IT READS IS OF BULK AT MOST 1048576: true; the input reads as it did. -/
def frameMostUptoRow : OpenClaim := { program := "ytfmjlgkbohidjaa", sum := "2a8402251c0ba5d6f2d6b272e87dbd259416793b3a193a04b0ea05b5a60bbced", func := "pigeonhole/pigeonholelaw03.FrameMost", spec := "frameMost", unfollowed := true, recurses := true, apart := false, narrowed := true }
def FrameMostUptoSaid : Prop := frameMostUptoRow.holds Try.pinned (OpenSpec.upto frameMostSpec)

/-- 'pigeonholelaw03.FrameScans', WHERE WHAT IT READS IS OF BULK AT MOST 1048576: true; the input reads as it did. -/
def frameScansUptoRow : OpenClaim := { program := "ytfmjlgkbohidjaa", sum := "2a8402251c0ba5d6f2d6b272e87dbd259416793b3a193a04b0ea05b5a60bbced", func := "pigeonhole/pigeonholelaw03.FrameScans", spec := "frameScans", unfollowed := true, recurses := true, apart := false, narrowed := true }
def FrameScansUptoSaid : Prop := frameScansUptoRow.holds Try.pinned (OpenSpec.upto frameScansSpec)

/-- 'pigeonholelaw03.FrameParts', WHERE WHAT IT READS IS OF BULK AT MOST 1048576: true; the input reads as it did. -/
def framePartsUptoRow : OpenClaim := { program := "ytfmjlgkbohidjaa", sum := "2a8402251c0ba5d6f2d6b272e87dbd259416793b3a193a04b0ea05b5a60bbced", func := "pigeonhole/pigeonholelaw03.FrameParts", spec := "frameParts", unfollowed := true, recurses := true, apart := false, narrowed := true }
def FramePartsUptoSaid : Prop := framePartsUptoRow.holds Try.pinned (OpenSpec.upto framePartsSpec)

/-- 'pigeonholelaw03.FrameTorn', WHERE WHAT IT READS IS OF BULK AT MOST 1048576: true; the input reads as it did. -/
def frameTornUptoRow : OpenClaim := { program := "ytfmjlgkbohidjaa", sum := "2a8402251c0ba5d6f2d6b272e87dbd259416793b3a193a04b0ea05b5a60bbced", func := "pigeonhole/pigeonholelaw03.FrameTorn", spec := "frameTorn", unfollowed := true, recurses := true, apart := false, narrowed := true }
def FrameTornUptoSaid : Prop := frameTornUptoRow.holds Try.pinned (OpenSpec.upto frameTornSpec)

/-- 'pigeonholelaw03.FrameReads', WHERE WHAT IT READS IS OF BULK AT MOST 1048576: true; the input reads as it did. -/
def frameReadsUptoRow : OpenClaim := { program := "ytfmjlgkbohidjaa", sum := "2a8402251c0ba5d6f2d6b272e87dbd259416793b3a193a04b0ea05b5a60bbced", func := "pigeonhole/pigeonholelaw03.FrameReads", spec := "frameReads", unfollowed := true, recurses := true, apart := false, narrowed := true }
def FrameReadsUptoSaid : Prop := frameReadsUptoRow.holds Try.pinned (OpenSpec.upto frameReadsSpec)

/-- 'pigeonholelaw03.FrameBack', WHERE WHAT IT READS IS OF BULK AT MOST 1048576: true; the input reads as it did. -/
def frameBackUptoRow : OpenClaim := { program := "ytfmjlgkbohidjaa", sum := "2a8402251c0ba5d6f2d6b272e87dbd259416793b3a193a04b0ea05b5a60bbced", func := "pigeonhole/pigeonholelaw03.FrameBack", spec := "frameBack", unfollowed := true, recurses := true, apart := false, narrowed := true }
def FrameBackUptoSaid : Prop := frameBackUptoRow.holds Try.pinned (OpenSpec.upto frameBackSpec)

end Rows
end Go.Proofs.Ytfmjlgkbohidjaa

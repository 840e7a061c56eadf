/-
  No cell of these rows narrows 'for every input' (looked for: loops, veiled, ifaces, maps, wideKeys, modest, calm, conditions, laid).
  DERIVED. THE GIVEN ROWS OF THIS SEAT. 4 by the template 'for every input the law returns true; each argument reads behind the call as it read before'; 0 by the template 'total and deterministic' (their statements: YtklbemkafdccgaaGreatTotals.lean).
  GIVEN WITH THE SEED: the statements are not yours to turn. If you find one false, say at which input.
  Laid BY PROGRAM, IN A SANDBOX (cutbox-rows.mjs): the forced cells as the released guide's own fill.sh prints them over the translation 94e50a199560c229… (all of the seat's roots in one cut). By AI agents, Wed Nov 11 2026. No macro, syntax, notation, axiom, sorry.
-/
import Derived.Test.YtklbemkafdccgaaGreatChecked
import GoSem.Claim
import GoSem.ClaimJoined
import GoSem.ClaimMapViews
import Derived.JoinedTies
import Derived.KernelRfl
namespace Go.Proofs.YtklbemkafdccgaaGreat
/- THE CELL 'sum', in the pinned program and in every row, IS THE sha256 OF THE DUMP (.gsa) THAT YtklbemkafdccgaaGreatProg.lean LOADS. Nothing in Lean hashes anything: it is a label: what it is worth is what the hold of that sum in a sandbox is worth. -/
noncomputable def Tryz.pinned : Pinned := { name := "ytklbemkafdccgaagreat", sum := "94e50a199560c22908c4dba84adeaed3fc6a8e44192cd72241e0c3af30ccc5ed", checked := Tryz.checked }
namespace Rows
def none {H : Type} : Left H := { results := [], args := [] }

/-- 'pigeonholelaw13.UsersPlays': WHATEVER THE INPUT: true; the input reads as it did. -/
def usersPlaysSpec : ChangeSpec := { name := "usersPlays", fn := fun _ => fun
  | [d1, d2, d3, d4] => { results := [.lit (.bool true)], args := [d1, d2, d3, d4] }
  | _ => none }
def usersPlaysRow : OpenClaim := { program := "ytklbemkafdccgaagreat", sum := "94e50a199560c22908c4dba84adeaed3fc6a8e44192cd72241e0c3af30ccc5ed", func := "pigeonhole/pigeonholelaw13.UsersPlays", spec := "usersPlays", unfollowed := true, recurses := true, plainKeys := false, apart := false }
def UsersPlaysSaid : Prop := usersPlaysRow.holds Tryz.pinned (OpenSpec.ofChange usersPlaysSpec)

/-- ITS FALSE NEIGHBOUR: 'it returns false'. Refute it at one input. -/
def usersPlaysWrong : ChangeSpec := { name := "usersPlays", fn := fun _ => fun
  | [d1, d2, d3, d4] => { results := [.lit (.bool false)], args := [d1, d2, d3, d4] }
  | _ => none }
def UsersPlaysWrongFalsely : Prop := usersPlaysRow.holds Tryz.pinned (OpenSpec.ofChange usersPlaysWrong)

/-- 'pigeonholelaw13.UsersBack': WHATEVER THE INPUT: true; the input reads as it did. -/
def usersBackSpec : ChangeSpec := { name := "usersBack", fn := fun _ => fun
  | [d1, d2, d3, d4] => { results := [.lit (.bool true)], args := [d1, d2, d3, d4] }
  | _ => none }
def usersBackRow : OpenClaim := { program := "ytklbemkafdccgaagreat", sum := "94e50a199560c22908c4dba84adeaed3fc6a8e44192cd72241e0c3af30ccc5ed", func := "pigeonhole/pigeonholelaw13.UsersBack", spec := "usersBack", inPlace := ["maps.clone"], unfollowed := true, recurses := true, plainKeys := false, apart := false }
def UsersBackSaid : Prop := usersBackRow.holds Tryz.pinned (OpenSpec.ofChange usersBackSpec)

/-- ITS FALSE NEIGHBOUR: 'it returns false'. Refute it at one input. -/
def usersBackWrong : ChangeSpec := { name := "usersBack", fn := fun _ => fun
  | [d1, d2, d3, d4] => { results := [.lit (.bool false)], args := [d1, d2, d3, d4] }
  | _ => none }
def UsersBackWrongFalsely : Prop := usersBackRow.holds Tryz.pinned (OpenSpec.ofChange usersBackWrong)

/-- 'pigeonholelaw19.BodiesOnce': WHATEVER THE INPUT: true; the input reads as it did. -/
def bodiesOnceSpec : ChangeSpec := { name := "bodiesOnce", fn := fun _ => fun
  | [d] => { results := [.lit (.bool true)], args := [d] }
  | _ => none }
def bodiesOnceRow : OpenClaim := { program := "ytklbemkafdccgaagreat", sum := "94e50a199560c22908c4dba84adeaed3fc6a8e44192cd72241e0c3af30ccc5ed", func := "pigeonhole/pigeonholelaw19.BodiesOnce", spec := "bodiesOnce", inPlace := ["internal/bytealg.IndexByteString", "maps.clone"], unfollowed := true, recurses := true, plainKeys := false, apart := false }
def BodiesOnceSaid : Prop := bodiesOnceRow.holds Tryz.pinned (OpenSpec.ofChange bodiesOnceSpec)

/-- ITS FALSE NEIGHBOUR: 'it returns false'. Refute it at one input. -/
def bodiesOnceWrong : ChangeSpec := { name := "bodiesOnce", fn := fun _ => fun
  | [d] => { results := [.lit (.bool false)], args := [d] }
  | _ => none }
def BodiesOnceWrongFalsely : Prop := bodiesOnceRow.holds Tryz.pinned (OpenSpec.ofChange bodiesOnceWrong)

/-- 'pigeonholelaw19.BodiesKeeps': WHATEVER THE INPUT: true; the input reads as it did. -/
def bodiesKeepsSpec : ChangeSpec := { name := "bodiesKeeps", fn := fun _ => fun
  | [d1, d2] => { results := [.lit (.bool true)], args := [d1, d2] }
  | _ => none }
def bodiesKeepsRow : OpenClaim := { program := "ytklbemkafdccgaagreat", sum := "94e50a199560c22908c4dba84adeaed3fc6a8e44192cd72241e0c3af30ccc5ed", func := "pigeonhole/pigeonholelaw19.BodiesKeeps", spec := "bodiesKeeps", inPlace := ["internal/bytealg.IndexByteString", "maps.clone"], unfollowed := true, recurses := true, plainKeys := false, apart := false }
def BodiesKeepsSaid : Prop := bodiesKeepsRow.holds Tryz.pinned (OpenSpec.ofChange bodiesKeepsSpec)

/-- ITS FALSE NEIGHBOUR: 'it returns false'. Refute it at one input. -/
def bodiesKeepsWrong : ChangeSpec := { name := "bodiesKeeps", fn := fun _ => fun
  | [d1, d2] => { results := [.lit (.bool false)], args := [d1, d2] }
  | _ => none }
def BodiesKeepsWrongFalsely : Prop := bodiesKeepsRow.holds Tryz.pinned (OpenSpec.ofChange bodiesKeepsWrong)

/- THE SECOND FORM. 'bulk': how many values and letters a reading holds, each counted each time it is reached (what is shared counts as often as it is met; a slice's spare places count too). A statement '..UptoSaid' is the law's where the arguments, and the package variables that the reading takes, are together of bulk at most 1048576: NARROWER than '..Said'. Prove '..Said' where nothing that the law and all that it calls make is longer than what came in: it says more and counts as full. Else prove '..UptoSaid'. A law counts once. -/
mutual
def uptoBulk {H : Type} : DataW H → Nat
  | .lit (.string bytes) => bytes.length + 1
  | .lit _ => 1
  | .nil => 1
  | .ptr d => uptoBulk d + 1
  | .slice elems spare => uptoBulkAll elems + uptoBulkAll spare + 1
  | .agg parts => uptoBulkAll parts + 1
  | .iface _ d => uptoBulk d + 1
  | .map entries => uptoBulkEntries entries + 1
  | .held _ => 1
def uptoBulkAll {H : Type} : List (DataW H) → Nat
  | [] => 0
  | d :: r => uptoBulk d + uptoBulkAll r
def uptoBulkEntries {H : Type} : List (Lit × DataW H) → Nat
  | [] => 0
  | x :: r => uptoBulkEntry x + uptoBulkEntries r
def uptoBulkEntry {H : Type} : Lit × DataW H → Nat
  | (.string bytes, d) => bytes.length + uptoBulk d + 1
  | (_, d) => uptoBulk d + 1
 end
def uptoSmall : (H : Type) → List (DataW H) → Bool := fun _ ds => decide (uptoBulkAll ds ≤ 1048576)
def OpenSpec.upto (s : _root_.Go.ChangeSpec) : _root_.Go.OpenSpec := { _root_.Go.OpenSpec.ofChange s with cond := some uptoSmall }

/-- 'pigeonholelaw13.UsersPlays', WHERE WHAT IT READS IS OF BULK AT MOST 1048576: true; the input reads as it did. -/
def usersPlaysUptoRow : OpenClaim := { program := "ytklbemkafdccgaagreat", sum := "94e50a199560c22908c4dba84adeaed3fc6a8e44192cd72241e0c3af30ccc5ed", func := "pigeonhole/pigeonholelaw13.UsersPlays", spec := "usersPlays", unfollowed := true, recurses := true, plainKeys := false, apart := false, narrowed := true }
def UsersPlaysUptoSaid : Prop := usersPlaysUptoRow.holds Tryz.pinned (OpenSpec.upto usersPlaysSpec)

/-- 'pigeonholelaw13.UsersBack', WHERE WHAT IT READS IS OF BULK AT MOST 1048576: true; the input reads as it did. -/
def usersBackUptoRow : OpenClaim := { program := "ytklbemkafdccgaagreat", sum := "94e50a199560c22908c4dba84adeaed3fc6a8e44192cd72241e0c3af30ccc5ed", func := "pigeonhole/pigeonholelaw13.UsersBack", spec := "usersBack", inPlace := ["maps.clone"], unfollowed := true, recurses := true, plainKeys := false, apart := false, narrowed := true }
def UsersBackUptoSaid : Prop := usersBackUptoRow.holds Tryz.pinned (OpenSpec.upto usersBackSpec)

/-- 'pigeonholelaw19.BodiesOnce', WHERE WHAT IT READS IS OF BULK AT MOST 1048576: true; the input reads as it did. -/
def bodiesOnceUptoRow : OpenClaim := { program := "ytklbemkafdccgaagreat", sum := "94e50a199560c22908c4dba84adeaed3fc6a8e44192cd72241e0c3af30ccc5ed", func := "pigeonhole/pigeonholelaw19.BodiesOnce", spec := "bodiesOnce", inPlace := ["internal/bytealg.IndexByteString", "maps.clone"], unfollowed := true, recurses := true, plainKeys := false, apart := false, narrowed := true }
def BodiesOnceUptoSaid : Prop := bodiesOnceUptoRow.holds Tryz.pinned (OpenSpec.upto bodiesOnceSpec)

/-- 'pigeonholelaw19.BodiesKeeps', WHERE WHAT IT READS IS OF BULK AT MOST 1048576: true; the input reads as it did. -/
def bodiesKeepsUptoRow : OpenClaim := { program := "ytklbemkafdccgaagreat", sum := "94e50a199560c22908c4dba84adeaed3fc6a8e44192cd72241e0c3af30ccc5ed", func := "pigeonhole/pigeonholelaw19.BodiesKeeps", spec := "bodiesKeeps", inPlace := ["internal/bytealg.IndexByteString", "maps.clone"], unfollowed := true, recurses := true, plainKeys := false, apart := false, narrowed := true }
def BodiesKeepsUptoSaid : Prop := bodiesKeepsUptoRow.holds Tryz.pinned (OpenSpec.upto bodiesKeepsSpec)

end Rows
end Go.Proofs.YtklbemkafdccgaaGreat

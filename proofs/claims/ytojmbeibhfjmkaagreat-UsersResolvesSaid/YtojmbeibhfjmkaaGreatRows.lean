/-
  No cell of these rows narrows 'for every input' (looked for: loops, veiled, ifaces, maps, wideKeys, modest, calm, conditions, laid).
  DERIVED. THE GIVEN ROWS OF THIS SEAT. 8 by the template 'for every input the law returns true; each argument reads behind the call as it read before'; 0 by the template 'total and deterministic' (their statements: YtojmbeibhfjmkaaGreatTotals.lean).
  GIVEN WITH THE SEED: the statements are not yours to turn. If you find one false, say at which input.
  Laid BY PROGRAM, IN A SANDBOX (cutbox-rows.mjs): the forced cells as the released guide's own fill.sh prints them over the translation b0507887a4475147… (all of the seat's roots in one cut). By AI agents, Wed Nov 11 2026. No macro, syntax, notation, axiom, sorry.
-/
import Derived.Test.YtojmbeibhfjmkaaGreatChecked
import GoSem.Claim
import GoSem.ClaimJoined
import GoSem.ClaimMapViews
import Derived.JoinedTies
import Derived.KernelRfl
namespace Go.Proofs.YtojmbeibhfjmkaaGreat
/- THE CELL 'sum', in the pinned program and in every row, IS THE sha256 OF THE DUMP (.gsa) THAT YtojmbeibhfjmkaaGreatProg.lean LOADS. Nothing in Lean hashes anything: it is a label: what it is worth is what the hold of that sum in a sandbox is worth. -/
noncomputable def Tryz.pinned : Pinned := { name := "ytojmbeibhfjmkaagreat", sum := "b0507887a4475147782d04afbea24bb2580c18a350173312aa0de330b9326e8c", checked := Tryz.checked }
namespace Rows
def none {H : Type} : Left H := { results := [], args := [] }

/-- 'pigeonholelaw13.UsersResolves': WHATEVER THE INPUT: true; the input reads as it did. -/
def usersResolvesSpec : ChangeSpec := { name := "usersResolves", fn := fun _ => fun
  | [d1, d2, d3] => { results := [.lit (.bool true)], args := [d1, d2, d3] }
  | _ => none }
def usersResolvesRow : OpenClaim := { program := "ytojmbeibhfjmkaagreat", sum := "b0507887a4475147782d04afbea24bb2580c18a350173312aa0de330b9326e8c", func := "pigeonhole/pigeonholelaw13.UsersResolves", spec := "usersResolves", unfollowed := true, recurses := true, plainKeys := false, apart := false }
def UsersResolvesSaid : Prop := usersResolvesRow.holds Tryz.pinned (OpenSpec.ofChange usersResolvesSpec)

/-- ITS FALSE NEIGHBOUR: 'it returns false'. Refute it at one input. -/
def usersResolvesWrong : ChangeSpec := { name := "usersResolves", fn := fun _ => fun
  | [d1, d2, d3] => { results := [.lit (.bool false)], args := [d1, d2, d3] }
  | _ => none }
def UsersResolvesWrongFalsely : Prop := usersResolvesRow.holds Tryz.pinned (OpenSpec.ofChange usersResolvesWrong)

/-- 'pigeonholelaw13.UsersPlays': WHATEVER THE INPUT: true; the input reads as it did. -/
def usersPlaysSpec : ChangeSpec := { name := "usersPlays", fn := fun _ => fun
  | [d1, d2, d3, d4] => { results := [.lit (.bool true)], args := [d1, d2, d3, d4] }
  | _ => none }
def usersPlaysRow : OpenClaim := { program := "ytojmbeibhfjmkaagreat", sum := "b0507887a4475147782d04afbea24bb2580c18a350173312aa0de330b9326e8c", func := "pigeonhole/pigeonholelaw13.UsersPlays", spec := "usersPlays", unfollowed := true, recurses := true, plainKeys := false, apart := false }
def UsersPlaysSaid : Prop := usersPlaysRow.holds Tryz.pinned (OpenSpec.ofChange usersPlaysSpec)

/-- ITS FALSE NEIGHBOUR: 'it returns false'. Refute it at one input. -/
def usersPlaysWrong : ChangeSpec := { name := "usersPlays", fn := fun _ => fun
  | [d1, d2, d3, d4] => { results := [.lit (.bool false)], args := [d1, d2, d3, d4] }
  | _ => none }
def UsersPlaysWrongFalsely : Prop := usersPlaysRow.holds Tryz.pinned (OpenSpec.ofChange usersPlaysWrong)

/-- 'pigeonholelaw13.UsersBack': WHATEVER THE INPUT: true; the input reads as it did. -/
def usersBackSpec : ChangeSpec := { name := "usersBack", fn := fun _ => fun
  | [d1, d2, d3, d4] => { results := [.lit (.bool true)], args := [d1, d2, d3, d4] }
  | _ => none }
def usersBackRow : OpenClaim := { program := "ytojmbeibhfjmkaagreat", sum := "b0507887a4475147782d04afbea24bb2580c18a350173312aa0de330b9326e8c", func := "pigeonhole/pigeonholelaw13.UsersBack", spec := "usersBack", inPlace := ["maps.clone"], unfollowed := true, recurses := true, plainKeys := false, apart := false }
def UsersBackSaid : Prop := usersBackRow.holds Tryz.pinned (OpenSpec.ofChange usersBackSpec)

/-- ITS FALSE NEIGHBOUR: 'it returns false'. Refute it at one input. -/
def usersBackWrong : ChangeSpec := { name := "usersBack", fn := fun _ => fun
  | [d1, d2, d3, d4] => { results := [.lit (.bool false)], args := [d1, d2, d3, d4] }
  | _ => none }
def UsersBackWrongFalsely : Prop := usersBackRow.holds Tryz.pinned (OpenSpec.ofChange usersBackWrong)

/-- 'pigeonholelaw19.BodiesOnce': WHATEVER THE INPUT: true; the input reads as it did. -/
def bodiesOnceSpec : ChangeSpec := { name := "bodiesOnce", fn := fun _ => fun
  | [d] => { results := [.lit (.bool true)], args := [d] }
  | _ => none }
def bodiesOnceRow : OpenClaim := { program := "ytojmbeibhfjmkaagreat", sum := "b0507887a4475147782d04afbea24bb2580c18a350173312aa0de330b9326e8c", func := "pigeonhole/pigeonholelaw19.BodiesOnce", spec := "bodiesOnce", inPlace := ["internal/bytealg.IndexByteString", "maps.clone"], unfollowed := true, recurses := true, plainKeys := false, apart := false }
def BodiesOnceSaid : Prop := bodiesOnceRow.holds Tryz.pinned (OpenSpec.ofChange bodiesOnceSpec)

/-- ITS FALSE NEIGHBOUR: 'it returns false'. Refute it at one input. -/
def bodiesOnceWrong : ChangeSpec := { name := "bodiesOnce", fn := fun _ => fun
  | [d] => { results := [.lit (.bool false)], args := [d] }
  | _ => none }
def BodiesOnceWrongFalsely : Prop := bodiesOnceRow.holds Tryz.pinned (OpenSpec.ofChange bodiesOnceWrong)

/-- 'pigeonholelaw19.BodiesKeeps': WHATEVER THE INPUT: true; the input reads as it did. -/
def bodiesKeepsSpec : ChangeSpec := { name := "bodiesKeeps", fn := fun _ => fun
  | [d1, d2] => { results := [.lit (.bool true)], args := [d1, d2] }
  | _ => none }
def bodiesKeepsRow : OpenClaim := { program := "ytojmbeibhfjmkaagreat", sum := "b0507887a4475147782d04afbea24bb2580c18a350173312aa0de330b9326e8c", func := "pigeonhole/pigeonholelaw19.BodiesKeeps", spec := "bodiesKeeps", inPlace := ["internal/bytealg.IndexByteString", "maps.clone"], unfollowed := true, recurses := true, plainKeys := false, apart := false }
def BodiesKeepsSaid : Prop := bodiesKeepsRow.holds Tryz.pinned (OpenSpec.ofChange bodiesKeepsSpec)

/-- ITS FALSE NEIGHBOUR: 'it returns false'. Refute it at one input. -/
def bodiesKeepsWrong : ChangeSpec := { name := "bodiesKeeps", fn := fun _ => fun
  | [d1, d2] => { results := [.lit (.bool false)], args := [d1, d2] }
  | _ => none }
def BodiesKeepsWrongFalsely : Prop := bodiesKeepsRow.holds Tryz.pinned (OpenSpec.ofChange bodiesKeepsWrong)

/-- 'pigeonholelaw23.QueueOpens': WHATEVER THE INPUT: true; the input reads as it did. -/
def queueOpensSpec : ChangeSpec := { name := "queueOpens", fn := fun _ => fun
  | [d1, d2] => { results := [.lit (.bool true)], args := [d1, d2] }
  | _ => none }
def queueOpensRow : OpenClaim := { program := "ytojmbeibhfjmkaagreat", sum := "b0507887a4475147782d04afbea24bb2580c18a350173312aa0de330b9326e8c", func := "pigeonhole/pigeonholelaw23.QueueOpens", spec := "queueOpens", inPlace := ["internal/bytealg.IndexByteString", "maps.clone", "internal/abi.NoEscape", "internal/bytealg.MakeNoZero"], unfollowed := true, recurses := true, plainKeys := false, apart := false }
def QueueOpensSaid : Prop := queueOpensRow.holds Tryz.pinned (OpenSpec.ofChange queueOpensSpec)

/-- ITS FALSE NEIGHBOUR: 'it returns false'. Refute it at one input. -/
def queueOpensWrong : ChangeSpec := { name := "queueOpens", fn := fun _ => fun
  | [d1, d2] => { results := [.lit (.bool false)], args := [d1, d2] }
  | _ => none }
def QueueOpensWrongFalsely : Prop := queueOpensRow.holds Tryz.pinned (OpenSpec.ofChange queueOpensWrong)

/-- 'pigeonholelaw23.QueueNumbers': WHATEVER THE INPUT: true; the input reads as it did. -/
def queueNumbersSpec : ChangeSpec := { name := "queueNumbers", fn := fun _ => fun
  | [d1, d2] => { results := [.lit (.bool true)], args := [d1, d2] }
  | _ => none }
def queueNumbersRow : OpenClaim := { program := "ytojmbeibhfjmkaagreat", sum := "b0507887a4475147782d04afbea24bb2580c18a350173312aa0de330b9326e8c", func := "pigeonhole/pigeonholelaw23.QueueNumbers", spec := "queueNumbers", inPlace := ["internal/bytealg.IndexByteString", "maps.clone", "internal/abi.NoEscape", "internal/bytealg.MakeNoZero"], unfollowed := true, recurses := true, plainKeys := false, apart := false }
def QueueNumbersSaid : Prop := queueNumbersRow.holds Tryz.pinned (OpenSpec.ofChange queueNumbersSpec)

/-- ITS FALSE NEIGHBOUR: 'it returns false'. Refute it at one input. -/
def queueNumbersWrong : ChangeSpec := { name := "queueNumbers", fn := fun _ => fun
  | [d1, d2] => { results := [.lit (.bool false)], args := [d1, d2] }
  | _ => none }
def QueueNumbersWrongFalsely : Prop := queueNumbersRow.holds Tryz.pinned (OpenSpec.ofChange queueNumbersWrong)

/-- 'pigeonholelaw23.QueueSure': WHATEVER THE INPUT: true; the input reads as it did. -/
def queueSureSpec : ChangeSpec := { name := "queueSure", fn := fun _ => fun
  | [d1, d2, d3, d4] => { results := [.lit (.bool true)], args := [d1, d2, d3, d4] }
  | _ => none }
def queueSureRow : OpenClaim := { program := "ytojmbeibhfjmkaagreat", sum := "b0507887a4475147782d04afbea24bb2580c18a350173312aa0de330b9326e8c", func := "pigeonhole/pigeonholelaw23.QueueSure", spec := "queueSure", inPlace := ["internal/bytealg.IndexByteString", "maps.clone", "internal/abi.NoEscape", "internal/bytealg.MakeNoZero"], unfollowed := true, recurses := true, plainKeys := false, apart := false }
def QueueSureSaid : Prop := queueSureRow.holds Tryz.pinned (OpenSpec.ofChange queueSureSpec)

/-- ITS FALSE NEIGHBOUR: 'it returns false'. Refute it at one input. -/
def queueSureWrong : ChangeSpec := { name := "queueSure", fn := fun _ => fun
  | [d1, d2, d3, d4] => { results := [.lit (.bool false)], args := [d1, d2, d3, d4] }
  | _ => none }
def QueueSureWrongFalsely : Prop := queueSureRow.holds Tryz.pinned (OpenSpec.ofChange queueSureWrong)

/- THE SECOND FORM. 'bulk': how many values and letters a reading holds, each counted each time it is reached (what is shared counts as often as it is met; a slice's spare places count too). A statement '..UptoSaid' is the law's where the arguments, and the package variables that the reading takes, are together of bulk at most 1048576: NARROWER than '..Said'. Prove '..Said' where nothing that the law and all that it calls make is longer than what came in: it says more and counts as full. Else prove '..UptoSaid'. A law counts once. -/
mutual
def uptoBulk {H : Type} : DataW H → Nat
  | .lit (.string bytes) => bytes.length + 1
  | .lit _ => 1
  | .nil => 1
  | .ptr d => uptoBulk d + 1
  | .slice elems spare => uptoBulkAll elems + uptoBulkAll spare + 1
  | .agg parts => uptoBulkAll parts + 1
  | .iface _ d => uptoBulk d + 1
  | .map entries => uptoBulkEntries entries + 1
  | .held _ => 1
def uptoBulkAll {H : Type} : List (DataW H) → Nat
  | [] => 0
  | d :: r => uptoBulk d + uptoBulkAll r
def uptoBulkEntries {H : Type} : List (Lit × DataW H) → Nat
  | [] => 0
  | x :: r => uptoBulkEntry x + uptoBulkEntries r
def uptoBulkEntry {H : Type} : Lit × DataW H → Nat
  | (.string bytes, d) => bytes.length + uptoBulk d + 1
  | (_, d) => uptoBulk d + 1
 end
def uptoSmall : (H : Type) → List (DataW H) → Bool := fun _ ds => decide (uptoBulkAll ds ≤ 1048576)
def OpenSpec.upto (s : _root_.Go.ChangeSpec) : _root_.Go.OpenSpec := { _root_.Go.OpenSpec.ofChange s with cond := some uptoSmall }

/-- 'pigeonholelaw13.UsersResolves', WHERE WHAT IT READS IS OF BULK AT MOST 1048576: true; the input reads as it did. -/
def usersResolvesUptoRow : OpenClaim := { program := "ytojmbeibhfjmkaagreat", sum := "b0507887a4475147782d04afbea24bb2580c18a350173312aa0de330b9326e8c", func := "pigeonhole/pigeonholelaw13.UsersResolves", spec := "usersResolves", unfollowed := true, recurses := true, plainKeys := false, apart := false, narrowed := true }
def UsersResolvesUptoSaid : Prop := usersResolvesUptoRow.holds Tryz.pinned (OpenSpec.upto usersResolvesSpec)

/-- 'pigeonholelaw13.UsersPlays', WHERE WHAT IT READS IS OF BULK AT MOST 1048576: true; the input reads as it did. -/
def usersPlaysUptoRow : OpenClaim := { program := "ytojmbeibhfjmkaagreat", sum := "b0507887a4475147782d04afbea24bb2580c18a350173312aa0de330b9326e8c", func := "pigeonhole/pigeonholelaw13.UsersPlays", spec := "usersPlays", unfollowed := true, recurses := true, plainKeys := false, apart := false, narrowed := true }
def UsersPlaysUptoSaid : Prop := usersPlaysUptoRow.holds Tryz.pinned (OpenSpec.upto usersPlaysSpec)

/-- 'pigeonholelaw13.UsersBack', WHERE WHAT IT READS IS OF BULK AT MOST 1048576: true; the input reads as it did. -/
def usersBackUptoRow : OpenClaim := { program := "ytojmbeibhfjmkaagreat", sum := "b0507887a4475147782d04afbea24bb2580c18a350173312aa0de330b9326e8c", func := "pigeonhole/pigeonholelaw13.UsersBack", spec := "usersBack", inPlace := ["maps.clone"], unfollowed := true, recurses := true, plainKeys := false, apart := false, narrowed := true }
def UsersBackUptoSaid : Prop := usersBackUptoRow.holds Tryz.pinned (OpenSpec.upto usersBackSpec)

/-- 'pigeonholelaw19.BodiesOnce', WHERE WHAT IT READS IS OF BULK AT MOST 1048576: true; the input reads as it did. -/
def bodiesOnceUptoRow : OpenClaim := { program := "ytojmbeibhfjmkaagreat", sum := "b0507887a4475147782d04afbea24bb2580c18a350173312aa0de330b9326e8c", func := "pigeonhole/pigeonholelaw19.BodiesOnce", spec := "bodiesOnce", inPlace := ["internal/bytealg.IndexByteString", "maps.clone"], unfollowed := true, recurses := true, plainKeys := false, apart := false, narrowed := true }
def BodiesOnceUptoSaid : Prop := bodiesOnceUptoRow.holds Tryz.pinned (OpenSpec.upto bodiesOnceSpec)

/-- 'pigeonholelaw19.BodiesKeeps', WHERE WHAT IT READS IS OF BULK AT MOST 1048576: true; the input reads as it did. -/
def bodiesKeepsUptoRow : OpenClaim := { program := "ytojmbeibhfjmkaagreat", sum := "b0507887a4475147782d04afbea24bb2580c18a350173312aa0de330b9326e8c", func := "pigeonhole/pigeonholelaw19.BodiesKeeps", spec := "bodiesKeeps", inPlace := ["internal/bytealg.IndexByteString", "maps.clone"], unfollowed := true, recurses := true, plainKeys := false, apart := false, narrowed := true }
def BodiesKeepsUptoSaid : Prop := bodiesKeepsUptoRow.holds Tryz.pinned (OpenSpec.upto bodiesKeepsSpec)

/-- 'pigeonholelaw23.QueueOpens', WHERE WHAT IT READS IS OF BULK AT MOST 1048576: true; the input reads as it did. -/
def queueOpensUptoRow : OpenClaim := { program := "ytojmbeibhfjmkaagreat", sum := "b0507887a4475147782d04afbea24bb2580c18a350173312aa0de330b9326e8c", func := "pigeonhole/pigeonholelaw23.QueueOpens", spec := "queueOpens", inPlace := ["internal/bytealg.IndexByteString", "maps.clone", "internal/abi.NoEscape", "internal/bytealg.MakeNoZero"], unfollowed := true, recurses := true, plainKeys := false, apart := false, narrowed := true }
def QueueOpensUptoSaid : Prop := queueOpensUptoRow.holds Tryz.pinned (OpenSpec.upto queueOpensSpec)

/-- 'pigeonholelaw23.QueueNumbers', WHERE WHAT IT READS IS OF BULK AT MOST 1048576: true; the input reads as it did. -/
def queueNumbersUptoRow : OpenClaim := { program := "ytojmbeibhfjmkaagreat", sum := "b0507887a4475147782d04afbea24bb2580c18a350173312aa0de330b9326e8c", func := "pigeonhole/pigeonholelaw23.QueueNumbers", spec := "queueNumbers", inPlace := ["internal/bytealg.IndexByteString", "maps.clone", "internal/abi.NoEscape", "internal/bytealg.MakeNoZero"], unfollowed := true, recurses := true, plainKeys := false, apart := false, narrowed := true }
def QueueNumbersUptoSaid : Prop := queueNumbersUptoRow.holds Tryz.pinned (OpenSpec.upto queueNumbersSpec)

/-- 'pigeonholelaw23.QueueSure', WHERE WHAT IT READS IS OF BULK AT MOST 1048576: true; the input reads as it did. -/
def queueSureUptoRow : OpenClaim := { program := "ytojmbeibhfjmkaagreat", sum := "b0507887a4475147782d04afbea24bb2580c18a350173312aa0de330b9326e8c", func := "pigeonhole/pigeonholelaw23.QueueSure", spec := "queueSure", inPlace := ["internal/bytealg.IndexByteString", "maps.clone", "internal/abi.NoEscape", "internal/bytealg.MakeNoZero"], unfollowed := true, recurses := true, plainKeys := false, apart := false, narrowed := true }
def QueueSureUptoSaid : Prop := queueSureUptoRow.holds Tryz.pinned (OpenSpec.upto queueSureSpec)

end Rows
end Go.Proofs.YtojmbeibhfjmkaaGreat

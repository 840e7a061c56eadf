/- The words of the laws of octet: how they lie in memory; 'some'. -/
import Derived.Test.YtklbemkafdccgaaGreatK18
import Derived.Test.YtklbemkafdccgaaGreatK28
namespace Go.Proofs.YtklbemkafdccgaaGreat
open Go.RowKit
namespace Oct

structure Word where
 kind : Int
 k : Int
 n : Int
 v : Nat
 s : ByteArray

def wordC (x : Word) : List Value := [.int .i64 x.kind, .int .i64 x.k, .int .i64 x.n, .int .u64 (x.v : Int), .string x.s]
def wordOk (x : Word) : Prop := (Lit.int .i64 x.kind).wf = true ∧ (Lit.int .i64 x.k).wf = true ∧ (Lit.int .i64 x.n).wf = true ∧ x.v < 18446744073709551616 ∧ x.s.size ≤ maxLen

theorem c3 : Tryz.prog.cellsOf 3 = 1 := by kernel_rfl
theorem c9 : Tryz.prog.cellsOf 9 = 1 := by kernel_rfl

def someB (l : List Word) : Bool := decide (l.length ≤ 60) && l.all fun x => decide (x.s.size ≤ 300)

end Oct
end Go.Proofs.YtklbemkafdccgaaGreat

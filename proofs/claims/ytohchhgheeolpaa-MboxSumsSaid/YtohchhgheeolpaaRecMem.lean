/- Records in memory as whole structs. -/
import Derived.Test.YtohchhgheeolpaaRecPay
import Derived.Test.YtohchhgheeolpaaPGen
namespace Go.Proofs.Ytohchhgheeolpaa
open Go.RowKit
namespace Rcd
theorem recM : Mids Try.prog 82 12 := ⟨⟨_, Try.underlying82, rfl⟩, by kernel_rfl⟩
theorem recA_one (r : Rec) (p : Option Addr) (n c : Nat) : (recA r (.slice p n c)).all (·.oneCell') = true := by simp [recA, Value.oneCell']
def zero12 : Array Value := #[.int .i64 0, .int .i64 0, .int .i64 0, .int .i64 0, .int .i64 0, .int .i64 0, .int .i64 0, .int .i64 0, .int .i64 0, .int .i64 0, .int .i64 0, .slice none 0 0]
theorem zero12_one : zero12.all (·.oneCell') = true := by simp [zero12, Value.oneCell']
end Rcd
end Go.Proofs.Ytohchhgheeolpaa

/- record.Payload and record.Frame. -/
import Derived.Test.YtohchhgheeolpaaRecBare
import Derived.Test.YtohchhgheeolpaaK18
namespace Go.Proofs.Ytohchhgheeolpaa
open Go.RowKit
namespace Rcd
open Oct Frm

theorem retSI {W w' : World} {l l' : List UInt8} {n m : Int} {v : Value} (ho : Own w' W.heap.size 5 v (l'.map u8v)) (hl : l = l') (hn : n = m) (hk : Keeps W w') : RetSI W l n (.returned (.tuple #[v, .int .i64 m])) w' := ⟨v, by rw [hn], by rw [hl]; exact ho, hk⟩
theorem wrapU {n : Nat} (h : n < 18446744073709551616) : IntKind.u64.wrap (n : Int) = (n : Int) := by
  rw [IntKind.wrap_u64]
  omega

end Rcd
end Go.Proofs.Ytohchhgheeolpaa

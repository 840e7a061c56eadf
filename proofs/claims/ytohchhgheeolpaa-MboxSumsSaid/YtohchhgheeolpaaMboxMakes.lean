/- The law MboxMakes, walked. -/
import Derived.Test.YtohchhgheeolpaaMboxAwake
import Derived.Test.YtohchhgheeolpaaRecRef2
namespace Go.Proofs.Ytohchhgheeolpaa
open Go.RowKit
namespace Mbx
open Rcd Go.Maps

def recs (l : List RecX) : List Rec := l.map (·.1)
theorem recs_next (l : List RecX) {j : Nat} (h : j < l.length) : all new (recs (l.take (j + 1))) = (take (all new (recs (l.take j))) l[j].1).1 := by
  rw [List.take_succ_eq_append_getElem h]
  unfold recs
  rw [List.map_append]
  exact all_snoc _ _ _

end Mbx
end Go.Proofs.Ytohchhgheeolpaa

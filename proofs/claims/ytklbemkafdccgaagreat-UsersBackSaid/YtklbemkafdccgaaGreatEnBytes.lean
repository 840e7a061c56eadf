/- envel.env, envel.step, envel.Step, envel.Bytes. -/
import Derived.Test.YtklbemkafdccgaaGreatK37
import Derived.Test.YtklbemkafdccgaaGreatK19
namespace Go.Proofs.YtklbemkafdccgaaGreat
open Go.RowKit
namespace Env
open Oct (be putL putB okk textL SinkAt NewSinkDid newSink_any sinkU_any sinkText_any sinkBytes_any be_length RetS)
open Frm (Sole RetSI wrap_any wrapL wrapE)
/-- the sink holds l then; a block that is none of its own is as it was -/
def SoleDid (W w : World) (g : Nat) (v : Value) (l : List UInt8) (r : Ending) (e : Ending) (w' : World) : Prop :=
 ∃ v', e = r ∧ Sole W w' g v' l ∧ ∀ q t cs, Blk w q t cs → (∀ x, Oct.Fr g v x → x ≠ q) → Blk w' q t cs ∧ ∀ x, Oct.Fr g v' x → x ≠ q
theorem putL_be {x k : Nat} (hk : 1 ≤ k ∧ k ≤ 8) (hx : x < 256 ^ k) : putL x k = be k x ∧ putB x k = true := by
 have : putB x k = true := by simp [putB, okk, hx]; omega
 refine ⟨?_, this⟩
 unfold putL
 rw [if_pos this]
 rfl
theorem soleNew (w : World) : Calls Tryz.prog 52 #[] w fun e w' => ∃ g, e = .returned (.pointer (some ⟨g, 0, none⟩)) ∧ w.heap.size ≤ g ∧ Sole w w' g (.slice none 0 0) [] := by
 refine (newSink_any w).mono ?_
 rintro e w' ⟨g, rfl, hg, hs, hk⟩
 exact ⟨g, rfl, hg, Sole.new hs hg hk⟩
end Env
end Go.Proofs.YtklbemkafdccgaaGreat

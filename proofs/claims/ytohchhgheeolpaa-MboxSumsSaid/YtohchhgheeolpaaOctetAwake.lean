/- What the document tells of octet: awake. -/
import Derived.Test.YtohchhgheeolpaaOctetText
namespace Go.Proofs.Ytohchhgheeolpaa
open Go.RowKit
namespace Oct

theorem str_at {w : World} {v : Value} {l : List UInt8} (h : Row w v (l.map u8v)) : (convert 22 9 v).run Try.prog w = .ok (.string (bstr l)) w := h.str Try.underlying22 Try.underlying5 str9

theorem put258 : putB 258 2 = true ∧ putL 258 2 = [1, 2] := by decide
theorem sgn255 : sgnV 255 1 = -1 ∧ putB 255 1 = true := by decide
theorem turn258 : turnV 258 2 = 513 := by decide
theorem textA : textL ⟨#[97]⟩ = [0, 0, 0, 1, 97] := by decide
theorem tA1 : tE [0, 0, 0, 1, 97] 0 0 1 = 0 ∧ tA [0, 0, 0, 1, 97] 0 0 1 = 5 ∧ tL [0, 0, 0, 1, 97] 0 0 1 = [97] := by decide
theorem done5 : doneE 0 5 5 = 0 := by decide

end Oct
end Go.Proofs.Ytohchhgheeolpaa

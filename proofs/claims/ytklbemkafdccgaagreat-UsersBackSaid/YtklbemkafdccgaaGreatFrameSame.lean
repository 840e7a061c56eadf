/- The reference's Same and SameGaps: of what is the same they say so. -/
import Derived.Test.YtklbemkafdccgaaGreatFrameAwake
import Derived.Test.YtklbemkafdccgaaGreatDrawn
import Derived.Test.YtklbemkafdccgaaGreatK28
namespace Go.Proofs.YtklbemkafdccgaaGreat
open Go.RowKit
namespace Frm
open Oct

theorem fr_at {l : List (Fr1 × Value)} {i : Nat} (h : i < l.length) {j : Nat} (hj : j < 4) : (l.flatMap frC)[i * 4 + j]? = (frC l[i])[j]? := flat_get frC_len l i j _ (List.getElem?_eq_getElem h) hj
/-- one frame of a list in memory: its cells and its payload -/
theorem FramesAt.one {w : World} {base : Nat} {p : Option Addr} {n cap : Nat} {l : List (Fr1 × Value)} (h : FramesAt w base (.slice p n cap) l) {j : Nat} (hj : j < l.length) : ∃ g, p = some ⟨g, 0, none⟩ ∧ (w.cell? ⟨g, j * 4, none⟩ = some (.int .i64 l[j].1.at') ∧ w.cell? ⟨g, j * 4 + 1, none⟩ = some (.int .i64 l[j].1.len) ∧ w.cell? ⟨g, j * 4 + 2, none⟩ = some (.int .i64 l[j].1.kind) ∧ w.cell? ⟨g, j * 4 + 3, none⟩ = some l[j].2) ∧ Row w l[j].2 (l[j].1.pay.map u8v) := by
 obtain ⟨g, cap', hv, -, -, -, hc⟩ := ownsRow_at h.own (by omega)
 simp only [Value.slice.injEq] at hv
 obtain ⟨rfl, -, rfl⟩ := hv
 refine ⟨g, rfl, ⟨hc (j * 4 + 0) _ (by rw [fr_at hj (by omega)]; rfl), hc (j * 4 + 1) _ (by rw [fr_at hj (by omega)]; rfl), hc (j * 4 + 2) _ (by rw [fr_at hj (by omega)]; rfl), hc (j * 4 + 3) _ (by rw [fr_at hj (by omega)]; rfl)⟩, (h.pay _ (List.getElem_mem hj)).row⟩

end Frm
end Go.Proofs.YtklbemkafdccgaaGreat

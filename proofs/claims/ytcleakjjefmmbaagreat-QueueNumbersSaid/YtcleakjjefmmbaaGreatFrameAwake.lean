/- What the document tells of frames: awake. -/
import Derived.Test.YtcleakjjefmmbaaGreatK16
import Derived.Test.YtcleakjjefmmbaaGreatK11
import Derived.Lib.SlBytesConst
namespace Go.Proofs.YtcleakjjefmmbaaGreat
open Go.RowKit
namespace Frm
open Oct
theorem ownsRow_at {w : World} {base C n : Nat} {e : TypeId} {xs : List Value} {v : Value} (h : w.ownsRow base e C v n xs) (hn : 0 < n) : ∃ g cap, v = .slice (some ⟨g, 0, none⟩) n cap ∧ base ≤ g ∧ n ≤ cap ∧ cap ≤ 9223372036854775807 ∧ ∀ i x, xs[i]? = some x → w.cell? ⟨g, i, none⟩ = some x := by
 have hc : ∀ g cap, v = .slice (some ⟨g, 0, none⟩) n cap → ∀ i x, xs[i]? = some x → w.cell? ⟨g, i, none⟩ = some x := fun g cap he i x hx => by
  subst he
  have := World.ownsRow.cells (h := h) (g := g) rfl i x hx
  rcases Nat.eq_zero_or_pos i with rfl | hi
  ·simpa [Addr.add] using this
  ·simpa [Addr.add, show i ≠ 0 from by omega] using this
 rcases h.2 with ⟨rfl, h0⟩ | ⟨g, cap, cur, rfl, hb, hgg, h1, h2, rest⟩
 ·omega
 ·exact ⟨g, cap, rfl, hb, h1, by simpa [maxLen] using h2, hc g cap rfl⟩

theorem row_mark {w : World} {b : Nat} {cs : Array Value} {e : TypeId} {fr : Nat × Nat} {l : List Value} (hb : b = w.heap.size) (hl : cs.toList = l) (hm : l.length ≤ maxLen) : Row (w.alloc (.cells cs e fr)) (.slice (some ⟨b, 0, none⟩) l.length l.length) l := by
 subst hb hl
 exact .inr ⟨w.heap.size, 0, _, rfl, Nat.le_refl _, hm, fun i x hx => by
  rw [Nat.zero_add, cell_of_row _ _ _ cs e fr (by show (w.heap.push _)[w.heap.size]? = _; simp)]
  simpa using hx⟩
end Frm
end Go.Proofs.YtcleakjjefmmbaaGreat

/- A slice into a block of a known element type, from base on: wherever it begins. For every program. -/
import Derived.Test.YtfmjlgkbohidjaaHeap
import Derived.Test.YtfmjlgkbohidjaaCut
namespace Go.Proofs.Ytfmjlgkbohidjaa
open Go.RowKit

def Piece (w : World) (base : Nat) (e : TypeId) (v : Value) (l : List Value) : Prop :=
  (∃ a0 cap, v = .slice a0 0 cap ∧ l = [] ∧ cap ≤ maxLen ∧ (a0 = none → cap = 0)) ∨
  ∃ g off cap cs fr, v = .slice (some ⟨g, off, none⟩) l.length cap ∧ 0 < l.length ∧ base ≤ g ∧ l.length ≤ cap ∧ cap ≤ maxLen ∧ w.heap[g]? = some (.cells cs e fr) ∧ ∀ i x, l[i]? = some x → cs[off + i]? = some x

section
variable {w w' : World} {base : Nat} {e : TypeId} {v : Value} {l : List Value}
theorem cell_of_heap {g off : Nat} {cs : Array Value} {fr : Nat × Nat} (h : w.heap[g]? = some (.cells cs e fr)) : w.cell? ⟨g, off, none⟩ = cs[off]? := cell_of_row w g off cs e fr h
theorem Piece.row (h : Piece w base e v l) : Row w v l := by
  rcases h with h | ⟨g, off, cap, cs, fr, hv, h0, h1, h2, h3, h4, h5⟩
  · exact .inl h
  · exact .inr ⟨g, off, cap, hv, h2, h3, fun i x hx => by rw [cell_of_heap h4]; exact h5 i x hx⟩
theorem Own.raise {base' : Nat} (h : Own w base e v l) (hb : ∀ x, v.ownBlock = some x → base' ≤ x) : Own w base' e v l := by
  refine ⟨h.1, ?_⟩
  rcases h.2 with h0 | ⟨g, cap, cur, rfl, _, rest⟩
  · exact .inl h0
  · exact .inr ⟨g, cap, cur, rfl, hb g (by simp [Value.ownBlock]), rest⟩
theorem Piece.nil (w : World) (base : Nat) (e : TypeId) : Piece w base e (.slice none 0 0) [] := .inl ⟨none, 0, rfl, rfl, Nat.zero_le _, fun _ => rfl⟩
theorem Own.piece (h : Own w base e v l) : Piece w base e v l := by
  have hrow := h.row
  rcases h.2 with ⟨rfl, h9⟩ | ⟨g, cap, cur, rfl, h1, h2, h3, h4, h5, h6⟩
  · exact .inl ⟨none, 0, rfl, List.eq_nil_of_length_eq_zero h9, Nat.zero_le _, fun _ => rfl⟩
  · by_cases hl : l = []
    · subst hl
      exact .inl ⟨some ⟨g, 0, none⟩, cap, rfl, rfl, h4, fun h => by cases h⟩
    · have hp : 0 < l.length := List.length_pos_iff.2 hl
      refine .inr ⟨g, 0, cap, cur, (0, 0), rfl, hp, h1, h3, h4, h2, fun i x hx => ?_⟩
      have hi := (List.getElem?_eq_some_iff.1 hx).1
      have ht : cur.toList.take l.length = l := by simpa using h6
      have : (cur.toList.take l.length)[i]? = some x := by rw [ht]; exact hx
      rw [List.getElem?_take, if_pos hi] at this
      simpa using this
theorem Piece.keeps (h : Piece w base e v l) (k : Keeps w w') : Piece w' base e v l := by
  rcases h with h | ⟨g, off, cap, cs, fr, hv, h0, h1, h2, h3, h4, h5⟩
  · exact .inl h
  · exact .inr ⟨g, off, cap, cs, fr, hv, h0, h1, h2, h3, by rw [k.block (Array.getElem?_eq_some_iff.1 h4).1]; exact h4, h5⟩
theorem Piece.lower {base' : Nat} (h : Piece w base e v l) (hb : base' ≤ base) : Piece w base' e v l := by
  rcases h with h | ⟨g, off, cap, cs, fr, hv, h0, h1, h2, h3, h4, h5⟩
  · exact .inl h
  · exact .inr ⟨g, off, cap, cs, fr, hv, h0, Nat.le_trans hb h1, h2, h3, h4, h5⟩
/-- a call that writes blocks of S alone, none of them of this element type -/
theorem Piece.modsT {S : Nat → Prop} (h : Piece w base e v l) (k : Mods S w w') (hn : ∀ x, S x → ∀ cs fr, w.heap[x]? ≠ some (.cells cs e fr)) : Piece w' base e v l := by
  rcases h with h | ⟨g, off, cap, cs, fr, hv, h0, h1, h2, h3, h4, h5⟩
  · exact .inl h
  · exact .inr ⟨g, off, cap, cs, fr, hv, h0, h1, h2, h3, k.heap h4 (fun hs => hn g hs cs fr h4), h5⟩
/-- a call that writes blocks of S alone, none from base on -/
theorem Piece.modsB {S : Nat → Prop} (h : Piece w base e v l) (k : Mods S w w') (hn : ∀ x, S x → base ≤ x → False) : Piece w' base e v l := by
  rcases h with h | ⟨g, off, cap, cs, fr, hv, h0, h1, h2, h3, h4, h5⟩
  · exact .inl h
  · exact .inr ⟨g, off, cap, cs, fr, hv, h0, h1, h2, h3, k.heap h4 (fun hs => hn g hs h1), h5⟩
theorem Piece.form (h : Piece w base e v l) : ∃ p cap, v = .slice p l.length cap ∧ l.length ≤ cap ∧ cap ≤ 9223372036854775807 := by
  obtain ⟨p, cap, hv, h1, h2⟩ := h.row.form
  exact ⟨p, cap, hv, h1, by simpa [maxLen] using h2⟩
/-- v[lo:n:n] of a slice that has n elements -/
theorem Piece.cutN {p : Option Addr} {n cap lo : Nat} (h : Piece w base e (.slice p n cap) l) (hn : n = l.length) (hlo : lo ≤ n) : Piece w base e (cutv p lo n n) (l.drop lo) := by
  subst hn
  rcases h with ⟨a0, cap', hv, rfl, h3, h4⟩ | ⟨g, off, cap', cs, fr, hv, h0, h1, h2, h3, h4, h5⟩
  · simp at hlo
    subst hlo
    simp only [Value.slice.injEq] at hv
    refine .inl ⟨p, 0, by simp [cutv], by simp, Nat.zero_le _, fun _ => rfl⟩
  · simp only [Value.slice.injEq] at hv
    obtain ⟨rfl, -, rfl⟩ := hv
    by_cases he : lo = l.length
    · subst he
      exact .inl ⟨some ⟨g, off, none⟩, 0, by simp [cutv], by simp, Nat.zero_le _, fun _ => rfl⟩
    · refine .inr ⟨g, off + lo, l.length - lo, cs, fr, ?_, by simp; omega, h1, by simp, by omega, h4, fun i x hx => ?_⟩
      · have : ¬ l.length = lo := fun e => he e.symm
        simp [cutv, this, Go.WideShapes.add_plain]
      · rw [Nat.add_assoc]
        exact h5 (lo + i) x (by simpa using hx)
end
end Go.Proofs.Ytfmjlgkbohidjaa

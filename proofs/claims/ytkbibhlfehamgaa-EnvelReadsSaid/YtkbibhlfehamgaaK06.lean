/- Several texts in one: Open, CutS. -/
import Derived.Test.YtkbibhlfehamgaaLawKit
import Derived.Test.YtkbibhlfehamgaaK05
import Derived.Deep.Slices
import Derived.ChangeArms
import Derived.Test.YtkbibhlfehamgaaK00
/- Opening arguments of whatever shape: integers, bools, strings, structs, slices, one inside the other. For every program. -/
namespace Go.Proofs.Ytkbibhlfehamgaa
open Go.RowKit Go.WideShapes Go.ChangeShapes

theorem RowS.keeps {w w' : World} {C n : Nat} {v : Value} {l : List Value} (h : RowS w C v n l) (k : Keeps w w') : RowS w' C v n l := by
 refine ⟨h.1, ?_⟩
 rcases h.2 with h | ⟨b, off, cap, hv, h1, h2, h3⟩
 ·exact .inl h
 ·exact .inr ⟨b, off, cap, hv, h1, h2, fun i x hx => by
   have := h3 i x hx
   rw [k.cell (p := ⟨b, off + i, none⟩) (lt_of_cell this)]; exact this⟩
theorem RowS.form {w : World} {C n : Nat} {v : Value} {l : List Value} (h : RowS w C v n l) : ∃ p cap, v = .slice p n cap ∧ n ≤ cap ∧ cap ≤ 9223372036854775807 := by
 rcases h.2 with ⟨a0, cap, rfl, rfl, h, _⟩ | ⟨b, off, cap, rfl, h1, h2, _⟩
 ·exact ⟨_, _, rfl, Nat.zero_le _, by simpa [maxLen] using h⟩
 ·exact ⟨_, _, rfl, h1, by simpa [maxLen] using h2⟩
theorem RowS.at_ {w : World} {C n : Nat} {v : Value} {l : List Value} (h : RowS w C v n l) (hn : 0 < n) : ∃ b off cap, v = .slice (some ⟨b, off, none⟩) n cap ∧ n ≤ cap ∧ cap ≤ 9223372036854775807 ∧ Hid (∀ i x, l[i]? = some x → w.cell? ⟨b, off + i, none⟩ = some x) := by
 rcases h.2 with ⟨a0, cap, rfl, rfl, h, _⟩ | ⟨b, off, cap, rfl, h1, h2, h3⟩
 ·omega
 ·exact ⟨b, off, cap, rfl, h1, by simpa [maxLen] using h2, Lib.hid h3⟩
theorem RowS.row {w : World} {n : Nat} {v : Value} {l : List Value} (h : RowS w 1 v n l) : Row w v l := by
 have hl := h.1
 rw [Nat.mul_one] at hl
 subst hl
 rcases h.2 with ⟨a0, cap, h1, h2, h3, h4⟩ | h
 ·exact .inl ⟨a0, cap, by rw [h1], List.eq_nil_of_length_eq_zero h2, h3, h4⟩
 ·exact .inr h

/-- cell j of element i in a row of elements of C cells each -/
theorem flat_get {α : Type} {cells : α → List Value} {C : Nat} (hC : ∀ x, (cells x).length = C) : ∀ (l : List α) (i j : Nat) (x : α), l[i]? = some x → j < C → (l.flatMap cells)[i * C + j]? = (cells x)[j]?
 | [], i, j, x, h, _ => by simp at h
 | y :: l, 0, j, x, h, hj => by
  simp at h
  subst h
  rw [List.flatMap_cons, Nat.zero_mul, Nat.zero_add, List.getElem?_append_left (by rw [hC]; exact hj)]
 | y :: l, i + 1, j, x, h, hj => by
  rw [List.flatMap_cons, List.getElem?_append_right (by rw [hC, Nat.succ_mul]; omega), hC, show (i + 1) * C + j - C = i * C + j from by rw [Nat.succ_mul]; omega]
  exact flat_get hC l i j x (by simpa using h) hj
theorem flat_len {α : Type} {cells : α → List Value} {C : Nat} (hC : ∀ x, (cells x).length = C) (l : List α) : (l.flatMap cells).length = l.length * C := by
 induction l with
 | nil => simp
 | cons y l ih => rw [List.flatMap_cons, List.length_append, hC, ih, List.length_cons, Nat.succ_mul, Nat.add_comm]

section
variable {H : Type} {enc : TypeId × Value → H} {P : Program} {w : World} {base : Nat} {sp : Nat → Bool} {held : Bool}

/-- whatever reads as data of type e is the cells of some x that is good -/
def Opens (enc : TypeId × Value → H) (P : Program) (w : World) (base : Nat) (sp : Nat → Bool) (held : Bool) (e : TypeId) {α : Type} (cells : α → List Value) (good : α → Prop) : Prop :=
 ∀ (n : Nat) (cs : List Value) (d : DataW H × List MemPlace), DataW.trod enc P w base sp held n e cs = some d → ∃ x, cs = cells x ∧ good x

/-- the fields of a struct from an offset on -/
def OpensF (enc : TypeId × Value → H) (P : Program) (w : World) (base : Nat) (sp : Nat → Bool) (held : Bool) (fs : List Field) (off tot : Nat) {α : Type} (cells : α → List Value) (good : α → Prop) : Prop :=
 ∀ (n : Nat) (cs : List Value), cs.length = tot → (∀ f ∈ fs, ∃ d, DataW.trod enc P w base sp held n f.type ((cs.drop f.offset).take (P.cellsOf f.type)) = some d) → ∃ x, cs.drop off = cells x ∧ good x

end
end Go.Proofs.Ytkbibhlfehamgaa

/- Parts of slices whose elements have several cells. For every program. -/
namespace Go.Proofs.Ytkbibhlfehamgaa
open Go.RowKit

def cutS (C : Nat) (p : Option Addr) (lo hi cap : Nat) : Value := .slice (if cap = lo then p else p.map (·.add (lo * C))) (hi - lo) (cap - lo)
theorem sliced_cutS (C : Nat) (p : Option Addr) (lo hi cap : Nat) : sliced p lo hi cap C = cutS C p lo hi cap := by simp [sliced, cutS]
theorem cutS_sl (C : Nat) (p : Option Addr) (lo hi cap : Nat) : ∃ p', cutS C p lo hi cap = .slice p' (hi - lo) (cap - lo) := ⟨_, rfl⟩
theorem RowS.cut {w : World} {C : Nat} {p : Option Addr} {cap n : Nat} {l : List Value} (h : RowS w C (.slice p n cap) n l) {lo hi : Nat} (h1 : lo ≤ hi) (h2 : hi ≤ n) : RowS w C (cutS C p lo hi cap) (hi - lo) ((l.drop (lo * C)).take ((hi - lo) * C)) := by
 obtain ⟨hl, h⟩ := h
 have hmul : hi * C ≤ n * C := Nat.mul_le_mul_right _ h2
 have hsub : (hi - lo) * C = hi * C - lo * C := Nat.sub_mul ..
 refine ⟨by rw [List.length_take, List.length_drop, hl]; omega, ?_⟩
 rcases h with ⟨a0, cap', hv, rfl, hc, h0⟩ | ⟨b, off, cap', hv, h3, h4, h5⟩
 ·simp only [Value.slice.injEq] at hv
  obtain ⟨rfl, -, rfl⟩ := hv
  obtain rfl : hi = 0 := by omega
  obtain rfl : lo = 0 := by omega
  refine .inl ⟨if cap = 0 then p else p.map (·.add (0 * C)), cap, by simp [cutS], by simp, hc, ?_⟩
  intro h
  split at h
  ·assumption
  ·exact h0 (by simpa using h)
 ·simp only [Value.slice.injEq] at hv
  obtain ⟨rfl, -, rfl⟩ := hv
  by_cases hlo : cap = lo
  ·have : hi = lo := by omega
   subst this
   refine .inl ⟨some ⟨b, off, none⟩, cap - hi, by simp [cutS, hlo], by simp, by omega, fun h => by cases h⟩
  ·refine .inr ⟨b, off + lo * C, cap - lo, ?_, by omega, by omega, fun i x hx => ?_⟩
   ·simp [cutS, hlo, Go.WideShapes.add_plain]
   ·have hi' : i < (hi - lo) * C := by
     have := (List.getElem?_eq_some_iff.1 hx).1
     rw [List.length_take] at this
     omega
    rw [Nat.add_assoc]
    refine h5 (lo * C + i) x ?_
    simpa [List.getElem?_take, hi'] using hx
theorem flat_drop {α : Type} {cells : α → List Value} {C : Nat} (hC : ∀ x, (cells x).length = C) : ∀ (l : List α) (n : Nat), (l.flatMap cells).drop (n * C) = (l.drop n).flatMap cells
 | [], n => by simp
 | y :: l, 0 => by simp
 | y :: l, n + 1 => by
  rw [List.flatMap_cons, List.drop_succ_cons, ← flat_drop hC l n, List.drop_append, List.drop_eq_nil_of_le (by rw [hC, Nat.succ_mul]; omega), List.nil_append, hC, show (n + 1) * C - C = n * C from by rw [Nat.succ_mul]; omega]
theorem flat_take {α : Type} {cells : α → List Value} {C : Nat} (hC : ∀ x, (cells x).length = C) : ∀ (l : List α) (n : Nat), (l.flatMap cells).take (n * C) = (l.take n).flatMap cells
 | [], n => by simp
 | y :: l, 0 => by simp
 | y :: l, n + 1 => by
  rw [List.flatMap_cons, List.take_succ_cons, List.flatMap_cons, ← flat_take hC l n, List.take_append, List.take_of_length_le (by rw [hC, Nat.succ_mul]; omega), hC, show (n + 1) * C - C = n * C from by rw [Nat.succ_mul]; omega]
theorem RowS.part {α : Type} {cells : α → List Value} {C : Nat} (hC : ∀ x, (cells x).length = C) {w : World} {p : Option Addr} {cap : Nat} {l : List α} (h : RowS w C (.slice p l.length cap) l.length (l.flatMap cells)) {lo hi : Nat} (h1 : lo ≤ hi) (h2 : hi ≤ l.length) :
  RowS w C (cutS C p lo hi cap) (hi - lo) (((l.drop lo).take (hi - lo)).flatMap cells) := by
 have := h.cut h1 h2
 rwa [flat_drop hC, flat_take hC] at this
section
variable {P : Program}
theorem run_cutS_h (w : World) {C : Nat} {t e : TypeId} (ht : P.underlying t = some (.slice e)) (hs : ∀ w, (sizeOf e).run P w = .ok C w) (p : Option Addr) (len cap : Nat) {kh : IntKind} (h : Nat) (h2 : h ≤ cap) :
  (Instr.slice t (.slice p len cap) none (some (.int kh h)) none).run P w = .ok (cutS C p 0 h cap) w := by
 have he : P.elem t = e := by simp [Program.elem, ht]
 rw [run_slice_h w t p len cap (by rw [he]; exact ht) kh h (by omega) (by omega), he, hs]
 simp [Result.andThen, sliced_cutS]
theorem run_cutS_l (w : World) {C : Nat} {t e : TypeId} (ht : P.underlying t = some (.slice e)) (hs : ∀ w, (sizeOf e).run P w = .ok C w) (p : Option Addr) (len cap : Nat) {kl : IntKind} (l : Nat) (h2 : l ≤ len) :
  (Instr.slice t (.slice p len cap) (some (.int kl l)) none none).run P w = .ok (cutS C p l len cap) w := by
 have he : P.elem t = e := by simp [Program.elem, ht]
 rw [run_slice_l w t p len cap (by rw [he]; exact ht) kl l (by omega) (by omega), he, hs]
 simp [Result.andThen, sliced_cutS]
end
end Go.Proofs.Ytkbibhlfehamgaa

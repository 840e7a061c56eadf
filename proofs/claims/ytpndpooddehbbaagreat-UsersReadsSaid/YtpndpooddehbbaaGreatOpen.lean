/- Opening arguments of whatever shape: integers, bools, strings, structs, slices, one inside the other. For every program. -/
import Derived.Test.YtpndpooddehbbaaGreatLawKit
import Derived.Test.YtpndpooddehbbaaGreatK03
import Derived.Deep.Slices
import Derived.ChangeArms
namespace Go.Proofs.YtpndpooddehbbaaGreat
open Go.RowKit Go.WideShapes Go.ChangeShapes

theorem RowS.keeps {w w' : World} {C n : Nat} {v : Value} {l : List Value} (h : RowS w C v n l) (k : Keeps w w') : RowS w' C v n l := by
 refine ⟨h.1, ?_⟩
 rcases h.2 with h | ⟨b, off, cap, hv, h1, h2, h3⟩
 ·exact .inl h
 ·exact .inr ⟨b, off, cap, hv, h1, h2, fun i x hx => by
   have := h3 i x hx
   rw [k.cell (p := ⟨b, off + i, none⟩) (lt_of_cell this)]; exact this⟩
theorem RowS.form {w : World} {C n : Nat} {v : Value} {l : List Value} (h : RowS w C v n l) : ∃ p cap, v = .slice p n cap ∧ n ≤ cap ∧ cap ≤ 9223372036854775807 := by
 rcases h.2 with ⟨a0, cap, rfl, rfl, h, _⟩ | ⟨b, off, cap, rfl, h1, h2, _⟩
 ·exact ⟨_, _, rfl, Nat.zero_le _, by simpa [maxLen] using h⟩
 ·exact ⟨_, _, rfl, h1, by simpa [maxLen] using h2⟩
theorem RowS.at_ {w : World} {C n : Nat} {v : Value} {l : List Value} (h : RowS w C v n l) (hn : 0 < n) : ∃ b off cap, v = .slice (some ⟨b, off, none⟩) n cap ∧ n ≤ cap ∧ cap ≤ 9223372036854775807 ∧ Hid (∀ i x, l[i]? = some x → w.cell? ⟨b, off + i, none⟩ = some x) := by
 rcases h.2 with ⟨a0, cap, rfl, rfl, h, _⟩ | ⟨b, off, cap, rfl, h1, h2, h3⟩
 ·omega
 ·exact ⟨b, off, cap, rfl, h1, by simpa [maxLen] using h2, Lib.hid h3⟩
theorem RowS.row {w : World} {n : Nat} {v : Value} {l : List Value} (h : RowS w 1 v n l) : Row w v l := by
 have hl := h.1
 rw [Nat.mul_one] at hl
 subst hl
 rcases h.2 with ⟨a0, cap, h1, h2, h3, h4⟩ | h
 ·exact .inl ⟨a0, cap, by rw [h1], List.eq_nil_of_length_eq_zero h2, h3, h4⟩
 ·exact .inr h

/-- cell j of element i in a row of elements of C cells each -/
theorem flat_get {α : Type} {cells : α → List Value} {C : Nat} (hC : ∀ x, (cells x).length = C) : ∀ (l : List α) (i j : Nat) (x : α), l[i]? = some x → j < C → (l.flatMap cells)[i * C + j]? = (cells x)[j]?
 | [], i, j, x, h, _ => by simp at h
 |y :: l, 0, j, x, h, hj => by
  simp at h
  subst h
  rw [List.flatMap_cons, Nat.zero_mul, Nat.zero_add, List.getElem?_append_left (by rw [hC]; exact hj)]
 |y :: l, i + 1, j, x, h, hj => by
  rw [List.flatMap_cons, List.getElem?_append_right (by rw [hC, Nat.succ_mul]; omega), hC, show (i + 1) * C + j - C = i * C + j from by rw [Nat.succ_mul]; omega]
  exact flat_get hC l i j x (by simpa using h) hj
theorem flat_len {α : Type} {cells : α → List Value} {C : Nat} (hC : ∀ x, (cells x).length = C) (l : List α) : (l.flatMap cells).length = l.length * C := by
 induction l with
 |nil => simp
 |cons y l ih => rw [List.flatMap_cons, List.length_append, hC, ih, List.length_cons, Nat.succ_mul, Nat.add_comm]

section
variable {H : Type} {enc : TypeId × Value → H} {P : Program} {w : World} {base : Nat} {sp : Nat → Bool} {held : Bool}

/-- whatever reads as data of type e is the cells of some x that is good -/
def Opens (enc : TypeId × Value → H) (P : Program) (w : World) (base : Nat) (sp : Nat → Bool) (held : Bool) (e : TypeId) {α : Type} (cells : α → List Value) (good : α → Prop) : Prop :=
 ∀ (n : Nat) (cs : List Value) (d : DataW H × List MemPlace), DataW.trod enc P w base sp held n e cs = some d → ∃ x, cs = cells x ∧ good x

/-- the fields of a struct from an offset on -/
def OpensF (enc : TypeId × Value → H) (P : Program) (w : World) (base : Nat) (sp : Nat → Bool) (held : Bool) (fs : List Field) (off tot : Nat) {α : Type} (cells : α → List Value) (good : α → Prop) : Prop :=
 ∀ (n : Nat) (cs : List Value), cs.length = tot → (∀ f ∈ fs, ∃ d, DataW.trod enc P w base sp held n f.type ((cs.drop f.offset).take (P.cellsOf f.type)) = some d) → ∃ x, cs.drop off = cells x ∧ good x

end
end Go.Proofs.YtpndpooddehbbaaGreat

/- Several texts in one: Open, CutS. -/
import Derived.Test.YtklbemkafdccgaaGreatLawKit
import Derived.Test.YtklbemkafdccgaaGreatK02
import Derived.Deep.Slices
import Derived.ChangeArms
import Derived.Test.YtklbemkafdccgaaGreatK00
/- Opening arguments of whatever shape: integers, bools, strings, structs, slices, one inside the other. For every program. -/
namespace Go.Proofs.YtklbemkafdccgaaGreat
open Go.RowKit Go.WideShapes Go.ChangeShapes

theorem RowS.keeps {w w' : World} {C n : Nat} {v : Value} {l : List Value} (h : RowS w C v n l) (k : Keeps w w') : RowS w' C v n l := by
 refine ⟨h.1, ?_⟩
 rcases h.2 with h | ⟨b, off, cap, hv, h1, h2, h3⟩
 ·exact .inl h
 ·exact .inr ⟨b, off, cap, hv, h1, h2, fun i x hx => by
   have := h3 i x hx
   rw [k.cell (p := ⟨b, off + i, none⟩) (lt_of_cell this)]; exact this⟩
theorem RowS.form {w : World} {C n : Nat} {v : Value} {l : List Value} (h : RowS w C v n l) : ∃ p cap, v = .slice p n cap ∧ n ≤ cap ∧ cap ≤ 9223372036854775807 := by
 rcases h.2 with ⟨a0, cap, rfl, rfl, h, _⟩ | ⟨b, off, cap, rfl, h1, h2, _⟩
 ·exact ⟨_, _, rfl, Nat.zero_le _, by simpa [maxLen] using h⟩
 ·exact ⟨_, _, rfl, h1, by simpa [maxLen] using h2⟩
theorem RowS.at_ {w : World} {C n : Nat} {v : Value} {l : List Value} (h : RowS w C v n l) (hn : 0 < n) : ∃ b off cap, v = .slice (some ⟨b, off, none⟩) n cap ∧ n ≤ cap ∧ cap ≤ 9223372036854775807 ∧ Hid (∀ i x, l[i]? = some x → w.cell? ⟨b, off + i, none⟩ = some x) := by
 rcases h.2 with ⟨a0, cap, rfl, rfl, h, _⟩ | ⟨b, off, cap, rfl, h1, h2, h3⟩
 ·omega
 ·exact ⟨b, off, cap, rfl, h1, by simpa [maxLen] using h2, Lib.hid h3⟩
theorem RowS.row {w : World} {n : Nat} {v : Value} {l : List Value} (h : RowS w 1 v n l) : Row w v l := by
 have hl := h.1
 rw [Nat.mul_one] at hl
 subst hl
 rcases h.2 with ⟨a0, cap, h1, h2, h3, h4⟩ | h
 ·exact .inl ⟨a0, cap, by rw [h1], List.eq_nil_of_length_eq_zero h2, h3, h4⟩
 ·exact .inr h

/-- cell j of element i in a row of elements of C cells each -/
theorem flat_get {α : Type} {cells : α → List Value} {C : Nat} (hC : ∀ x, (cells x).length = C) : ∀ (l : List α) (i j : Nat) (x : α), l[i]? = some x → j < C → (l.flatMap cells)[i * C + j]? = (cells x)[j]?
 | [], i, j, x, h, _ => by simp at h
 |y :: l, 0, j, x, h, hj => by
  simp at h
  subst h
  rw [List.flatMap_cons, Nat.zero_mul, Nat.zero_add, List.getElem?_append_left (by rw [hC]; exact hj)]
 |y :: l, i + 1, j, x, h, hj => by
  rw [List.flatMap_cons, List.getElem?_append_right (by rw [hC, Nat.succ_mul]; omega), hC, show (i + 1) * C + j - C = i * C + j from by rw [Nat.succ_mul]; omega]
  exact flat_get hC l i j x (by simpa using h) hj
theorem flat_len {α : Type} {cells : α → List Value} {C : Nat} (hC : ∀ x, (cells x).length = C) (l : List α) : (l.flatMap cells).length = l.length * C := by
 induction l with
 |nil => simp
 |cons y l ih => rw [List.flatMap_cons, List.length_append, hC, ih, List.length_cons, Nat.succ_mul, Nat.add_comm]

section
variable {H : Type} {enc : TypeId × Value → H} {P : Program} {w : World} {base : Nat} {sp : Nat → Bool} {held : Bool}

/-- whatever reads as data of type e is the cells of some x that is good -/
def Opens (enc : TypeId × Value → H) (P : Program) (w : World) (base : Nat) (sp : Nat → Bool) (held : Bool) (e : TypeId) {α : Type} (cells : α → List Value) (good : α → Prop) : Prop :=
 ∀ (n : Nat) (cs : List Value) (d : DataW H × List MemPlace), DataW.trod enc P w base sp held n e cs = some d → ∃ x, cs = cells x ∧ good x

theorem opens_int {e : TypeId} {k : IntKind} (he : P.underlying e = some (.int k)) : Opens enc P w base sp held e (fun a : Int => [.int k a]) (fun a => (Lit.int k a).wf = true) := by
 intro n cs d h
 obtain ⟨a, h1, _, h2⟩ := DataW.trod_int he h
 exact ⟨a, h1, h2⟩
theorem opens_string {e : TypeId} (he : P.underlying e = some .string) : Opens enc P w base sp held e (fun a : ByteArray => [.string a]) (fun a => a.size ≤ maxLen) := by
 intro n cs d h
 obtain ⟨a, h1, _, h2⟩ := DataW.trod_string he h
 exact ⟨a, h1, h2⟩
theorem opens_map {e : TypeId} {α β : Type} {cells : α → List Value} {good : α → Prop} {cells' : β → List Value} {good' : β → Prop} (h : Opens enc P w base sp held e cells good) (f : α → β) (hc : ∀ x, good x → cells' (f x) = cells x) (hg : ∀ x, good x → good' (f x)) : Opens enc P w base sp held e cells' good' := by
 intro n cs d hd
 obtain ⟨x, h1, h2⟩ := h n cs d hd
 exact ⟨f x, by rw [hc x h2]; exact h1, hg x h2⟩

theorem opens_list {α : Type} {e : TypeId} {cells : α → List Value} {good : α → Prop} (h : Opens enc P w base sp held e cells good) (n : Nat) (len : Nat) (C : Nat) (a : Addr)
  (hi : ∀ i, i < len → ∃ cs' d, w.cells? base (a.add (i * C)) C = some cs' ∧ DataW.trod enc P w base sp held n e cs' = some d) :
  ∃ l : List α, l.length = len ∧ (∀ x ∈ l, good x) ∧ ∀ i x, l[i]? = some x → ∀ j, j < C → w.cell? (a.add (i * C + j)) = (cells x)[j]? := by
 induction len with
 |zero => exact ⟨[], rfl, by simp, by simp⟩
 |succ len ih =>
  obtain ⟨l, h1, h2, h3⟩ := ih (fun i hlt => hi i (by omega))
  obtain ⟨cs', d, h4, h5⟩ := hi len (by omega)
  obtain ⟨x, rfl, hx⟩ := h n cs' d h5
  obtain ⟨_, _, h6⟩ := World.cells?_some h4
  refine ⟨l ++ [x], by simp [h1], ?_, ?_⟩
  ·intro y hy
   rcases List.mem_append.1 hy with hy | hy
   ·exact h2 y hy
   ·simp at hy; subst hy; exact hx
  ·intro i y hy j hj
   by_cases hlt : i < l.length
   ·rw [List.getElem?_append_left hlt] at hy
    exact h3 i y hy j hj
   ·rw [List.getElem?_append_right (by omega)] at hy
    have : i - l.length = 0 := by
     rcases Nat.eq_zero_or_pos (i - l.length) with h0 | h0
     ·exact h0
     ·rw [List.getElem?_eq_none (by simp; omega)] at hy; cases hy
    rw [this] at hy
    simp at hy
    subst hy
    have hil : i = len := by omega
    subst hil
    rw [← Go.Deep.add_add]
    exact h6 j hj

theorem opens_slice {t e : TypeId} {C : Nat} {α : Type} {cells : α → List Value} {good : α → Prop} (ht : P.underlying t = some (.slice e)) (hC : P.cellsOf e = C) (h0 : 0 < C) (hlen : ∀ x, (cells x).length = C) (ho : Opens enc P w base sp held e cells good) :
  Opens enc P w base sp held t (fun x : Value × List α => [x.1]) (fun x => RowS w C x.1 x.2.length (x.2.flatMap cells) ∧ ∀ y ∈ x.2, good y) := by
 intro n cs d h
 rcases Go.Deep.open_slice ht h with ⟨rfl, _⟩ | ⟨a, len, cap, m, n', D, Pl, rfl, _, hl, hm, hmm, _, hi⟩
 ·exact ⟨(.slice none 0 0, []), rfl, ⟨by simp, .inl ⟨none, 0, rfl, rfl, by simp [maxLen], fun _ => rfl⟩⟩, by simp⟩
 ·rw [hC] at hi
  have hlm : len ≤ m := by rw [hmm]; split <;> omega
  obtain ⟨l, h1, h2, h3⟩ := opens_list ho n' len C a (fun i hlt => by
   obtain ⟨cs', h4, h5⟩ := hi i (by omega)
   exact ⟨cs', _, h4, h5⟩)
  refine ⟨(.slice (some a) len cap, l), rfl, ⟨flat_len hlen l, ?_⟩, h2⟩
  rcases Nat.eq_zero_or_pos len with hz | hp
  ·subst hz
   exact .inl ⟨some a, cap, rfl, h1, hm, fun h => by cases h⟩
  ·have hcell : ∀ i x, (l.flatMap cells)[i]? = some x → w.cell? (a.add i) = some x := by
    intro i x hx
    have hilt : i < l.length * C := by
     have := (List.getElem?_eq_some_iff.1 hx).1
     rwa [flat_len hlen] at this
    have hq : i / C < l.length := by rw [Nat.div_lt_iff_lt_mul h0]; exact hilt
    have hr : i % C < C := Nat.mod_lt _ h0
    have hdm : i / C * C + i % C = i := by rw [Nat.mul_comm]; exact Nat.div_add_mod i C
    have hy : l[i / C]? = some l[i / C] := List.getElem?_eq_getElem hq
    have e1 := flat_get hlen l (i / C) (i % C) _ hy hr
    have e2 := h3 (i / C) _ hy (i % C) hr
    rw [hdm] at e1 e2
    rw [e2, ← e1, hx]
   obtain ⟨b, off, spot⟩ := a
   have hspot : spot = none := by
    have hlt : 0 < (l.flatMap cells).length := by rw [flat_len hlen, h1]; exact Nat.mul_pos hp h0
    have := hcell 0 _ (List.getElem?_eq_getElem hlt)
    simpa [Addr.add] using World.cell?_spot this
   subst hspot
   refine .inr ⟨b, off, cap, by rw [h1], by rw [h1]; exact hl, hm, fun i x hx => ?_⟩
   rw [← Go.WideShapes.add_plain]
   exact hcell i x hx

/-- the fields of a struct from an offset on -/
def OpensF (enc : TypeId × Value → H) (P : Program) (w : World) (base : Nat) (sp : Nat → Bool) (held : Bool) (fs : List Field) (off tot : Nat) {α : Type} (cells : α → List Value) (good : α → Prop) : Prop :=
 ∀ (n : Nat) (cs : List Value), cs.length = tot → (∀ f ∈ fs, ∃ d, DataW.trod enc P w base sp held n f.type ((cs.drop f.offset).take (P.cellsOf f.type)) = some d) → ∃ x, cs.drop off = cells x ∧ good x

theorem opensF_nil {tot : Nat} : OpensF enc P w base sp held [] tot tot (fun _ : Unit => []) (fun _ => True) := fun _ cs hl _ => ⟨(), by simp [← hl], trivial⟩
theorem opensF_cons {f : Field} {fs : List Field} {off c tot : Nat} {α β : Type} {c0 : α → List Value} {g0 : α → Prop} {c1 : β → List Value} {g1 : β → Prop} (hoff : f.offset = off) (hc : P.cellsOf f.type = c)
  (hf : Opens enc P w base sp held f.type c0 g0) (hr : OpensF enc P w base sp held fs (off + c) tot c1 g1) : OpensF enc P w base sp held (f :: fs) off tot (fun x : α × β => c0 x.1 ++ c1 x.2) (fun x => g0 x.1 ∧ g1 x.2) := by
 intro n cs hl h
 obtain ⟨d, hd⟩ := h f (by simp)
 obtain ⟨x, hx, gx⟩ := hf n _ d hd
 obtain ⟨y, hy, gy⟩ := hr n cs hl (fun f hf => h f (by simp [hf]))
 refine ⟨(x, y), ?_, gx, gy⟩
 rw [hoff, hc] at hx
 show cs.drop off = c0 x ++ c1 y
 rw [← hx, ← hy, ← List.drop_drop, List.take_append_drop]
theorem opens_struct {t : TypeId} {fs : Array Field} {tot : Nat} {α : Type} {cells : α → List Value} {good : α → Prop} (ht : P.underlying t = some (.struct fs)) (hC : P.cellsOf t = tot) (h : OpensF enc P w base sp held fs.toList 0 tot cells good) :
  Opens enc P w base sp held t cells good := by
 intro n cs d hd
 obtain ⟨xs, n', _, _, hlen, hxl, hg⟩ := DataW.trod_struct ht hd
 obtain ⟨x, hx, gx⟩ := h n' cs (by rw [hlen, hC]) (fun f hf => by
  obtain ⟨i, hi⟩ := List.mem_iff_getElem?.1 hf
  have hi' : fs[i]? = some f := by simpa using hi
  have hlt : i < xs.length := by rw [hxl]; exact (Array.getElem?_eq_some_iff.1 hi').1
  exact ⟨xs[i], by rw [hg i f hi']; exact List.getElem?_eq_getElem hlt⟩)
 exact ⟨x, by simpa using hx, gx⟩

/-- a parameter that is a slice -/
theorem open_param_slice {r : Reach} {b0 : Nat} {t e : TypeId} {v : Value} {d : DataW H} {ps : List MemPlace} {α : Type} {C : Nat} {cells : α → List Value} {good : α → Prop} (ht : P.underlying t = some (.slice e)) (hC : P.cellsOf e = C) (h0 : 0 < C) (hlen : ∀ x, (cells x).length = C)
  (hval : Value.okWide P w r b0 t v) (h : DataW.Trod enc P w base sp held t v d ps) (ho : Opens enc P w base sp held e cells good) : ∃ l : List α, RowS w C v l.length (l.flatMap cells) ∧ ∀ y ∈ l, good y := by
 obtain ⟨a0, len, cap, rfl⟩ := okWide_slice ht hval
 obtain ⟨fuel, hf⟩ := h
 obtain ⟨⟨v, l⟩, h1, h2, h3⟩ := opens_slice ht hC h0 hlen ho fuel _ _ hf
 simp [Value.cells] at h1
 subst h1
 exact ⟨l, h2, h3⟩
end
end Go.Proofs.YtklbemkafdccgaaGreat

/- Parts of slices whose elements have several cells. For every program. -/
namespace Go.Proofs.YtklbemkafdccgaaGreat
open Go.RowKit

def cutS (C : Nat) (p : Option Addr) (lo hi cap : Nat) : Value := .slice (if cap = lo then p else p.map (·.add (lo * C))) (hi - lo) (cap - lo)
theorem sliced_cutS (C : Nat) (p : Option Addr) (lo hi cap : Nat) : sliced p lo hi cap C = cutS C p lo hi cap := by simp [sliced, cutS]
theorem RowS.cut {w : World} {C : Nat} {p : Option Addr} {cap n : Nat} {l : List Value} (h : RowS w C (.slice p n cap) n l) {lo hi : Nat} (h1 : lo ≤ hi) (h2 : hi ≤ n) : RowS w C (cutS C p lo hi cap) (hi - lo) ((l.drop (lo * C)).take ((hi - lo) * C)) := by
 obtain ⟨hl, h⟩ := h
 have hmul : hi * C ≤ n * C := Nat.mul_le_mul_right _ h2
 have hsub : (hi - lo) * C = hi * C - lo * C := Nat.sub_mul ..
 refine ⟨by rw [List.length_take, List.length_drop, hl]; omega, ?_⟩
 rcases h with ⟨a0, cap', hv, rfl, hc, h0⟩ | ⟨b, off, cap', hv, h3, h4, h5⟩
 ·simp only [Value.slice.injEq] at hv
  obtain ⟨rfl, -, rfl⟩ := hv
  obtain rfl : hi = 0 := by omega
  obtain rfl : lo = 0 := by omega
  refine .inl ⟨if cap = 0 then p else p.map (·.add (0 * C)), cap, by simp [cutS], by simp, hc, ?_⟩
  intro h
  split at h
  ·assumption
  ·exact h0 (by simpa using h)
 ·simp only [Value.slice.injEq] at hv
  obtain ⟨rfl, -, rfl⟩ := hv
  by_cases hlo : cap = lo
  ·have : hi = lo := by omega
   subst this
   refine .inl ⟨some ⟨b, off, none⟩, cap - hi, by simp [cutS, hlo], by simp, by omega, fun h => by cases h⟩
  ·refine .inr ⟨b, off + lo * C, cap - lo, ?_, by omega, by omega, fun i x hx => ?_⟩
   ·simp [cutS, hlo, Go.WideShapes.add_plain]
   ·have hi' : i < (hi - lo) * C := by
     have := (List.getElem?_eq_some_iff.1 hx).1
     rw [List.length_take] at this
     omega
    rw [Nat.add_assoc]
    refine h5 (lo * C + i) x ?_
    simpa [List.getElem?_take, hi'] using hx
theorem flat_drop {α : Type} {cells : α → List Value} {C : Nat} (hC : ∀ x, (cells x).length = C) : ∀ (l : List α) (n : Nat), (l.flatMap cells).drop (n * C) = (l.drop n).flatMap cells
 | [], n => by simp
 |y :: l, 0 => by simp
 |y :: l, n + 1 => by
  rw [List.flatMap_cons, List.drop_succ_cons, ← flat_drop hC l n, List.drop_append, List.drop_eq_nil_of_le (by rw [hC, Nat.succ_mul]; omega), List.nil_append, hC, show (n + 1) * C - C = n * C from by rw [Nat.succ_mul]; omega]
theorem flat_take {α : Type} {cells : α → List Value} {C : Nat} (hC : ∀ x, (cells x).length = C) : ∀ (l : List α) (n : Nat), (l.flatMap cells).take (n * C) = (l.take n).flatMap cells
 | [], n => by simp
 |y :: l, 0 => by simp
 |y :: l, n + 1 => by
  rw [List.flatMap_cons, List.take_succ_cons, List.flatMap_cons, ← flat_take hC l n, List.take_append, List.take_of_length_le (by rw [hC, Nat.succ_mul]; omega), hC, show (n + 1) * C - C = n * C from by rw [Nat.succ_mul]; omega]
theorem RowS.part {α : Type} {cells : α → List Value} {C : Nat} (hC : ∀ x, (cells x).length = C) {w : World} {p : Option Addr} {cap : Nat} {l : List α} (h : RowS w C (.slice p l.length cap) l.length (l.flatMap cells)) {lo hi : Nat} (h1 : lo ≤ hi) (h2 : hi ≤ l.length) :
  RowS w C (cutS C p lo hi cap) (hi - lo) (((l.drop lo).take (hi - lo)).flatMap cells) := by
 have := h.cut h1 h2
 rwa [flat_drop hC, flat_take hC] at this
section
variable {P : Program}
theorem run_cutS_h (w : World) {C : Nat} {t e : TypeId} (ht : P.underlying t = some (.slice e)) (hs : ∀ w, (sizeOf e).run P w = .ok C w) (p : Option Addr) (len cap : Nat) {kh : IntKind} (h : Nat) (h2 : h ≤ cap) :
  (Instr.slice t (.slice p len cap) none (some (.int kh h)) none).run P w = .ok (cutS C p 0 h cap) w := by
 have he : P.elem t = e := by simp [Program.elem, ht]
 rw [run_slice_h w t p len cap (by rw [he]; exact ht) kh h (by omega) (by omega), he, hs]
 simp [Result.andThen, sliced_cutS]
theorem run_cutS_l (w : World) {C : Nat} {t e : TypeId} (ht : P.underlying t = some (.slice e)) (hs : ∀ w, (sizeOf e).run P w = .ok C w) (p : Option Addr) (len cap : Nat) {kl : IntKind} (l : Nat) (h2 : l ≤ len) :
  (Instr.slice t (.slice p len cap) (some (.int kl l)) none none).run P w = .ok (cutS C p l len cap) w := by
 have he : P.elem t = e := by simp [Program.elem, ht]
 rw [run_slice_l w t p len cap (by rw [he]; exact ht) kl l (by omega) (by omega), he, hs]
 simp [Result.andThen, sliced_cutS]
end
end Go.Proofs.YtklbemkafdccgaaGreat

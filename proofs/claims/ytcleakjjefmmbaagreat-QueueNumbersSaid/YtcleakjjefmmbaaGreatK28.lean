/- Several texts in one: Open, EnMem, CutS, RecOpen, EnOpen, EnLight. -/
import Derived.Test.YtcleakjjefmmbaaGreatLawKit
import Derived.Test.YtcleakjjefmmbaaGreatK02
import Derived.Deep.Slices
import Derived.ChangeArms
import Derived.Test.YtcleakjjefmmbaaGreatK15
import Derived.Test.YtcleakjjefmmbaaGreatK01
import Derived.Test.YtcleakjjefmmbaaGreatMid
import Derived.Test.YtcleakjjefmmbaaGreatDrawn
import Derived.Deep.LoopGhost
import Derived.Deep.DeepCutAuto
import Derived.Deep.CutBlock
import Derived.Test.YtcleakjjefmmbaaGreatK00
import Derived.Test.YtcleakjjefmmbaaGreatRows
/- Opening arguments of whatever shape: integers, bools, strings, structs, slices, one inside the other. For every program. -/
namespace Go.Proofs.YtcleakjjefmmbaaGreat
open Go.RowKit Go.WideShapes Go.ChangeShapes

theorem RowS.keeps {w w' : World} {C n : Nat} {v : Value} {l : List Value} (h : RowS w C v n l) (k : Keeps w w') : RowS w' C v n l := by
 refine ⟨h.1, ?_⟩
 rcases h.2 with h | ⟨b, off, cap, hv, h1, h2, h3⟩
 ·exact .inl h
 ·exact .inr ⟨b, off, cap, hv, h1, h2, fun i x hx => by
   have := h3 i x hx
   rw [k.cell (p := ⟨b, off + i, none⟩) (lt_of_cell this)]; exact this⟩
theorem RowS.form {w : World} {C n : Nat} {v : Value} {l : List Value} (h : RowS w C v n l) : ∃ p cap, v = .slice p n cap ∧ n ≤ cap ∧ cap ≤ 9223372036854775807 := by
 rcases h.2 with ⟨a0, cap, rfl, rfl, h, _⟩ | ⟨b, off, cap, rfl, h1, h2, _⟩
 ·exact ⟨_, _, rfl, Nat.zero_le _, by simpa [maxLen] using h⟩
 ·exact ⟨_, _, rfl, h1, by simpa [maxLen] using h2⟩
theorem RowS.at_ {w : World} {C n : Nat} {v : Value} {l : List Value} (h : RowS w C v n l) (hn : 0 < n) : ∃ b off cap, v = .slice (some ⟨b, off, none⟩) n cap ∧ n ≤ cap ∧ cap ≤ 9223372036854775807 ∧ Hid (∀ i x, l[i]? = some x → w.cell? ⟨b, off + i, none⟩ = some x) := by
 rcases h.2 with ⟨a0, cap, rfl, rfl, h, _⟩ | ⟨b, off, cap, rfl, h1, h2, h3⟩
 ·omega
 ·exact ⟨b, off, cap, rfl, h1, by simpa [maxLen] using h2, Lib.hid h3⟩
theorem RowS.row {w : World} {n : Nat} {v : Value} {l : List Value} (h : RowS w 1 v n l) : Row w v l := by
 have hl := h.1
 rw [Nat.mul_one] at hl
 subst hl
 rcases h.2 with ⟨a0, cap, h1, h2, h3, h4⟩ | h
 ·exact .inl ⟨a0, cap, by rw [h1], List.eq_nil_of_length_eq_zero h2, h3, h4⟩
 ·exact .inr h

/-- cell j of element i in a row of elements of C cells each -/
theorem flat_get {α : Type} {cells : α → List Value} {C : Nat} (hC : ∀ x, (cells x).length = C) : ∀ (l : List α) (i j : Nat) (x : α), l[i]? = some x → j < C → (l.flatMap cells)[i * C + j]? = (cells x)[j]?
 | [], i, j, x, h, _ => by simp at h
 |y :: l, 0, j, x, h, hj => by
  simp at h
  subst h
  rw [List.flatMap_cons, Nat.zero_mul, Nat.zero_add, List.getElem?_append_left (by rw [hC]; exact hj)]
 |y :: l, i + 1, j, x, h, hj => by
  rw [List.flatMap_cons, List.getElem?_append_right (by rw [hC, Nat.succ_mul]; omega), hC, show (i + 1) * C + j - C = i * C + j from by rw [Nat.succ_mul]; omega]
  exact flat_get hC l i j x (by simpa using h) hj
theorem flat_len {α : Type} {cells : α → List Value} {C : Nat} (hC : ∀ x, (cells x).length = C) (l : List α) : (l.flatMap cells).length = l.length * C := by
 induction l with
 |nil => simp
 |cons y l ih => rw [List.flatMap_cons, List.length_append, hC, ih, List.length_cons, Nat.succ_mul, Nat.add_comm]

section
variable {H : Type} {enc : TypeId × Value → H} {P : Program} {w : World} {base : Nat} {sp : Nat → Bool} {held : Bool}

/-- whatever reads as data of type e is the cells of some x that is good -/
def Opens (enc : TypeId × Value → H) (P : Program) (w : World) (base : Nat) (sp : Nat → Bool) (held : Bool) (e : TypeId) {α : Type} (cells : α → List Value) (good : α → Prop) : Prop :=
 ∀ (n : Nat) (cs : List Value) (d : DataW H × List MemPlace), DataW.trod enc P w base sp held n e cs = some d → ∃ x, cs = cells x ∧ good x

theorem opens_int {e : TypeId} {k : IntKind} (he : P.underlying e = some (.int k)) : Opens enc P w base sp held e (fun a : Int => [.int k a]) (fun a => (Lit.int k a).wf = true) := by
 intro n cs d h
 obtain ⟨a, h1, _, h2⟩ := DataW.trod_int he h
 exact ⟨a, h1, h2⟩
theorem opens_string {e : TypeId} (he : P.underlying e = some .string) : Opens enc P w base sp held e (fun a : ByteArray => [.string a]) (fun a => a.size ≤ maxLen) := by
 intro n cs d h
 obtain ⟨a, h1, _, h2⟩ := DataW.trod_string he h
 exact ⟨a, h1, h2⟩
theorem opens_map {e : TypeId} {α β : Type} {cells : α → List Value} {good : α → Prop} {cells' : β → List Value} {good' : β → Prop} (h : Opens enc P w base sp held e cells good) (f : α → β) (hc : ∀ x, good x → cells' (f x) = cells x) (hg : ∀ x, good x → good' (f x)) : Opens enc P w base sp held e cells' good' := by
 intro n cs d hd
 obtain ⟨x, h1, h2⟩ := h n cs d hd
 exact ⟨f x, by rw [hc x h2]; exact h1, hg x h2⟩

theorem opens_list {α : Type} {e : TypeId} {cells : α → List Value} {good : α → Prop} (h : Opens enc P w base sp held e cells good) (n : Nat) (len : Nat) (C : Nat) (a : Addr)
  (hi : ∀ i, i < len → ∃ cs' d, w.cells? base (a.add (i * C)) C = some cs' ∧ DataW.trod enc P w base sp held n e cs' = some d) :
  ∃ l : List α, l.length = len ∧ (∀ x ∈ l, good x) ∧ ∀ i x, l[i]? = some x → ∀ j, j < C → w.cell? (a.add (i * C + j)) = (cells x)[j]? := by
 induction len with
 |zero => exact ⟨[], rfl, by simp, by simp⟩
 |succ len ih =>
  obtain ⟨l, h1, h2, h3⟩ := ih (fun i hlt => hi i (by omega))
  obtain ⟨cs', d, h4, h5⟩ := hi len (by omega)
  obtain ⟨x, rfl, hx⟩ := h n cs' d h5
  obtain ⟨_, _, h6⟩ := World.cells?_some h4
  refine ⟨l ++ [x], by simp [h1], ?_, ?_⟩
  ·intro y hy
   rcases List.mem_append.1 hy with hy | hy
   ·exact h2 y hy
   ·simp at hy; subst hy; exact hx
  ·intro i y hy j hj
   by_cases hlt : i < l.length
   ·rw [List.getElem?_append_left hlt] at hy
    exact h3 i y hy j hj
   ·rw [List.getElem?_append_right (by omega)] at hy
    have : i - l.length = 0 := by
     rcases Nat.eq_zero_or_pos (i - l.length) with h0 | h0
     ·exact h0
     ·rw [List.getElem?_eq_none (by simp; omega)] at hy; cases hy
    rw [this] at hy
    simp at hy
    subst hy
    have hil : i = len := by omega
    subst hil
    rw [← Go.Deep.add_add]
    exact h6 j hj

theorem opens_slice {t e : TypeId} {C : Nat} {α : Type} {cells : α → List Value} {good : α → Prop} (ht : P.underlying t = some (.slice e)) (hC : P.cellsOf e = C) (h0 : 0 < C) (hlen : ∀ x, (cells x).length = C) (ho : Opens enc P w base sp held e cells good) :
  Opens enc P w base sp held t (fun x : Value × List α => [x.1]) (fun x => RowS w C x.1 x.2.length (x.2.flatMap cells) ∧ ∀ y ∈ x.2, good y) := by
 intro n cs d h
 rcases Go.Deep.open_slice ht h with ⟨rfl, _⟩ | ⟨a, len, cap, m, n', D, Pl, rfl, _, hl, hm, hmm, _, hi⟩
 ·exact ⟨(.slice none 0 0, []), rfl, ⟨by simp, .inl ⟨none, 0, rfl, rfl, by simp [maxLen], fun _ => rfl⟩⟩, by simp⟩
 ·rw [hC] at hi
  have hlm : len ≤ m := by rw [hmm]; split <;> omega
  obtain ⟨l, h1, h2, h3⟩ := opens_list ho n' len C a (fun i hlt => by
   obtain ⟨cs', h4, h5⟩ := hi i (by omega)
   exact ⟨cs', _, h4, h5⟩)
  refine ⟨(.slice (some a) len cap, l), rfl, ⟨flat_len hlen l, ?_⟩, h2⟩
  rcases Nat.eq_zero_or_pos len with hz | hp
  ·subst hz
   exact .inl ⟨some a, cap, rfl, h1, hm, fun h => by cases h⟩
  ·have hcell : ∀ i x, (l.flatMap cells)[i]? = some x → w.cell? (a.add i) = some x := by
    intro i x hx
    have hilt : i < l.length * C := by
     have := (List.getElem?_eq_some_iff.1 hx).1
     rwa [flat_len hlen] at this
    have hq : i / C < l.length := by rw [Nat.div_lt_iff_lt_mul h0]; exact hilt
    have hr : i % C < C := Nat.mod_lt _ h0
    have hdm : i / C * C + i % C = i := by rw [Nat.mul_comm]; exact Nat.div_add_mod i C
    have hy : l[i / C]? = some l[i / C] := List.getElem?_eq_getElem hq
    have e1 := flat_get hlen l (i / C) (i % C) _ hy hr
    have e2 := h3 (i / C) _ hy (i % C) hr
    rw [hdm] at e1 e2
    rw [e2, ← e1, hx]
   obtain ⟨b, off, spot⟩ := a
   have hspot : spot = none := by
    have hlt : 0 < (l.flatMap cells).length := by rw [flat_len hlen, h1]; exact Nat.mul_pos hp h0
    have := hcell 0 _ (List.getElem?_eq_getElem hlt)
    simpa [Addr.add] using World.cell?_spot this
   subst hspot
   refine .inr ⟨b, off, cap, by rw [h1], by rw [h1]; exact hl, hm, fun i x hx => ?_⟩
   rw [← Go.WideShapes.add_plain]
   exact hcell i x hx

/-- the fields of a struct from an offset on -/
def OpensF (enc : TypeId × Value → H) (P : Program) (w : World) (base : Nat) (sp : Nat → Bool) (held : Bool) (fs : List Field) (off tot : Nat) {α : Type} (cells : α → List Value) (good : α → Prop) : Prop :=
 ∀ (n : Nat) (cs : List Value), cs.length = tot → (∀ f ∈ fs, ∃ d, DataW.trod enc P w base sp held n f.type ((cs.drop f.offset).take (P.cellsOf f.type)) = some d) → ∃ x, cs.drop off = cells x ∧ good x

theorem opensF_nil {tot : Nat} : OpensF enc P w base sp held [] tot tot (fun _ : Unit => []) (fun _ => True) := fun _ cs hl _ => ⟨(), by simp [← hl], trivial⟩
theorem opensF_cons {f : Field} {fs : List Field} {off c tot : Nat} {α β : Type} {c0 : α → List Value} {g0 : α → Prop} {c1 : β → List Value} {g1 : β → Prop} (hoff : f.offset = off) (hc : P.cellsOf f.type = c)
  (hf : Opens enc P w base sp held f.type c0 g0) (hr : OpensF enc P w base sp held fs (off + c) tot c1 g1) : OpensF enc P w base sp held (f :: fs) off tot (fun x : α × β => c0 x.1 ++ c1 x.2) (fun x => g0 x.1 ∧ g1 x.2) := by
 intro n cs hl h
 obtain ⟨d, hd⟩ := h f (by simp)
 obtain ⟨x, hx, gx⟩ := hf n _ d hd
 obtain ⟨y, hy, gy⟩ := hr n cs hl (fun f hf => h f (by simp [hf]))
 refine ⟨(x, y), ?_, gx, gy⟩
 rw [hoff, hc] at hx
 show cs.drop off = c0 x ++ c1 y
 rw [← hx, ← hy, ← List.drop_drop, List.take_append_drop]
theorem opens_struct {t : TypeId} {fs : Array Field} {tot : Nat} {α : Type} {cells : α → List Value} {good : α → Prop} (ht : P.underlying t = some (.struct fs)) (hC : P.cellsOf t = tot) (h : OpensF enc P w base sp held fs.toList 0 tot cells good) :
  Opens enc P w base sp held t cells good := by
 intro n cs d hd
 obtain ⟨xs, n', _, _, hlen, hxl, hg⟩ := DataW.trod_struct ht hd
 obtain ⟨x, hx, gx⟩ := h n' cs (by rw [hlen, hC]) (fun f hf => by
  obtain ⟨i, hi⟩ := List.mem_iff_getElem?.1 hf
  have hi' : fs[i]? = some f := by simpa using hi
  have hlt : i < xs.length := by rw [hxl]; exact (Array.getElem?_eq_some_iff.1 hi').1
  exact ⟨xs[i], by rw [hg i f hi']; exact List.getElem?_eq_getElem hlt⟩)
 exact ⟨x, by simpa using hx, gx⟩

/-- a parameter that is a slice -/
theorem open_param_slice {r : Reach} {b0 : Nat} {t e : TypeId} {v : Value} {d : DataW H} {ps : List MemPlace} {α : Type} {C : Nat} {cells : α → List Value} {good : α → Prop} (ht : P.underlying t = some (.slice e)) (hC : P.cellsOf e = C) (h0 : 0 < C) (hlen : ∀ x, (cells x).length = C)
  (hval : Value.okWide P w r b0 t v) (h : DataW.Trod enc P w base sp held t v d ps) (ho : Opens enc P w base sp held e cells good) : ∃ l : List α, RowS w C v l.length (l.flatMap cells) ∧ ∀ y ∈ l, good y := by
 obtain ⟨a0, len, cap, rfl⟩ := okWide_slice ht hval
 obtain ⟨fuel, hf⟩ := h
 obtain ⟨⟨v, l⟩, h1, h2, h3⟩ := opens_slice ht hC h0 hlen ho fuel _ _ hf
 simp [Value.cells] at h1
 subst h1
 exact ⟨l, h2, h3⟩
end
end Go.Proofs.YtcleakjjefmmbaaGreat

/- envel: jobs in memory; states that are right. -/
namespace Go.Proofs.YtcleakjjefmmbaaGreat
open Go.RowKit
namespace Env
def tgC (t : TgP) : List Value := [.int .i64 t.u, .string (bstr t.l), .string (bstr t.d)]
def stC (x : StP) : List Value := [.int .i64 x.s, .int .i64 x.t, .int .i64 x.d, .int .i64 x.c]
def stA (x : StP) : Array Value := #[.int .i64 x.s, .int .i64 x.t, .int .i64 x.d, .int .i64 x.c]
theorem tgC_len (t : TgP) : (tgC t).length = 3 := rfl
theorem stC_len (t : StP) : (stC t).length = 4 := rfl
theorem tgM : Mids Tryz.prog 75 3 := ⟨⟨_, Tryz.underlying75, rfl⟩, by kernel_rfl⟩
theorem stM : Mids Tryz.prog 57 4 := ⟨⟨_, Tryz.underlying57, rfl⟩, by kernel_rfl⟩
theorem jobM : Mids Tryz.prog 55 7 := ⟨⟨_, Tryz.underlying55, rfl⟩, by kernel_rfl⟩
theorem adM : Mids Tryz.prog 50 2 := ⟨⟨_, Tryz.underlying50, rfl⟩, by kernel_rfl⟩
theorem rowS_at {α : Type} {w : World} {v : Value} {C : Nat} {cells : α → List Value} (hC : ∀ x, (cells x).length = C) {l : List α} (h : RowS w C v l.length (l.flatMap cells)) {j : Nat} (hj : j < l.length) :
  ∃ b off cap, v = .slice (some ⟨b, off, none⟩) l.length cap ∧ w.rangeAt b (off + j * C) (cells l[j]) := by
 obtain ⟨b, off, cap, hv, -, -, hc⟩ := h.at_ (by omega)
 refine ⟨b, off, cap, hv, fun i x hx => ?_⟩
 have hi : i < C := by
  have := (List.getElem?_eq_some_iff.1 hx).1
  rwa [hC] at this
 rw [Nat.add_assoc]
 refine hc.out (j * C + i) x ?_
 rw [flat_get hC l j i _ (List.getElem?_eq_getElem hj) hi]
 exact hx
abbrev jobA (j : JobP) (vt vs vb : Value) : Array Value := #[.int .i64 j.id, .int .i64 j.arr, .string (bstr j.fl), .string (bstr j.fd), vt, vs, vb]
/-- a job's three slices -/
structure JobAt (w : World) (j : JobP) (vt vs vb : Value) : Prop where
 tos : RowS w 3 vt j.tos.length (j.tos.flatMap tgC)
 st : RowS w 4 vs j.st.length (j.st.flatMap stC)
 body : Row w vb (j.body.map u8v)
theorem JobAt.keeps {w w' : World} {j : JobP} {vt vs vb : Value} (h : JobAt w j vt vs vb) (k : Keeps w w') : JobAt w' j vt vs vb := ⟨h.tos.keeps k, h.st.keeps k, h.body.keeps k⟩
/-- texts of a bounded length -/
def Short (j : JobP) : Prop := j.fl.length ≤ 1000000 ∧ j.fd.length ≤ 1000000 ∧ (∀ t ∈ j.tos, t.l.length ≤ 1000000 ∧ t.d.length ≤ 1000000 ∧ (Lit.int .i64 t.u).wf = true) ∧ j.tos.length ≤ 1000000 ∧ j.st.length ≤ 1000000 ∧ j.body.length ≤ 1000000

theorem within_any (n a b : Int) (w : World) : Calls Tryz.prog 125 #[.int .i64 n, .int .i64 a, .int .i64 b] w fun e w' => e = .returned (.bool (inB n a b)) ∧ w = w' := by
 have HX := Lib.hid (show inB n a b = decide (a ≤ n ∧ n ≤ b) from by unfold inB; rw [Bool.decide_and])
 go_enter Tryz.func125, Tryz.ntmps125
 go_wp2_with fail
 all_goals
  go_ret
  refine ⟨?_, rfl⟩
  rw [HX.out]
  refine retB ?_
  rw [Bool.eq_iff_iff]
  simp
  try omega
set_option maxRecDepth 100000 in
theorem goodState_any (x : StP) (w : World) : Calls Tryz.prog 126 #[.agg (stA x)] w fun e w' => e = .returned (.bool (goodStB x)) ∧ Keeps w w' := by
 obtain ⟨s, t, d, c⟩ := x
 have HX := Lib.hid (show goodStB ⟨s, t, d, c⟩ = (inB s 0 3 && inB t 0 65535 && inB d 0 4503599627370496 && (decide (c = 0) || inB c 200 599)) from rfl)
 have H1 := Lib.hid (within_any s 0 3)
 have H2 := Lib.hid (within_any t 0 65535)
 have H3 := Lib.hid (within_any d 0 4503599627370496)
 have H4 := Lib.hid (within_any c 200 599)
 have HK := Lib.hid ((Keeps.refl w).alloc (.cells #[.int .i64 s, .int .i64 t, .int .i64 d, .int .i64 c] 57))
 generalize goodStB ⟨s, t, d, c⟩ = r at *
 generalize inB s 0 3 = b1 at *
 generalize inB t 0 65535 = b2 at *
 generalize inB d 0 4503599627370496 = b3 at *
 generalize inB c 200 599 = b4 at *
 unfold stA
 go_enter Tryz.func126, Tryz.ntmps126
 go_wp2_with fail
 refine (H1.out _).mono ?_
 rintro e w1 ⟨rfl, rfl⟩
 cases b1 with
 |false =>
  go_wp2_with fail
  go_ret
  exact ⟨by rw [HX.out]; rfl, HK.out⟩
 |true =>
 go_wp2_with fail
 refine (H2.out _).mono ?_
 rintro e w1 ⟨rfl, rfl⟩
 cases b2 with
 |false =>
  go_wp2_with fail
  go_ret
  exact ⟨by rw [HX.out]; rfl, HK.out⟩
 |true =>
 go_wp2_with fail
 refine (H3.out _).mono ?_
 rintro e w1 ⟨rfl, rfl⟩
 cases b3 with
 |false =>
  go_wp2_with fail
  go_ret
  exact ⟨by rw [HX.out]; rfl, HK.out⟩
 |true =>
 by_cases hc : c = 0
 ·subst hc
  go_wp2_with fail
  go_ret
  exact ⟨by rw [HX.out]; rfl, HK.out⟩
 ·have e1 : (c == 0) = false := by simp [hc]
  have HC := Lib.hid (show decide (c = 0) = false from decide_eq_false hc)
  clear hc
  go_wp2_with fail
  refine (H4.out _).mono ?_
  rintro e w1 ⟨rfl, rfl⟩
  go_wp2_with fail
  go_ret
  exact ⟨retB (by rw [HX.out, HC.out]; cases b4 <;> rfl), HK.out⟩
end Env
end Go.Proofs.YtcleakjjefmmbaaGreat

/- Parts of slices whose elements have several cells. For every program. -/
namespace Go.Proofs.YtcleakjjefmmbaaGreat
open Go.RowKit

def cutS (C : Nat) (p : Option Addr) (lo hi cap : Nat) : Value := .slice (if cap = lo then p else p.map (·.add (lo * C))) (hi - lo) (cap - lo)
theorem sliced_cutS (C : Nat) (p : Option Addr) (lo hi cap : Nat) : sliced p lo hi cap C = cutS C p lo hi cap := by simp [sliced, cutS]
theorem cutS_sl (C : Nat) (p : Option Addr) (lo hi cap : Nat) : ∃ p', cutS C p lo hi cap = .slice p' (hi - lo) (cap - lo) := ⟨_, rfl⟩
theorem RowS.cut {w : World} {C : Nat} {p : Option Addr} {cap n : Nat} {l : List Value} (h : RowS w C (.slice p n cap) n l) {lo hi : Nat} (h1 : lo ≤ hi) (h2 : hi ≤ n) : RowS w C (cutS C p lo hi cap) (hi - lo) ((l.drop (lo * C)).take ((hi - lo) * C)) := by
 obtain ⟨hl, h⟩ := h
 have hmul : hi * C ≤ n * C := Nat.mul_le_mul_right _ h2
 have hsub : (hi - lo) * C = hi * C - lo * C := Nat.sub_mul ..
 refine ⟨by rw [List.length_take, List.length_drop, hl]; omega, ?_⟩
 rcases h with ⟨a0, cap', hv, rfl, hc, h0⟩ | ⟨b, off, cap', hv, h3, h4, h5⟩
 ·simp only [Value.slice.injEq] at hv
  obtain ⟨rfl, -, rfl⟩ := hv
  obtain rfl : hi = 0 := by omega
  obtain rfl : lo = 0 := by omega
  refine .inl ⟨if cap = 0 then p else p.map (·.add (0 * C)), cap, by simp [cutS], by simp, hc, ?_⟩
  intro h
  split at h
  ·assumption
  ·exact h0 (by simpa using h)
 ·simp only [Value.slice.injEq] at hv
  obtain ⟨rfl, -, rfl⟩ := hv
  by_cases hlo : cap = lo
  ·have : hi = lo := by omega
   subst this
   refine .inl ⟨some ⟨b, off, none⟩, cap - hi, by simp [cutS, hlo], by simp, by omega, fun h => by cases h⟩
  ·refine .inr ⟨b, off + lo * C, cap - lo, ?_, by omega, by omega, fun i x hx => ?_⟩
   ·simp [cutS, hlo, Go.WideShapes.add_plain]
   ·have hi' : i < (hi - lo) * C := by
     have := (List.getElem?_eq_some_iff.1 hx).1
     rw [List.length_take] at this
     omega
    rw [Nat.add_assoc]
    refine h5 (lo * C + i) x ?_
    simpa [List.getElem?_take, hi'] using hx
theorem flat_drop {α : Type} {cells : α → List Value} {C : Nat} (hC : ∀ x, (cells x).length = C) : ∀ (l : List α) (n : Nat), (l.flatMap cells).drop (n * C) = (l.drop n).flatMap cells
 | [], n => by simp
 |y :: l, 0 => by simp
 |y :: l, n + 1 => by
  rw [List.flatMap_cons, List.drop_succ_cons, ← flat_drop hC l n, List.drop_append, List.drop_eq_nil_of_le (by rw [hC, Nat.succ_mul]; omega), List.nil_append, hC, show (n + 1) * C - C = n * C from by rw [Nat.succ_mul]; omega]
theorem flat_take {α : Type} {cells : α → List Value} {C : Nat} (hC : ∀ x, (cells x).length = C) : ∀ (l : List α) (n : Nat), (l.flatMap cells).take (n * C) = (l.take n).flatMap cells
 | [], n => by simp
 |y :: l, 0 => by simp
 |y :: l, n + 1 => by
  rw [List.flatMap_cons, List.take_succ_cons, List.flatMap_cons, ← flat_take hC l n, List.take_append, List.take_of_length_le (by rw [hC, Nat.succ_mul]; omega), hC, show (n + 1) * C - C = n * C from by rw [Nat.succ_mul]; omega]
theorem RowS.part {α : Type} {cells : α → List Value} {C : Nat} (hC : ∀ x, (cells x).length = C) {w : World} {p : Option Addr} {cap : Nat} {l : List α} (h : RowS w C (.slice p l.length cap) l.length (l.flatMap cells)) {lo hi : Nat} (h1 : lo ≤ hi) (h2 : hi ≤ l.length) :
  RowS w C (cutS C p lo hi cap) (hi - lo) (((l.drop lo).take (hi - lo)).flatMap cells) := by
 have := h.cut h1 h2
 rwa [flat_drop hC, flat_take hC] at this
section
variable {P : Program}
theorem run_cutS_l (w : World) {C : Nat} {t e : TypeId} (ht : P.underlying t = some (.slice e)) (hs : ∀ w, (sizeOf e).run P w = .ok C w) (p : Option Addr) (len cap : Nat) {kl : IntKind} (l : Nat) (h2 : l ≤ len) :
  (Instr.slice t (.slice p len cap) (some (.int kl l)) none none).run P w = .ok (cutS C p l len cap) w := by
 have he : P.elem t = e := by simp [Program.elem, ht]
 rw [run_slice_l w t p len cap (by rw [he]; exact ht) kl l (by omega) (by omega), he, hs]
 simp [Result.andThen, sliced_cutS]
end
end Go.Proofs.YtcleakjjefmmbaaGreat

/- Records: how they lie in memory; parameters that are records. -/
namespace Go.Proofs.YtcleakjjefmmbaaGreat
open Go.RowKit
open Go.WideShapes
namespace Rcd

/-- a payload in memory: its slice, its bytes -/
def payC (x : Value × List UInt8) : List Value := [x.1]
def payOk (w : World) (x : Value × List UInt8) : Prop := Row w x.1 (x.2.map u8v)
theorem c5 : Tryz.prog.cellsOf 5 = 1 := by kernel_rfl
theorem opens_pay {H : Type} {enc : TypeId × Value → H} {w : World} {base : Nat} {sp : Nat → Bool} {held : Bool} : Opens enc Tryz.prog w base sp held 53 payC (payOk w) := by
 have h := opens_slice (enc := enc) (w := w) (base := base) (sp := sp) (held := held) Tryz.underlying53 c5 (by decide) (fun _ => rfl) (opens_int (enc := enc) (P := Tryz.prog) (w := w) (base := base) (sp := sp) (held := held) Tryz.underlying5)
 refine opens_map h (fun x => (x.1, x.2.map fun n => UInt8.ofNat n.toNat)) (fun x _ => rfl) ?_
 rintro ⟨v, zs⟩ ⟨hr, hw⟩
 have e1 : zs.flatMap (fun a : Int => [Value.int .u8 a]) = zs.map (.int .u8) := by
  clear hr hw
  induction zs with
  |nil => rfl
  |cons z zs ih => simp only [List.flatMap_cons, List.map_cons, ih]; rfl
 have : (zs.map fun n => UInt8.ofNat n.toNat).map u8v = zs.map (.int .u8) := by
  rw [List.map_map]
  refine List.map_congr_left fun n hn => ?_
  have hb : 0 ≤ n ∧ n ≤ 255 := by simpa [Lit.wf, IntKind.min, IntKind.max, IntKind.signed, IntKind.bits] using hw n hn
  simp [u8v]
  omega
 unfold payOk
 simp only
 rw [this, ← e1]
 exact hr.row

def i64ok (n : Int) : Prop := (Lit.int .i64 n).wf = true
end Rcd
end Go.Proofs.YtcleakjjefmmbaaGreat

/- Jobs, states as parameters of a law. -/
namespace Go.Proofs.YtcleakjjefmmbaaGreat
open Go.RowKit
namespace Env
open Adr (Str)
open Rcd (i64ok)
structure JobX where
 j : JobP
 vt : Value
 vs : Value
 vb : Value
def jobC7 (x : JobX) : List Value := [.int .i64 x.j.id, .int .i64 x.j.arr, .string (bstr x.j.fl), .string (bstr x.j.fd), x.vt, x.vs, x.vb]
structure TgOk (t : TgP) : Prop where
 u : i64ok t.u
 l : t.l.length ≤ maxLen
 d : t.d.length ≤ maxLen
structure StOk (x : StP) : Prop where
 s : i64ok x.s
 t : i64ok x.t
 d : i64ok x.d
 c : i64ok x.c
structure JobOk (w : World) (x : JobX) : Prop where
 at_ : JobAt w x.j x.vt x.vs x.vb
 id : i64ok x.j.id
 arr : i64ok x.j.arr
 fl : x.j.fl.length ≤ maxLen
 fd : x.j.fd.length ≤ maxLen
 ts : ∀ t ∈ x.j.tos, TgOk t
 ss : ∀ s ∈ x.j.st, StOk s
theorem JobOk.keeps {w w' : World} {x : JobX} (h : JobOk w x) (k : Keeps w w') : JobOk w' x := { h with at_ := h.at_.keeps k }
theorem cI : Tryz.prog.cellsOf 3 = 1 := by kernel_rfl
theorem cStr : Tryz.prog.cellsOf 9 = 1 := by kernel_rfl
theorem cAd : Tryz.prog.cellsOf 50 = 2 := by kernel_rfl
theorem cTg : Tryz.prog.cellsOf 75 = 3 := by kernel_rfl
theorem cSt : Tryz.prog.cellsOf 57 = 4 := by kernel_rfl
theorem cTgs : Tryz.prog.cellsOf 51 = 1 := by kernel_rfl
theorem cSts : Tryz.prog.cellsOf 52 = 1 := by kernel_rfl
theorem cU8s : Tryz.prog.cellsOf 53 = 1 := by kernel_rfl
theorem cJob : Tryz.prog.cellsOf 55 = 7 := by kernel_rfl
section
variable {H : Type} {enc : TypeId × Value → H} {w : World} {base : Nat} {sp : Nat → Bool} {held : Bool}
theorem opens_ad : Opens enc Tryz.prog w base sp held 50 (fun a : Str × Str => [.string (bstr a.1), .string (bstr a.2)]) (fun a => a.1.length ≤ maxLen ∧ a.2.length ≤ maxLen) := by
 have h := opens_struct (enc := enc) (w := w) (base := base) (sp := sp) (held := held) Tryz.underlying50 cAd
  (opensF_cons rfl cStr (opens_string Tryz.underlying9) (opensF_cons rfl cStr (opens_string Tryz.underlying9) opensF_nil))
 refine opens_map h (fun x => (x.1.data.toList, x.2.1.data.toList)) ?_ ?_
 ·rintro ⟨a, b, _⟩ _
  show [Value.string (bstr a.data.toList), .string (bstr b.data.toList)] = _
  rw [bstr_list, bstr_list]
  rfl
 ·rintro ⟨a, b, _⟩ ⟨h1, h2, _⟩
  exact ⟨by show a.data.toList.length ≤ maxLen; rw [Array.length_toList]; exact h1, by show b.data.toList.length ≤ maxLen; rw [Array.length_toList]; exact h2⟩
theorem opens_tg : Opens enc Tryz.prog w base sp held 75 tgC TgOk := by
 have h := opens_struct (enc := enc) (w := w) (base := base) (sp := sp) (held := held) Tryz.underlying75 cTg
  (opensF_cons rfl cI (opens_int Tryz.underlying3) (opensF_cons rfl cAd opens_ad opensF_nil))
 refine opens_map h (fun x => ⟨x.1, x.2.1.1, x.2.1.2⟩) ?_ ?_
 ·rintro ⟨a, ⟨b, c⟩, _⟩ _
  rfl
 ·rintro ⟨a, ⟨b, c⟩, _⟩ ⟨h1, ⟨h2, h3⟩, _⟩
  exact ⟨h1, h2, h3⟩
theorem opens_st : Opens enc Tryz.prog w base sp held 57 stC StOk := by
 have oi : Opens enc Tryz.prog w base sp held 3 (fun a : Int => [.int .i64 a]) (fun a => (Lit.int .i64 a).wf = true) := opens_int Tryz.underlying3
 have h := opens_struct (enc := enc) (w := w) (base := base) (sp := sp) (held := held) Tryz.underlying57 cSt
  (opensF_cons rfl cI oi (opensF_cons rfl cI oi (opensF_cons rfl cI oi (opensF_cons rfl cI oi opensF_nil))))
 refine opens_map h (fun x => ⟨x.1, x.2.1, x.2.2.1, x.2.2.2.1⟩) ?_ ?_
 ·rintro ⟨a, b, c, d, _⟩ _
  rfl
 ·rintro ⟨a, b, c, d, _⟩ ⟨h1, h2, h3, h4, _⟩
  exact ⟨h1, h2, h3, h4⟩
theorem opens_job : Opens enc Tryz.prog w base sp held 55 jobC7 (JobOk w) := by
 have oi : Opens enc Tryz.prog w base sp held 3 (fun a : Int => [.int .i64 a]) (fun a => (Lit.int .i64 a).wf = true) := opens_int Tryz.underlying3
 have ot := opens_slice (enc := enc) (w := w) (base := base) (sp := sp) (held := held) Tryz.underlying51 cTg (by decide) tgC_len opens_tg
 have os := opens_slice (enc := enc) (w := w) (base := base) (sp := sp) (held := held) Tryz.underlying52 cSt (by decide) stC_len opens_st
 have h := opens_struct (enc := enc) (w := w) (base := base) (sp := sp) (held := held) Tryz.underlying55 cJob
  (opensF_cons rfl cI oi (opensF_cons rfl cI oi (opensF_cons rfl cAd opens_ad (opensF_cons rfl cTgs ot (opensF_cons rfl cSts os (opensF_cons rfl cU8s Rcd.opens_pay opensF_nil))))))
 refine opens_map h (fun x => ⟨⟨x.1, x.2.1, x.2.2.1.1, x.2.2.1.2, x.2.2.2.1.2, x.2.2.2.2.1.2, x.2.2.2.2.2.1.2⟩, x.2.2.2.1.1, x.2.2.2.2.1.1, x.2.2.2.2.2.1.1⟩) ?_ ?_
 ·rintro ⟨a, b, ⟨c, d⟩, ⟨vt, ts⟩, ⟨vs, ss⟩, ⟨vb, bs⟩, _⟩ _
  rfl
 ·rintro ⟨a, b, ⟨c, d⟩, ⟨vt, ts⟩, ⟨vs, ss⟩, ⟨vb, bs⟩, _⟩ ⟨h1, h2, ⟨h3, h4⟩, ⟨h5, h6⟩, ⟨h7, h8⟩, h9, _⟩
  exact ⟨⟨h5, h7, h9⟩, h1, h2, h3, h4, h6, h8⟩
end
end Env
end Go.Proofs.YtcleakjjefmmbaaGreat

/- ref15.Light: which jobs are short. -/
namespace Go.Proofs.YtcleakjjefmmbaaGreat
open Go.RowKit
namespace Env
open Adr (Str)
structure LightP (j : JobP) : Prop where
 tos : j.tos.length ≤ 30
 st : j.st.length ≤ 30
 body : j.body.length ≤ 1000
 fl : j.fl.length ≤ 100
 fd : j.fd.length ≤ 100
 all : ∀ t ∈ j.tos, t.l.length ≤ 100 ∧ t.d.length ≤ 100
def LightRet (w : World) (j : JobP) (e : Ending) (w' : World) : Prop := ∃ b, e = .returned (.bool b) ∧ (b = true → LightP j) ∧ Keeps w w'
theorem light_no {w w' : World} {j : JobP} (k : Keeps w w') : LightRet w j (.returned (.bool false)) w' := ⟨false, rfl, (fun h => by cases h), k⟩
set_option maxRecDepth 100000 in
set_option maxHeartbeats 2000000 in
theorem light_any (w : World) (j : JobP) (vt vs vb : Value) (h : JobAt w j vt vs vb) : Calls Tryz.prog 57 #[.agg (jobA j vt vs vb)] w (LightRet w j) := by
 obtain ⟨id, arr, fl, fd, T, S, B⟩ := j
 obtain ⟨pt, ct, rfl, -, -⟩ := h.tos.form
 obtain ⟨ps, cs, rfl, -, -⟩ := h.st.form
 obtain ⟨pb, cb, rfl, -, -⟩ := h.body.formB
 have HA := Lib.hid h
 have HK := Lib.hid ((Keeps.refl w).alloc (.cells (jobA ⟨id, arr, fl, fd, T, S, B⟩ (.slice pt T.length ct) (.slice ps S.length cs) (.slice pb B.length cb)) 55))
 have HB := Lib.hid (Blk.new w 55 (jobA ⟨id, arr, fl, fd, T, S, B⟩ (.slice pt T.length ct) (.slice ps S.length cs) (.slice pb B.length cb)) rfl)
 have hsl := bstr_size fl
 have hsd := bstr_size fd
 clear h
 go_enter Tryz.func57, Tryz.ntmps57
 go_upto_region 1 with fail
 generalize w.alloc (.cells (jobA ⟨id, arr, fl, fd, T, S, B⟩ (.slice pt T.length ct) (.slice ps S.length cs) (.slice pb B.length cb)) 55) = w2 at *
 generalize w.heap.size = g at *
 have c2 : w2.cell? ⟨g, 2, none⟩ = some (.string (bstr fl)) := by rw [HB.out.cell]; rfl
 have c3 : w2.cell? ⟨g, 3, none⟩ = some (.string (bstr fd)) := by rw [HB.out.cell]; rfl
 have c4 : w2.cell? ⟨g, 4, none⟩ = some (.slice pt T.length ct) := by rw [HB.out.cell]; rfl
 have c5 : w2.cell? ⟨g, 5, none⟩ = some (.slice ps S.length cs) := by rw [HB.out.cell]; rfl
 have c6 : w2.cell? ⟨g, 6, none⟩ = some (.slice pb B.length cb) := by rw [HB.out.cell]; rfl
 by_cases h1 : 30 < T.length
 ·have e1 : decide ((30 : Int) < (T.length : Int)) = true := decide_eq_true (by omega)
  go_wp2_with fail
  go_ret
  exact light_no HK.out
 have e1 : decide ((30 : Int) < (T.length : Int)) = false := decide_eq_false (by omega)
 have H1 := Lib.hid h1
 clear h1
 by_cases h2 : 30 < S.length
 ·have e2 : decide ((30 : Int) < (S.length : Int)) = true := decide_eq_true (by omega)
  go_wp2_with fail
  go_ret
  exact light_no HK.out
 have e2 : decide ((30 : Int) < (S.length : Int)) = false := decide_eq_false (by omega)
 have H2 := Lib.hid h2
 clear h2
 by_cases h3 : 1000 < B.length
 ·have e3 : decide ((1000 : Int) < (B.length : Int)) = true := decide_eq_true (by omega)
  go_wp2_with fail
  go_ret
  exact light_no HK.out
 have e3 : decide ((1000 : Int) < (B.length : Int)) = false := decide_eq_false (by omega)
 have H3 := Lib.hid h3
 clear h3
 by_cases h4 : 100 < fl.length
 ·have e4 : decide ((100 : Int) < (fl.length : Int)) = true := decide_eq_true (by omega)
  go_wp2_with fail
  go_ret
  exact light_no HK.out
 have e4 : decide ((100 : Int) < (fl.length : Int)) = false := decide_eq_false (by omega)
 have H4 := Lib.hid h4
 clear h4
 by_cases h5 : 100 < fd.length
 ·have e5 : decide ((100 : Int) < (fd.length : Int)) = true := decide_eq_true (by omega)
  go_wp2_with fail
  go_ret
  exact light_no HK.out
 have e5 : decide ((100 : Int) < (fd.length : Int)) = false := decide_eq_false (by omega)
 have H5 := Lib.hid h5
 clear h5
 go_wp2_with fail
 clear e1 e2 e3 e4 e5 c2 c3 c5 c6 hsl hsd
 go_loopw [3] (fun iv wr => ∃ i : Nat, iv = .int .i64 (i : Int) ∧ i ≤ T.length ∧ Hid (∀ t ∈ T.take i, t.l.length ≤ 100 ∧ t.d.length ≤ 100) ∧ w2 = wr) (fun iv _ => T.length - (intOf iv).toNat)
 case atStart => exact ⟨0, rfl, Nat.zero_le _, Lib.hid (by simp), rfl⟩
 case round =>
  obtain ⟨i, rfl, hi, HT, hww⟩ := hrel
  subst hww
  by_cases hlt : i < T.length
  ·have hw : IntKind.i64.wrap ((i : Int) + 1) = (i : Int) + 1 := IntWalk.i64_in _ (by have := H1.out; omega)
   obtain ⟨m1, o1, k1, hv1, hg1⟩ := rowS_at tgC_len (HA.out.tos.keeps HK.out) hlt
   simp only [Value.slice.injEq] at hv1
   obtain ⟨rfl, -, rfl⟩ := hv1
   simp only at hg1
   have HN := Lib.hid (show (T[i].l.length ≤ 100 ∧ T[i].d.length ≤ 100) → ∀ t ∈ T.take (i + 1), t.l.length ≤ 100 ∧ t.d.length ≤ 100 from fun h t ht => by
    rw [List.take_succ_eq_append_getElem hlt] at ht
    rcases List.mem_append.1 ht with ht | ht
    ·exact HT.out t ht
    ·simp only [List.mem_singleton] at ht
     subst ht
     exact h)
   generalize T[i] = t at *
   obtain ⟨u, l, d⟩ := t
   have x1 : w2.cell? ⟨m1, o1 + i * 3 + 1, none⟩ = some (.string (bstr l)) := hg1 1 _ rfl
   have x2 : w2.cell? ⟨m1, o1 + i * 3 + 2, none⟩ = some (.string (bstr d)) := hg1 2 _ rfl
   simp only at HN
   have hsl := bstr_size l
   have hsd := bstr_size d
   clear hg1
   by_cases h1 : 100 < l.length
   ·have e1 : decide ((100 : Int) < (l.length : Int)) = true := decide_eq_true (by omega)
    go_wp2_with fail
    go_ret
    exact light_no HK.out
   ·have e1 : decide ((100 : Int) < (l.length : Int)) = false := decide_eq_false (by omega)
    by_cases h2 : 100 < d.length
    ·have e2 : decide ((100 : Int) < (d.length : Int)) = true := decide_eq_true (by omega)
     go_wp2_with fail
     go_ret
     exact light_no HK.out
    ·have e2 : decide ((100 : Int) < (d.length : Int)) = false := decide_eq_false (by omega)
     have HN2 := Lib.hid (HN.out ⟨by omega, by omega⟩)
     clear h1 h2 HN
     go_wp2_with fail
     go_roundw
     case rel => exact ⟨i + 1, by simp, by omega, HN2, trivial⟩
     case measure =>
      simp only [intOf]
      omega
  ·have HX := Lib.hid (show ∀ t ∈ T, t.l.length ≤ 100 ∧ t.d.length ≤ 100 from by
    have := HT.out
    rwa [List.take_of_length_le (by omega)] at this)
   go_wp2_with fail
   go_ret
   exact ⟨true, rfl, fun _ => ⟨by have := H1.out; show T.length ≤ 30; omega, by have := H2.out; show S.length ≤ 30; omega, by have := H3.out; show B.length ≤ 1000; omega, by have := H4.out; show fl.length ≤ 100; omega, by have := H5.out; show fd.length ≤ 100; omega, HX.out⟩, HK.out⟩
end Env
end Go.Proofs.YtcleakjjefmmbaaGreat

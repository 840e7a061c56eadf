/- Several texts in one: Open, CutS, RecOpen, RecParts. -/
import Derived.Test.YtklbemkafdccgaaGreatLawKit
import Derived.Test.YtklbemkafdccgaaGreatK02
import Derived.Deep.Slices
import Derived.ChangeArms
import Derived.Test.YtklbemkafdccgaaGreatK00
import Derived.Test.YtklbemkafdccgaaGreatRows
import Derived.Test.YtklbemkafdccgaaGreatDrawn
import Derived.Deep.DeepCutAuto
/- Opening arguments of whatever shape: integers, bools, strings, structs, slices, one inside the other. For every program. -/
namespace Go.Proofs.YtklbemkafdccgaaGreat
open Go.RowKit Go.WideShapes Go.ChangeShapes

theorem RowS.keeps {w w' : World} {C n : Nat} {v : Value} {l : List Value} (h : RowS w C v n l) (k : Keeps w w') : RowS w' C v n l := by
 refine ⟨h.1, ?_⟩
 rcases h.2 with h | ⟨b, off, cap, hv, h1, h2, h3⟩
 ·exact .inl h
 ·exact .inr ⟨b, off, cap, hv, h1, h2, fun i x hx => by
   have := h3 i x hx
   rw [k.cell (p := ⟨b, off + i, none⟩) (lt_of_cell this)]; exact this⟩
theorem RowS.form {w : World} {C n : Nat} {v : Value} {l : List Value} (h : RowS w C v n l) : ∃ p cap, v = .slice p n cap ∧ n ≤ cap ∧ cap ≤ 9223372036854775807 := by
 rcases h.2 with ⟨a0, cap, rfl, rfl, h, _⟩ | ⟨b, off, cap, rfl, h1, h2, _⟩
 ·exact ⟨_, _, rfl, Nat.zero_le _, by simpa [maxLen] using h⟩
 ·exact ⟨_, _, rfl, h1, by simpa [maxLen] using h2⟩
theorem RowS.at_ {w : World} {C n : Nat} {v : Value} {l : List Value} (h : RowS w C v n l) (hn : 0 < n) : ∃ b off cap, v = .slice (some ⟨b, off, none⟩) n cap ∧ n ≤ cap ∧ cap ≤ 9223372036854775807 ∧ Hid (∀ i x, l[i]? = some x → w.cell? ⟨b, off + i, none⟩ = some x) := by
 rcases h.2 with ⟨a0, cap, rfl, rfl, h, _⟩ | ⟨b, off, cap, rfl, h1, h2, h3⟩
 ·omega
 ·exact ⟨b, off, cap, rfl, h1, by simpa [maxLen] using h2, Lib.hid h3⟩
theorem RowS.row {w : World} {n : Nat} {v : Value} {l : List Value} (h : RowS w 1 v n l) : Row w v l := by
 have hl := h.1
 rw [Nat.mul_one] at hl
 subst hl
 rcases h.2 with ⟨a0, cap, h1, h2, h3, h4⟩ | h
 ·exact .inl ⟨a0, cap, by rw [h1], List.eq_nil_of_length_eq_zero h2, h3, h4⟩
 ·exact .inr h

/-- cell j of element i in a row of elements of C cells each -/
theorem flat_get {α : Type} {cells : α → List Value} {C : Nat} (hC : ∀ x, (cells x).length = C) : ∀ (l : List α) (i j : Nat) (x : α), l[i]? = some x → j < C → (l.flatMap cells)[i * C + j]? = (cells x)[j]?
 | [], i, j, x, h, _ => by simp at h
 |y :: l, 0, j, x, h, hj => by
  simp at h
  subst h
  rw [List.flatMap_cons, Nat.zero_mul, Nat.zero_add, List.getElem?_append_left (by rw [hC]; exact hj)]
 |y :: l, i + 1, j, x, h, hj => by
  rw [List.flatMap_cons, List.getElem?_append_right (by rw [hC, Nat.succ_mul]; omega), hC, show (i + 1) * C + j - C = i * C + j from by rw [Nat.succ_mul]; omega]
  exact flat_get hC l i j x (by simpa using h) hj
theorem flat_len {α : Type} {cells : α → List Value} {C : Nat} (hC : ∀ x, (cells x).length = C) (l : List α) : (l.flatMap cells).length = l.length * C := by
 induction l with
 |nil => simp
 |cons y l ih => rw [List.flatMap_cons, List.length_append, hC, ih, List.length_cons, Nat.succ_mul, Nat.add_comm]

section
variable {H : Type} {enc : TypeId × Value → H} {P : Program} {w : World} {base : Nat} {sp : Nat → Bool} {held : Bool}

/-- whatever reads as data of type e is the cells of some x that is good -/
def Opens (enc : TypeId × Value → H) (P : Program) (w : World) (base : Nat) (sp : Nat → Bool) (held : Bool) (e : TypeId) {α : Type} (cells : α → List Value) (good : α → Prop) : Prop :=
 ∀ (n : Nat) (cs : List Value) (d : DataW H × List MemPlace), DataW.trod enc P w base sp held n e cs = some d → ∃ x, cs = cells x ∧ good x

theorem opens_int {e : TypeId} {k : IntKind} (he : P.underlying e = some (.int k)) : Opens enc P w base sp held e (fun a : Int => [.int k a]) (fun a => (Lit.int k a).wf = true) := by
 intro n cs d h
 obtain ⟨a, h1, _, h2⟩ := DataW.trod_int he h
 exact ⟨a, h1, h2⟩
theorem opens_map {e : TypeId} {α β : Type} {cells : α → List Value} {good : α → Prop} {cells' : β → List Value} {good' : β → Prop} (h : Opens enc P w base sp held e cells good) (f : α → β) (hc : ∀ x, good x → cells' (f x) = cells x) (hg : ∀ x, good x → good' (f x)) : Opens enc P w base sp held e cells' good' := by
 intro n cs d hd
 obtain ⟨x, h1, h2⟩ := h n cs d hd
 exact ⟨f x, by rw [hc x h2]; exact h1, hg x h2⟩

theorem opens_list {α : Type} {e : TypeId} {cells : α → List Value} {good : α → Prop} (h : Opens enc P w base sp held e cells good) (n : Nat) (len : Nat) (C : Nat) (a : Addr)
  (hi : ∀ i, i < len → ∃ cs' d, w.cells? base (a.add (i * C)) C = some cs' ∧ DataW.trod enc P w base sp held n e cs' = some d) :
  ∃ l : List α, l.length = len ∧ (∀ x ∈ l, good x) ∧ ∀ i x, l[i]? = some x → ∀ j, j < C → w.cell? (a.add (i * C + j)) = (cells x)[j]? := by
 induction len with
 |zero => exact ⟨[], rfl, by simp, by simp⟩
 |succ len ih =>
  obtain ⟨l, h1, h2, h3⟩ := ih (fun i hlt => hi i (by omega))
  obtain ⟨cs', d, h4, h5⟩ := hi len (by omega)
  obtain ⟨x, rfl, hx⟩ := h n cs' d h5
  obtain ⟨_, _, h6⟩ := World.cells?_some h4
  refine ⟨l ++ [x], by simp [h1], ?_, ?_⟩
  ·intro y hy
   rcases List.mem_append.1 hy with hy | hy
   ·exact h2 y hy
   ·simp at hy; subst hy; exact hx
  ·intro i y hy j hj
   by_cases hlt : i < l.length
   ·rw [List.getElem?_append_left hlt] at hy
    exact h3 i y hy j hj
   ·rw [List.getElem?_append_right (by omega)] at hy
    have : i - l.length = 0 := by
     rcases Nat.eq_zero_or_pos (i - l.length) with h0 | h0
     ·exact h0
     ·rw [List.getElem?_eq_none (by simp; omega)] at hy; cases hy
    rw [this] at hy
    simp at hy
    subst hy
    have hil : i = len := by omega
    subst hil
    rw [← Go.Deep.add_add]
    exact h6 j hj

theorem opens_slice {t e : TypeId} {C : Nat} {α : Type} {cells : α → List Value} {good : α → Prop} (ht : P.underlying t = some (.slice e)) (hC : P.cellsOf e = C) (h0 : 0 < C) (hlen : ∀ x, (cells x).length = C) (ho : Opens enc P w base sp held e cells good) :
  Opens enc P w base sp held t (fun x : Value × List α => [x.1]) (fun x => RowS w C x.1 x.2.length (x.2.flatMap cells) ∧ ∀ y ∈ x.2, good y) := by
 intro n cs d h
 rcases Go.Deep.open_slice ht h with ⟨rfl, _⟩ | ⟨a, len, cap, m, n', D, Pl, rfl, _, hl, hm, hmm, _, hi⟩
 ·exact ⟨(.slice none 0 0, []), rfl, ⟨by simp, .inl ⟨none, 0, rfl, rfl, by simp [maxLen], fun _ => rfl⟩⟩, by simp⟩
 ·rw [hC] at hi
  have hlm : len ≤ m := by rw [hmm]; split <;> omega
  obtain ⟨l, h1, h2, h3⟩ := opens_list ho n' len C a (fun i hlt => by
   obtain ⟨cs', h4, h5⟩ := hi i (by omega)
   exact ⟨cs', _, h4, h5⟩)
  refine ⟨(.slice (some a) len cap, l), rfl, ⟨flat_len hlen l, ?_⟩, h2⟩
  rcases Nat.eq_zero_or_pos len with hz | hp
  ·subst hz
   exact .inl ⟨some a, cap, rfl, h1, hm, fun h => by cases h⟩
  ·have hcell : ∀ i x, (l.flatMap cells)[i]? = some x → w.cell? (a.add i) = some x := by
    intro i x hx
    have hilt : i < l.length * C := by
     have := (List.getElem?_eq_some_iff.1 hx).1
     rwa [flat_len hlen] at this
    have hq : i / C < l.length := by rw [Nat.div_lt_iff_lt_mul h0]; exact hilt
    have hr : i % C < C := Nat.mod_lt _ h0
    have hdm : i / C * C + i % C = i := by rw [Nat.mul_comm]; exact Nat.div_add_mod i C
    have hy : l[i / C]? = some l[i / C] := List.getElem?_eq_getElem hq
    have e1 := flat_get hlen l (i / C) (i % C) _ hy hr
    have e2 := h3 (i / C) _ hy (i % C) hr
    rw [hdm] at e1 e2
    rw [e2, ← e1, hx]
   obtain ⟨b, off, spot⟩ := a
   have hspot : spot = none := by
    have hlt : 0 < (l.flatMap cells).length := by rw [flat_len hlen, h1]; exact Nat.mul_pos hp h0
    have := hcell 0 _ (List.getElem?_eq_getElem hlt)
    simpa [Addr.add] using World.cell?_spot this
   subst hspot
   refine .inr ⟨b, off, cap, by rw [h1], by rw [h1]; exact hl, hm, fun i x hx => ?_⟩
   rw [← Go.WideShapes.add_plain]
   exact hcell i x hx

/-- the fields of a struct from an offset on -/
def OpensF (enc : TypeId × Value → H) (P : Program) (w : World) (base : Nat) (sp : Nat → Bool) (held : Bool) (fs : List Field) (off tot : Nat) {α : Type} (cells : α → List Value) (good : α → Prop) : Prop :=
 ∀ (n : Nat) (cs : List Value), cs.length = tot → (∀ f ∈ fs, ∃ d, DataW.trod enc P w base sp held n f.type ((cs.drop f.offset).take (P.cellsOf f.type)) = some d) → ∃ x, cs.drop off = cells x ∧ good x

/-- a parameter that is a slice -/
theorem open_param_slice {r : Reach} {b0 : Nat} {t e : TypeId} {v : Value} {d : DataW H} {ps : List MemPlace} {α : Type} {C : Nat} {cells : α → List Value} {good : α → Prop} (ht : P.underlying t = some (.slice e)) (hC : P.cellsOf e = C) (h0 : 0 < C) (hlen : ∀ x, (cells x).length = C)
  (hval : Value.okWide P w r b0 t v) (h : DataW.Trod enc P w base sp held t v d ps) (ho : Opens enc P w base sp held e cells good) : ∃ l : List α, RowS w C v l.length (l.flatMap cells) ∧ ∀ y ∈ l, good y := by
 obtain ⟨a0, len, cap, rfl⟩ := okWide_slice ht hval
 obtain ⟨fuel, hf⟩ := h
 obtain ⟨⟨v, l⟩, h1, h2, h3⟩ := opens_slice ht hC h0 hlen ho fuel _ _ hf
 simp [Value.cells] at h1
 subst h1
 exact ⟨l, h2, h3⟩
end
end Go.Proofs.YtklbemkafdccgaaGreat

/- Parts of slices whose elements have several cells. For every program. -/
namespace Go.Proofs.YtklbemkafdccgaaGreat
open Go.RowKit

def cutS (C : Nat) (p : Option Addr) (lo hi cap : Nat) : Value := .slice (if cap = lo then p else p.map (·.add (lo * C))) (hi - lo) (cap - lo)
theorem RowS.cut {w : World} {C : Nat} {p : Option Addr} {cap n : Nat} {l : List Value} (h : RowS w C (.slice p n cap) n l) {lo hi : Nat} (h1 : lo ≤ hi) (h2 : hi ≤ n) : RowS w C (cutS C p lo hi cap) (hi - lo) ((l.drop (lo * C)).take ((hi - lo) * C)) := by
 obtain ⟨hl, h⟩ := h
 have hmul : hi * C ≤ n * C := Nat.mul_le_mul_right _ h2
 have hsub : (hi - lo) * C = hi * C - lo * C := Nat.sub_mul ..
 refine ⟨by rw [List.length_take, List.length_drop, hl]; omega, ?_⟩
 rcases h with ⟨a0, cap', hv, rfl, hc, h0⟩ | ⟨b, off, cap', hv, h3, h4, h5⟩
 ·simp only [Value.slice.injEq] at hv
  obtain ⟨rfl, -, rfl⟩ := hv
  obtain rfl : hi = 0 := by omega
  obtain rfl : lo = 0 := by omega
  refine .inl ⟨if cap = 0 then p else p.map (·.add (0 * C)), cap, by simp [cutS], by simp, hc, ?_⟩
  intro h
  split at h
  ·assumption
  ·exact h0 (by simpa using h)
 ·simp only [Value.slice.injEq] at hv
  obtain ⟨rfl, -, rfl⟩ := hv
  by_cases hlo : cap = lo
  ·have : hi = lo := by omega
   subst this
   refine .inl ⟨some ⟨b, off, none⟩, cap - hi, by simp [cutS, hlo], by simp, by omega, fun h => by cases h⟩
  ·refine .inr ⟨b, off + lo * C, cap - lo, ?_, by omega, by omega, fun i x hx => ?_⟩
   ·simp [cutS, hlo, Go.WideShapes.add_plain]
   ·have hi' : i < (hi - lo) * C := by
     have := (List.getElem?_eq_some_iff.1 hx).1
     rw [List.length_take] at this
     omega
    rw [Nat.add_assoc]
    refine h5 (lo * C + i) x ?_
    simpa [List.getElem?_take, hi'] using hx
theorem flat_drop {α : Type} {cells : α → List Value} {C : Nat} (hC : ∀ x, (cells x).length = C) : ∀ (l : List α) (n : Nat), (l.flatMap cells).drop (n * C) = (l.drop n).flatMap cells
 | [], n => by simp
 |y :: l, 0 => by simp
 |y :: l, n + 1 => by
  rw [List.flatMap_cons, List.drop_succ_cons, ← flat_drop hC l n, List.drop_append, List.drop_eq_nil_of_le (by rw [hC, Nat.succ_mul]; omega), List.nil_append, hC, show (n + 1) * C - C = n * C from by rw [Nat.succ_mul]; omega]
theorem flat_take {α : Type} {cells : α → List Value} {C : Nat} (hC : ∀ x, (cells x).length = C) : ∀ (l : List α) (n : Nat), (l.flatMap cells).take (n * C) = (l.take n).flatMap cells
 | [], n => by simp
 |y :: l, 0 => by simp
 |y :: l, n + 1 => by
  rw [List.flatMap_cons, List.take_succ_cons, List.flatMap_cons, ← flat_take hC l n, List.take_append, List.take_of_length_le (by rw [hC, Nat.succ_mul]; omega), hC, show (n + 1) * C - C = n * C from by rw [Nat.succ_mul]; omega]
theorem RowS.part {α : Type} {cells : α → List Value} {C : Nat} (hC : ∀ x, (cells x).length = C) {w : World} {p : Option Addr} {cap : Nat} {l : List α} (h : RowS w C (.slice p l.length cap) l.length (l.flatMap cells)) {lo hi : Nat} (h1 : lo ≤ hi) (h2 : hi ≤ l.length) :
  RowS w C (cutS C p lo hi cap) (hi - lo) (((l.drop lo).take (hi - lo)).flatMap cells) := by
 have := h.cut h1 h2
 rwa [flat_drop hC, flat_take hC] at this
section
variable {P : Program}
end
end Go.Proofs.YtklbemkafdccgaaGreat

/- Records: how they lie in memory; parameters that are records. -/
namespace Go.Proofs.YtklbemkafdccgaaGreat
open Go.RowKit
open Go.WideShapes
namespace Rcd

/-- a payload in memory: its slice, its bytes -/
def payC (x : Value × List UInt8) : List Value := [x.1]
theorem payC_len (x : Value × List UInt8) : (payC x).length = 1 := rfl
def payOk (w : World) (x : Value × List UInt8) : Prop := Row w x.1 (x.2.map u8v)
theorem c5 : Tryz.prog.cellsOf 5 = 1 := by kernel_rfl
theorem c22 : Tryz.prog.cellsOf 51 = 1 := by kernel_rfl
theorem opens_pay {H : Type} {enc : TypeId × Value → H} {w : World} {base : Nat} {sp : Nat → Bool} {held : Bool} : Opens enc Tryz.prog w base sp held 51 payC (payOk w) := by
 have h := opens_slice (enc := enc) (w := w) (base := base) (sp := sp) (held := held) Tryz.underlying51 c5 (by decide) (fun _ => rfl) (opens_int (enc := enc) (P := Tryz.prog) (w := w) (base := base) (sp := sp) (held := held) Tryz.underlying5)
 refine opens_map h (fun x => (x.1, x.2.map fun n => UInt8.ofNat n.toNat)) (fun x _ => rfl) ?_
 rintro ⟨v, zs⟩ ⟨hr, hw⟩
 have e1 : zs.flatMap (fun a : Int => [Value.int .u8 a]) = zs.map (.int .u8) := by
  clear hr hw
  induction zs with
  |nil => rfl
  |cons z zs ih => simp only [List.flatMap_cons, List.map_cons, ih]; rfl
 have : (zs.map fun n => UInt8.ofNat n.toNat).map u8v = zs.map (.int .u8) := by
  rw [List.map_map]
  refine List.map_congr_left fun n hn => ?_
  have hb : 0 ≤ n ∧ n ≤ 255 := by simpa [Lit.wf, IntKind.min, IntKind.max, IntKind.signed, IntKind.bits] using hw n hn
  simp [u8v]
  omega
 unfold payOk
 simp only
 rw [this, ← e1]
 exact hr.row

/-- a record and its data's slice -/
abbrev RecX := Rec × Value
def recC (x : RecX) : List Value := (recA x.1 x.2).toList
def i64ok (n : Int) : Prop := (Lit.int .i64 n).wf = true
structure RecOk (w : World) (x : RecX) : Prop where
 k0 : i64ok x.1.kind
 k1 : i64ok x.1.user
 k2 : i64ok x.1.seq
 k3 : i64ok x.1.next
 k4 : i64ok x.1.base
 k5 : i64ok x.1.uid
 k6 : i64ok x.1.time
 k7 : i64ok x.1.flags
 k8 : i64ok x.1.body
 k9 : i64ok x.1.size
 k10 : i64ok x.1.origin
 row : Row w x.2 (x.1.data.map u8v)
theorem RecOk.keeps {w w' : World} {x : RecX} (h : RecOk w x) (k : Keeps w w') : RecOk w' x := { h with row := h.row.keeps k }

end Rcd
end Go.Proofs.YtklbemkafdccgaaGreat

/- record.parts: the fields that a kind tells. -/
namespace Go.Proofs.YtklbemkafdccgaaGreat
open Go.RowKit
namespace Rcd

/-- a field in memory, of the record in block b -/
def partC (b : Nat) (p : Part) : List Value := [.int .i64 p.width, .int .i64 p.low, .int .i64 p.high, .pointer (some ⟨b, p.off, none⟩)]
theorem partC_len (b : Nat) (p : Part) : (partC b p).length = 4 := rfl
/-- the fields, as they are handed back -/
def PartsRet (b : Nat) (k : Int) (w : World) (e : Ending) (w' : World) : Prop :=
 ∃ v, e = .returned v ∧ (partsL k = [] → v = .slice none 0 0) ∧ (partsL k ≠ [] → ∃ g, v = .slice (some ⟨g, 0, none⟩) (partsL k).length (partsL k).length ∧ w.heap.size ≤ g ∧ ∃ cs, Blk w' g 247 cs ∧ cs.toList = (partsL k).flatMap (partC b)) ∧ Keeps w w'

theorem asz (w : World) (o : Obj) : (w.alloc o).heap.size = w.heap.size + 1 := by show (w.heap.push o).size = _; simp
theorem parts_ret {b : Nat} {k : Int} {w x : World} {l : List Part} {v : Value} {cs : Array Value} {n : Nat} (hl : partsL k = l) (hne : l ≠ []) (hn : n = l.length) (hv : v = .slice (some ⟨x.heap.size, 0, none⟩) n n) (hcs : cs.toList = l.flatMap (partC b)) (hK : Keeps w x) :
  PartsRet b k w (.returned v) (x.alloc (.cells cs 247)) := by
 subst hn hl hv
 exact ⟨_, rfl, fun h => absurd h hne, fun _ => ⟨_, rfl, hK.size, cs, Blk.new _ _ _ rfl, hcs⟩, hK.alloc _⟩

set_option maxRecDepth 100000 in
set_option maxHeartbeats 2000000 in
theorem parts_any (b : Nat) (cs : Array Value) (k : Int) (w : World) (hb : Blk w b 154 cs) (hk : cs[0]? = some (.int .i64 k)) :
  Calls Tryz.prog 184 #[.pointer (some ⟨b, 0, none⟩)] w (PartsRet b k w) := by
 go_enter Tryz.func184, Tryz.ntmps184
 go_upto_region 5 with fail
 generalize hW : World.alloc (World.alloc (World.alloc (World.alloc w _) _) _) _ = w4
 have hK : Keeps w w4 := by rw [← hW]; exact ((((Keeps.refl _).alloc _).alloc _).alloc _).alloc _
 have hB0 : Blk w4 w.heap.size 247 (partC b pUid).toArray := by rw [← hW]; exact (((Blk.new _ _ _ rfl).alloc _).alloc _).alloc _
 have hB1 : Blk w4 (w.heap.size + 1) 247 (partC b pFlags).toArray := by rw [← hW]; exact ((Blk.new _ _ _ (by rw [asz])).alloc _).alloc _
 have hB2 : Blk w4 (w.heap.size + 1 + 1) 247 (partC b pBody).toArray := by rw [← hW]; exact (Blk.new _ _ _ (by rw [asz, asz])).alloc _
 have hB3 : Blk w4 (w.heap.size + 1 + 1 + 1) 247 (partC b pNext).toArray := by rw [← hW]; exact Blk.new _ _ _ (by rw [asz, asz, asz])
 clear hW
 have hcell : w4.cell? ⟨b, 0, none⟩ = some (.int .i64 k) := by rw [(hb.keeps hK).cell]; exact hk
 have c00 : w4.cell? ⟨w.heap.size, 0, none⟩ = some (.int .i64 4) := by rw [hB0.cell]; rfl
 have c01 : w4.cell? ⟨w.heap.size, 1, none⟩ = some (.int .i64 1) := by rw [hB0.cell]; rfl
 have c02 : w4.cell? ⟨w.heap.size, 2, none⟩ = some (.int .i64 2147483648) := by rw [hB0.cell]; rfl
 have c03 : w4.cell? ⟨w.heap.size, 3, none⟩ = some (.pointer (some ⟨b, 5, none⟩)) := by rw [hB0.cell]; rfl
 have c10 : w4.cell? ⟨w.heap.size + 1, 0, none⟩ = some (.int .i64 1) := by rw [hB1.cell]; rfl
 have c11 : w4.cell? ⟨w.heap.size + 1, 1, none⟩ = some (.int .i64 0) := by rw [hB1.cell]; rfl
 have c12 : w4.cell? ⟨w.heap.size + 1, 2, none⟩ = some (.int .i64 31) := by rw [hB1.cell]; rfl
 have c13 : w4.cell? ⟨w.heap.size + 1, 3, none⟩ = some (.pointer (some ⟨b, 7, none⟩)) := by rw [hB1.cell]; rfl
 have c20 : w4.cell? ⟨w.heap.size + 1 + 1, 0, none⟩ = some (.int .i64 4) := by rw [hB2.cell]; rfl
 have c21 : w4.cell? ⟨w.heap.size + 1 + 1, 1, none⟩ = some (.int .i64 1) := by rw [hB2.cell]; rfl
 have c22 : w4.cell? ⟨w.heap.size + 1 + 1, 2, none⟩ = some (.int .i64 2147483648) := by rw [hB2.cell]; rfl
 have c23 : w4.cell? ⟨w.heap.size + 1 + 1, 3, none⟩ = some (.pointer (some ⟨b, 8, none⟩)) := by rw [hB2.cell]; rfl
 have c30 : w4.cell? ⟨w.heap.size + 1 + 1 + 1, 0, none⟩ = some (.int .i64 4) := by rw [hB3.cell]; rfl
 have c31 : w4.cell? ⟨w.heap.size + 1 + 1 + 1, 1, none⟩ = some (.int .i64 1) := by rw [hB3.cell]; rfl
 have c32 : w4.cell? ⟨w.heap.size + 1 + 1 + 1, 2, none⟩ = some (.int .i64 2147483649) := by rw [hB3.cell]; rfl
 have c33 : w4.cell? ⟨w.heap.size + 1 + 1 + 1, 3, none⟩ = some (.pointer (some ⟨b, 3, none⟩)) := by rw [hB3.cell]; rfl
 clear hB0 hB1 hB2 hB3 hb hk
 have hsz := hK.size
 have HKw := Lib.hid hK
 by_cases k1 : k = 1
 ·subst k1
  go_upto_region 7 with fail
  refine wp_region_noPanic ?_
  refine wp_region_held_drew (S := fun w' => Keeps w4 w') (by kernel_rfl) ((Keeps.refl w4).drew) (fun _ => ?_)
  have hHeld : Keeps w4 (w4).drew := (Keeps.refl w4).drew
  generalize World.drew w4 = xs at *
  refine tq 0 29 ?_
  refine tq 1 30 ?_
  refine tq 2 31 ?_
  refine tq 3 32 ?_
  refine tq 4 33 ?_
  refine tq 5 34 ?_
  refine tq 6 35 ?_
  refine tq 7 36 ?_
  refine tq 8 37 ?_ (hy := fun w' hSw => by
   have hSw : Keeps w4 w' := hSw
   have h0 := keep1 hSw c30
   have h1 := keep1 hSw c31
   have h2 := keep1 hSw c32
   have h3 := keep1 hSw c33
   clear hSw
   go_simp
   try with_reducible rfl)
  refine tq 9 38 ?_
  refine tq 10 39 ?_
  refine tq 11 40 ?_
  refine tq 12 41 ?_
  refine rd1 13 (fun K hK => ?_)
  go_simp
  have hb := hHeld.alloc (.cells #[.int .i64 2, .int .i64 1, .int .i64 999, .pointer (some ⟨b, 1, none⟩), .int .i64 4, .int .i64 1, .int .i64 2147483648, .pointer (some ⟨b, 2, none⟩), .int .i64 4, .int .i64 1, .int .i64 2147483649, .pointer (some ⟨b, 3, none⟩), .int .i64 4, .int .i64 0, .int .i64 2147483648, .pointer (some ⟨b, 4, none⟩)] 247)
  have PR := Lib.hid (parts_ret (b := b) (k := 1) (w := w) (cs := #[.int .i64 2, .int .i64 1, .int .i64 999, .pointer (some ⟨b, 1, none⟩), .int .i64 4, .int .i64 1, .int .i64 2147483648, .pointer (some ⟨b, 2, none⟩), .int .i64 4, .int .i64 1, .int .i64 2147483649, .pointer (some ⟨b, 3, none⟩), .int .i64 4, .int .i64 0, .int .i64 2147483648, .pointer (some ⟨b, 4, none⟩)]) (l := [⟨2, 1, 999, 1⟩, ⟨4, 1, 2147483648, 2⟩, ⟨4, 1, 2147483649, 3⟩, ⟨4, 0, 2147483648, 4⟩]) (n := 4) rfl (by decide) rfl rfl rfl (HKw.out.trans hHeld))
  generalize World.alloc xs (.cells #[.int .i64 2, .int .i64 1, .int .i64 999, .pointer (some ⟨b, 1, none⟩), .int .i64 4, .int .i64 1, .int .i64 2147483648, .pointer (some ⟨b, 2, none⟩), .int .i64 4, .int .i64 1, .int .i64 2147483649, .pointer (some ⟨b, 3, none⟩), .int .i64 4, .int .i64 0, .int .i64 2147483648, .pointer (some ⟨b, 4, none⟩)] 247) = xb at *
  refine bkm hK hb ?_
  clear hK K hHeld
  have hHeld : Keeps w4 xb := hb
  clear hb
  refine tq 14 2 ?_
  refine wpAnyH_done (by kernel_rfl) ?_ _
  refine NoPanic.normal ?_
  go_wp2_with fail
  go_ret
  exact PR.out
 by_cases k2 : k = 2
 ·subst k2
  go_upto_region 9 with fail
  refine wp_region_noPanic ?_
  refine wp_region_held_drew (S := fun w' => Keeps w4 w') (by kernel_rfl) ((Keeps.refl w4).drew) (fun _ => ?_)
  have hHeld : Keeps w4 (w4).drew := (Keeps.refl w4).drew
  generalize World.drew w4 = xs at *
  refine tq 0 45 ?_ (hy := fun w' hSw => by
   have hSw : Keeps w4 w' := hSw
   have h0 := keep1 hSw c00
   have h1 := keep1 hSw c01
   have h2 := keep1 hSw c02
   have h3 := keep1 hSw c03
   clear hSw
   go_simp
   try with_reducible rfl)
  refine tq 1 46 ?_
  refine tq 2 47 ?_
  refine tq 3 48 ?_
  refine tq 4 49 ?_
  refine tq 5 50 ?_ (hy := fun w' hSw => by
   have hSw : Keeps w4 w' := hSw
   have h0 := keep1 hSw c10
   have h1 := keep1 hSw c11
   have h2 := keep1 hSw c12
   have h3 := keep1 hSw c13
   clear hSw
   go_simp
   try with_reducible rfl)
  refine tq 6 51 ?_ (hy := fun w' hSw => by
   have hSw : Keeps w4 w' := hSw
   have h0 := keep1 hSw c20
   have h1 := keep1 hSw c21
   have h2 := keep1 hSw c22
   have h3 := keep1 hSw c23
   clear hSw
   go_simp
   try with_reducible rfl)
  refine tq 7 52 ?_
  refine tq 8 53 ?_
  refine tq 9 54 ?_
  refine tq 10 55 ?_
  refine tq 11 56 ?_
  refine tq 12 57 ?_
  refine tq 13 58 ?_
  refine tq 14 59 ?_
  refine rd1 15 (fun K hK => ?_)
  go_simp
  have hb := hHeld.alloc (.cells #[.int .i64 4, .int .i64 1, .int .i64 2147483648, .pointer (some ⟨b, 5, none⟩), .int .i64 8, .int .i64 0, .int .i64 4503599627370496, .pointer (some ⟨b, 6, none⟩), .int .i64 1, .int .i64 0, .int .i64 31, .pointer (some ⟨b, 7, none⟩), .int .i64 4, .int .i64 1, .int .i64 2147483648, .pointer (some ⟨b, 8, none⟩), .int .i64 4, .int .i64 0, .int .i64 32768, .pointer (some ⟨b, 9, none⟩), .int .i64 8, .int .i64 0, .int .i64 9007199254740992, .pointer (some ⟨b, 10, none⟩)] 247)
  have PR := Lib.hid (parts_ret (b := b) (k := 2) (w := w) (cs := #[.int .i64 4, .int .i64 1, .int .i64 2147483648, .pointer (some ⟨b, 5, none⟩), .int .i64 8, .int .i64 0, .int .i64 4503599627370496, .pointer (some ⟨b, 6, none⟩), .int .i64 1, .int .i64 0, .int .i64 31, .pointer (some ⟨b, 7, none⟩), .int .i64 4, .int .i64 1, .int .i64 2147483648, .pointer (some ⟨b, 8, none⟩), .int .i64 4, .int .i64 0, .int .i64 32768, .pointer (some ⟨b, 9, none⟩), .int .i64 8, .int .i64 0, .int .i64 9007199254740992, .pointer (some ⟨b, 10, none⟩)]) (l := [⟨4, 1, 2147483648, 5⟩, ⟨8, 0, 4503599627370496, 6⟩, ⟨1, 0, 31, 7⟩, ⟨4, 1, 2147483648, 8⟩, ⟨4, 0, 32768, 9⟩, ⟨8, 0, 9007199254740992, 10⟩]) (n := 6) rfl (by decide) rfl rfl rfl (HKw.out.trans hHeld))
  generalize World.alloc xs (.cells #[.int .i64 4, .int .i64 1, .int .i64 2147483648, .pointer (some ⟨b, 5, none⟩), .int .i64 8, .int .i64 0, .int .i64 4503599627370496, .pointer (some ⟨b, 6, none⟩), .int .i64 1, .int .i64 0, .int .i64 31, .pointer (some ⟨b, 7, none⟩), .int .i64 4, .int .i64 1, .int .i64 2147483648, .pointer (some ⟨b, 8, none⟩), .int .i64 4, .int .i64 0, .int .i64 32768, .pointer (some ⟨b, 9, none⟩), .int .i64 8, .int .i64 0, .int .i64 9007199254740992, .pointer (some ⟨b, 10, none⟩)] 247) = xb at *
  refine bkm hK hb ?_
  clear hK K hHeld
  have hHeld : Keeps w4 xb := hb
  clear hb
  refine tq 16 2 ?_
  refine wpAnyH_done (by kernel_rfl) ?_ _
  refine NoPanic.normal ?_
  go_wp2_with fail
  go_ret
  exact PR.out
 by_cases k3 : k = 3
 ·subst k3
  go_wp2_with fail
  go_ret
  exact parts_ret (l := [pUid]) rfl (by decide) rfl rfl rfl hK
 by_cases k4 : k = 4
 ·subst k4
  go_wp2_with fail
  go_ret
  exact parts_ret (l := [pUid, pFlags]) rfl (by decide) rfl rfl rfl hK
 by_cases k5 : k = 5
 ·subst k5
  go_wp2_with fail
  go_ret
  exact parts_ret (l := [pNext]) rfl (by decide) rfl rfl rfl hK
 by_cases k6 : k = 6
 ·subst k6
  go_wp2_with fail
  go_ret
  exact parts_ret (l := [pBody]) rfl (by decide) rfl rfl rfl hK
 have hn : partsL k = [] := by unfold partsL; rw [if_neg k1, if_neg k2, if_neg k3, if_neg k4, if_neg k5, if_neg k6]
 go_wp2_with fail
 go_ret
 exact ⟨_, rfl, fun _ => rfl, fun h => absurd hn h, hK⟩
end Rcd
end Go.Proofs.YtklbemkafdccgaaGreat

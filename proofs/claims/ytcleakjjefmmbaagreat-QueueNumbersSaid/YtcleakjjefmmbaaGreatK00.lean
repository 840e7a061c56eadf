/- Several texts in one: Base, AdPlain, OctetPlain, UsPlain, Cut, CrcPlain, Cells, VdPlain, RecPlain, MboxPlain, FramePlain, QuNamePl. -/
import Derived.WalkKit
import Derived.ProofKit
import Derived.WalkLawsBesides
import Derived.WalkSpells
import Derived.Lib.Hide
import Derived.Deep.QuietTactic
import Derived.BigQuiet
/- General facts on worlds, for every program: what a call keeps of old memory. -/
namespace Go.Proofs.YtcleakjjefmmbaaGreat
open Go.RowKit

/-- Behind the call, whatever was there ahead of it is as it was. -/
def Keeps (w w' : World) : Prop := Below w.heap.size w w'

theorem Keeps.below {w w' : World} (h : Keeps w w') : Below w.heap.size w w' := h
theorem Keeps.refl (w : World) : Keeps w w := Below.refl _ _
theorem Keeps.trans {a b c : World} (h : Keeps a b) (k : Keeps b c) : Keeps a c := Below.trans h (Below.mono k h.size)
theorem Keeps.alloc {a w : World} (h : Keeps a w) (o : Obj) : Keeps a (w.alloc o) := Below.alloc h h.size o
theorem Keeps.drew {a w : World} (h : Keeps a w) : Keeps a w.drew := Below.drew h
theorem Keeps.drewN {a w : World} (h : Keeps a w) (n : Nat) : Keeps a (w.drewN n) := ⟨h.os, h.tape, h.output, h.size, h.block⟩
theorem Keeps.setCell {a w : World} (h : Keeps a w) {p : Addr} (hp : a.heap.size ≤ p.block) (u : Value) : Keeps a (w.setCell p u) := Below.setCell h hp u
theorem Keeps.size {w w' : World} (h : Keeps w w') : w.heap.size ≤ w'.heap.size := Below.size h
theorem Keeps.cell {w w' : World} (h : Keeps w w') {p : Addr} (hp : p.block < w.heap.size) : w'.cell? p = w.cell? p := Below.cell h hp
theorem Keeps.frozen {w w' : World} (h : Keeps w w') {p : Addr} (hp : p.block < w.heap.size) : w'.frozen? p = w.frozen? p := Below.frozen h hp
theorem Keeps.block {w w' : World} (h : Keeps w w') {k : Nat} (hk : k < w.heap.size) : w'.heap[k]? = w.heap[k]? := Below.block h k hk
theorem Keeps.grown {a w w' : World} {row : Option Nat} (h : Keeps a w) (hg : w.grownBy w' row) (hr : ∀ k, row = some k → a.heap.size ≤ k) : Keeps a w' := Below.grown h hg h.size hr

/-! ### A region that draws its order, whose operations keep old memory and yield one value each -/

structure Kept (w0 : World) where
 w : World
 h : Keeps w0 w

instance (w0 : World) : Nonempty (Kept w0) := ⟨⟨w0, Keeps.refl _⟩⟩

@[simp] theorem Kept.cell {w0 : World} (k : Kept w0) (b o : Nat) (hb : b < w0.heap.size) : k.w.cell? ⟨b, o, none⟩ = w0.cell? ⟨b, o, none⟩ := k.h.cell (p := ⟨b, o, none⟩) hb
@[simp] theorem Kept.frozen {w0 : World} (k : Kept w0) (b o : Nat) (hb : b < w0.heap.size) : k.w.frozen? ⟨b, o, none⟩ = w0.frozen? ⟨b, o, none⟩ := k.h.frozen (p := ⟨b, o, none⟩) hb

theorem wp_region_kept {P : Program} {id : Nat} {Q : Exit → Act → World → Prop} {a : Act} {w : World} {l : List Oper} (hm : P.follows .mixedOrders = true) (hB : Region.lexB .any l.toArray = true)
  (h : wpQuiet P l.toArray (fun w' => ∃ k : Kept w, w' = k.w) (fun a' => ∀ w', (∃ k : Kept w, w' = k.w) → Q .normal a' w') l a) : (Code.region id l.toArray true).wp P Q a w :=
 wp_region_quiet (C := fun w' => ∃ k : Kept w, w' = k.w) hm hB ⟨⟨w.drewN 1, (Keeps.refl w).drewN 1⟩, rfl⟩ (by simpa using h)

theorem Kept.call {P : Program} {f : FuncId} {args : Array Value} {w0 : World} {v : Value} (k : Kept w0)
  (h : Calls P f args k.w fun e w' => e = .returned v ∧ Keeps k.w w') : Calls P f args k.w fun e w'' => e = .returned v ∧ ∃ k' : Kept w0, w'' = k'.w :=
 h.mono fun _ w' ⟨he, hk⟩ => ⟨he, ⟨w', k.h.trans hk⟩, rfl⟩

/-! ### A slice whose elements are one cell each reads as a list of values -/
def Row (w : World) (v : Value) (l : List Value) : Prop :=
 (∃ a0 cap, v = .slice a0 0 cap ∧ l = [] ∧ cap ≤ maxLen ∧ (a0 = none → cap = 0)) ∨
 ∃ b off cap, v = .slice (some ⟨b, off, none⟩) l.length cap ∧ l.length ≤ cap ∧ cap ≤ maxLen ∧ ∀ i x, l[i]? = some x → w.cell? ⟨b, off + i, none⟩ = some x

theorem lt_of_cell {w : World} {b o : Nat} {x : Value} (h : w.cell? ⟨b, o, none⟩ = some x) : b < w.heap.size := World.block_lt_of_cell? w ⟨b, o, none⟩ h

theorem Row.keeps {w w' : World} {v : Value} {l : List Value} (h : Row w v l) (k : Keeps w w') : Row w' v l := by
 rcases h with h | ⟨b, off, cap, hv, h1, h2, h3⟩
 ·exact .inl h
 ·exact .inr ⟨b, off, cap, hv, h1, h2, fun i x hx => by
   have := h3 i x hx
   rw [k.cell (p := ⟨b, off + i, none⟩) (lt_of_cell this)]; exact this⟩
theorem Row.drew {w : World} {v : Value} {l : List Value} (h : Row w v l) : Row w.drew v l := h.keeps ((Keeps.refl _).drew)

/-- a byte as a value -/
def u8v (x : UInt8) : Value := .int .u8 x.toNat

theorem cell_alloc_new (w : World) (cs : Array Value) (e : TypeId) (fr : Nat × Nat) (i : Nat) : (w.alloc (.cells cs e fr)).cell? ⟨w.heap.size, i, none⟩ = cs[i]? := by
 show (match (w.heap.push _)[w.heap.size]? with | some (.cells c _ _) => _ | _ => _) = _
 simp

theorem row_alloc {w : World} {b n : Nat} {cs : Array Value} {e : TypeId} {l : List Value} (hb : b = w.heap.size) (hl : cs.toList = l) (hn : n = l.length) (hm : n ≤ maxLen) : Row (w.alloc (.cells cs e)) (.slice (some ⟨b, 0, none⟩) n n) l := by
 subst hb hl hn
 exact .inr ⟨w.heap.size, 0, cs.size, by simp, by simp, by simpa using hm, fun i x hx => by rw [Nat.zero_add, cell_alloc_new]; simpa using hx⟩

end Go.Proofs.YtcleakjjefmmbaaGreat

/- Domains, plain: read label by label; parted at points. -/
namespace Go.Proofs.YtcleakjjefmmbaaGreat.Adr
abbrev Str := List UInt8
def alnumB (c : UInt8) : Bool := (decide (97 ≤ c.toNat) && decide (c.toNat ≤ 122)) || (decide (65 ≤ c.toNat) && decide (c.toNat ≤ 90)) || (decide (48 ≤ c.toNat) && decide (c.toNat ≤ 57))
def labC (c : UInt8) : Bool := alnumB c || decide (c = 45)
def plainC (c : UInt8) : Bool := decide (32 ≤ c.toNat) && decide (c.toNat ≤ 126)
/-- not empty, no '-' at either end -/
def endsOk (x : Str) : Bool := decide (x ≠ []) && decide (x.head? ≠ some 45) && decide (x.getLast? ≠ some 45)
def labelB (x : Str) : Bool := x.all labC && endsOk x
def runL (s : Str) : Str := s.takeWhile labC
/-- what is left behind a domain; none: there is none -/
def domF : Nat → Str → Option Str
 | 0, _ => none
 |n + 1, s => if endsOk (runL s) = false then none else match s.drop (runL s).length with
  | [] => some []
  |c :: r => if c = 46 then domF n r else some (c :: r)
def splitL : Str → List Str
 | [] => [[]]
 |c :: s => if c = 46 then [] :: splitL s else match splitL s with
  | [] => [[c]]
  |x :: xs => (c :: x) :: xs
def labelsB (s : Str) : Bool := (splitL s).all labelB
def domainB (s : Str) : Bool := labelsB s && decide (s.length ≤ 64)
def goodB (l d : Str) : Bool := l.all plainC && decide (l ≠ []) && decide (l.length ≤ 64) && domainB d
theorem splitL_ne (s : Str) : splitL s ≠ [] := by
 cases s with
 |nil => simp [splitL]
 |cons c s =>
  unfold splitL
  split
  ·simp
  ·split <;> simp
/-- the first part stands ahead of the first point -/
theorem splitL_head (p : Str) (hp : ∀ c ∈ p, c ≠ 46) (r : Str) : splitL (p ++ 46 :: r) = p :: splitL r := by
 induction p with
 |nil => simp [splitL]
 |cons c p ih =>
  have hc : c ≠ 46 := hp c (List.mem_cons_self ..)
  rw [List.cons_append, splitL, if_neg hc, ih (fun x hx => hp x (List.mem_cons_of_mem _ hx))]
theorem splitL_none (p : Str) (hp : ∀ c ∈ p, c ≠ 46) : splitL p = [p] := by
 induction p with
 |nil => simp [splitL]
 |cons c p ih => rw [splitL, if_neg (hp c (List.mem_cons_self ..)), ih (fun x hx => hp x (List.mem_cons_of_mem _ hx))]
theorem lab_pt {c : UInt8} (h : labC c = true) : c ≠ 46 := by
 rintro rfl
 simp [labC, alnumB] at h
theorem splitL_first (s : Str) : ∃ x xs, splitL s = x :: xs := by
 cases h : splitL s with
 |nil => exact absurd h (splitL_ne s)
 |cons x xs => exact ⟨x, xs, rfl⟩
/-- a byte that is no label's and no point spoils the first part -/
theorem splitL_bad (p : Str) (hp : ∀ c ∈ p, c ≠ 46) {c : UInt8} (h1 : c ≠ 46) (h2 : labC c = false) (r : Str) : ((splitL (p ++ c :: r)).all labelB) = false := by
 have h : ∃ x xs, splitL (p ++ c :: r) = x :: xs ∧ c ∈ x := by
  induction p with
  |nil =>
   obtain ⟨x, xs, hx⟩ := splitL_first r
   refine ⟨c :: x, xs, ?_, List.mem_cons_self ..⟩
   rw [List.nil_append, splitL, if_neg h1, hx]
  |cons a p ih =>
   obtain ⟨x, xs, hx, hm⟩ := ih (fun y hy => hp y (List.mem_cons_of_mem _ hy))
   refine ⟨a :: x, xs, ?_, List.mem_cons_of_mem _ hm⟩
   rw [List.cons_append, splitL, if_neg (hp a (List.mem_cons_self ..)), hx]
 obtain ⟨x, xs, hx, hm⟩ := h
 have : labelB x = false := by
  unfold labelB
  have : x.all labC = false := List.all_eq_false.2 ⟨c, hm, by simp [h2]⟩
  simp [this]
 rw [hx, List.all_cons, this]
 rfl
theorem run_all (s : Str) : (runL s).all labC = true := by
 unfold runL
 exact List.all_takeWhile
theorem run_split (s : Str) : s = runL s ++ s.drop (runL s).length := by
 unfold runL
 induction s with
 |nil => rfl
 |cons c s ih =>
  rw [List.takeWhile_cons]
  split
  ·simpa using ih
  ·simp
theorem run_next (s : Str) {c : UInt8} {r : Str} (h : s.drop (runL s).length = c :: r) : labC c = false := by
 unfold runL at h
 induction s with
 |nil => simp at h
 |cons a s ih =>
  rw [List.takeWhile_cons] at h
  split at h
  ·exact ih (by simpa using h)
  ·simp at h
   rw [← h.1]
   simpa using ‹¬ labC a = true›
theorem dom_labels : ∀ (n : Nat) (s : Str), s.length < n → (decide (domF n s = some []) = labelsB s)
 | 0, s, h => by omega
 |n + 1, s, h => by
  have hr := run_split s
  have hpt : ∀ c ∈ runL s, c ≠ 46 := fun c hc => lab_pt (List.all_eq_true.1 (run_all s) c hc)
  have hlab : labelB (runL s) = endsOk (runL s) := by unfold labelB; rw [run_all]; rfl
  unfold labelsB
  unfold domF
  cases hd : s.drop (runL s).length with
  |nil =>
   rw [hd, List.append_nil] at hr
   have e : splitL s = [runL s] := by
    conv => lhs; rw [hr]
    exact splitL_none _ hpt
   rw [e]
   simp only [List.all_cons, List.all_nil, Bool.and_true, hlab]
   cases endsOk (runL s) <;> simp
  |cons c r =>
   rw [hd] at hr
   have hc := run_next s hd
   by_cases hp : c = 46
   ·subst hp
    have hlen : r.length < n := by
     have := congrArg List.length hr
     simp at this
     omega
    have ih := dom_labels n r hlen
    have e : splitL s = runL s :: splitL r := by
     conv => lhs; rw [hr]
     exact splitL_head _ hpt r
    rw [e, List.all_cons, hlab]
    cases hE : endsOk (runL s) with
    |false => simp
    |true =>
     simp only [Bool.true_and]
     unfold labelsB at ih
     rw [← ih]
     simp
   ·have e : (splitL s).all labelB = false := by
     conv => lhs; rw [hr]
     exact splitL_bad _ hpt hp hc r
    rw [e]
    cases hE : endsOk (runL s) <;> simp [hp]
end Go.Proofs.YtcleakjjefmmbaaGreat.Adr

/- Numbers in bytes, the highest first: the plain arithmetic. No program. -/
namespace Go.Proofs.YtcleakjjefmmbaaGreat.Oct

/-- the k bytes of v -/
def be : Nat → Nat → List UInt8
 | 0, _ => []
 |k + 1, v => be k (v / 256) ++ [UInt8.ofNat (v % 256)]
/-- the number that bytes tell -/
def valOf (l : List UInt8) : Nat := l.foldl (fun v c => v * 256 + c.toNat) 0

theorem be_length (k : Nat) : ∀ v, (be k v).length = k := by
 induction k with
 |zero => intro v; rfl
 |succ k ih => intro v; simp [be, ih]
theorem valOf_snoc (l : List UInt8) (c : UInt8) : valOf (l ++ [c]) = valOf l * 256 + c.toNat := by simp [valOf, List.foldl_append]
theorem valOf_be (k : Nat) : ∀ v, valOf (be k v) = v % 256 ^ k := by
 induction k with
 |zero => intro v; simp [be, valOf, Nat.mod_one]
 |succ k ih =>
  intro v
  have hb : (UInt8.ofNat (v % 256)).toNat = v % 256 := by simp
  rw [be, valOf_snoc, ih, hb, Nat.pow_succ, Nat.mul_comm (256 ^ k) 256, Nat.mod_mul]
  omega
theorem snoc_ind {α : Type} {p : List α → Prop} (h0 : p []) (h1 : ∀ l x, p l → p (l ++ [x])) (l : List α) : p l := by
 have h : ∀ m : List α, p m.reverse := by
  intro m
  induction m with
  |nil => exact h0
  |cons x m ih => rw [List.reverse_cons]; exact h1 _ _ ih
 have := h l.reverse
 rwa [List.reverse_reverse] at this
theorem valOf_lt (l : List UInt8) : valOf l < 256 ^ l.length := by
 induction l using snoc_ind with
 |h0 => simp [valOf]
 |h1 l c ih =>
  have := c.toNat_lt
  rw [valOf_snoc, List.length_append, List.length_singleton, Nat.pow_succ]
  have h2 : (valOf l + 1) * 256 ≤ 256 ^ l.length * 256 := Nat.mul_le_mul_right _ ih
  omega
theorem be_get (k : Nat) : ∀ v i, i < k → (be k v)[i]? = some (UInt8.ofNat (v / 256 ^ (k - 1 - i) % 256)) := by
 induction k with
 |zero => intro v i h; omega
 |succ k ih =>
  intro v i h
  rw [be]
  by_cases hi : i < k
  ·rw [List.getElem?_append_left (by rw [be_length]; exact hi), ih _ _ hi]
   have e : v / 256 / 256 ^ (k - 1 - i) = v / 256 ^ (k + 1 - 1 - i) := by
    rw [Nat.div_div_eq_div_mul, show k + 1 - 1 - i = (k - 1 - i) + 1 from by omega, Nat.pow_succ, Nat.mul_comm 256]
   rw [e]
  ·have : i = k := by omega
   subst this
   rw [List.getElem?_append_right (by rw [be_length]; omega), be_length]
   simp

/-- the same bytes, the lowest first -/
def le : Nat → Nat → List UInt8
 | 0, _ => []
 |k + 1, v => le k v ++ [UInt8.ofNat (v / 256 ^ k % 256)]
theorem or_byte (a : Nat) {b : Nat} (hb : b < 256) : a * 256 ||| b = a * 256 + b := by
 have := Nat.shiftLeft_add_eq_or_of_lt (i := 8) (b := b) hb a
 rw [Nat.shiftLeft_eq] at this
 exact this.symm
/-- k is from 1 to 8 -/
def okk (k : Int) : Bool := decide (1 ≤ k ∧ k ≤ 8)
/-- Put answers true -/
def putB (v : Nat) (k : Int) : Bool := okk k && decide (v < 256 ^ k.toNat)
/-- what Put answers -/
def putL (v : Nat) (k : Int) : List UInt8 := if putB v k then be k.toNat v else []
/-- Get -/
def getB (l : List UInt8) (at' k : Int) : Bool := okk k && decide (0 ≤ at' ∧ at' + k ≤ l.length)
def getV (l : List UInt8) (at' k : Int) : Nat := if getB l at' k then valOf ((l.drop at'.toNat).take k.toNat) else 0
theorem okk_cases {k : Int} (h : okk k = true) : k = 1 ∨ k = 2 ∨ k = 3 ∨ k = 4 ∨ k = 5 ∨ k = 6 ∨ k = 7 ∨ k = 8 := by
 have : 1 ≤ k ∧ k ≤ 8 := by simpa [okk] using h
 omega
end Go.Proofs.YtcleakjjefmmbaaGreat.Oct

/- users, plain: names, tables, what is done. -/
namespace Go.Proofs.YtcleakjjefmmbaaGreat.Usr
open Adr (Str goodB domainB)
structure UsrP where
 n : Int
 name : Str
 lb : Int
 lc : Int
deriving DecidableEq
structure AlP where
 name : Str
 tos : List Str
deriving DecidableEq
structure TabP where
 dom : Str
 next : Int
 us : List UsrP
 al : List AlP
deriving DecidableEq
end Go.Proofs.YtcleakjjefmmbaaGreat.Usr

/- Slices of slices: what x[lo:hi] reads as. For every program. -/
namespace Go.Proofs.YtcleakjjefmmbaaGreat
open Go.RowKit

/-- x[lo:hi] of a slice with this address and capacity (one-cell elements) -/
def cutv (p : Option Addr) (lo hi cap : Nat) : Value := .slice (if cap = lo then p else p.map (·.add lo)) (hi - lo) (cap - lo)

theorem Row.cut {w : World} {p : Option Addr} {cap n : Nat} {l : List Value} (h : Row w (.slice p n cap) l) {lo hi : Nat} (h1 : lo ≤ hi) (h2 : hi ≤ l.length) : Row w (cutv p lo hi cap) ((l.drop lo).take (hi - lo)) := by
 rcases h with ⟨a0, cap', hv, rfl, hc, h0⟩ | ⟨b, off, cap', hv, h3, h4, h5⟩
 ·simp only [Value.slice.injEq] at hv
  obtain ⟨rfl, rfl, rfl⟩ := hv
  simp at h2
  obtain rfl : hi = 0 := h2
  obtain rfl : lo = 0 := by omega
  refine .inl ⟨if cap = 0 then p else p.map (·.add 0), cap, by simp [cutv], by simp, hc, ?_⟩
  intro h
  split at h
  ·assumption
  ·exact h0 (by simpa using h)
 ·simp only [Value.slice.injEq] at hv
  obtain ⟨rfl, rfl, rfl⟩ := hv
  have hlen : ((l.drop lo).take (hi - lo)).length = hi - lo := by simp; omega
  by_cases hlo : cap = lo
  ·have : hi = lo := by omega
   subst this
   refine .inl ⟨some ⟨b, off, none⟩, cap - hi, by simp [cutv, hlo], by simp, by omega, fun h => by cases h⟩
  ·refine .inr ⟨b, off + lo, cap - lo, ?_, by omega, by omega, fun i x hx => ?_⟩
   ·rw [hlen]
    simp [cutv, hlo, Go.WideShapes.add_plain]
   ·have hi' : i < hi - lo := by have := (List.getElem?_eq_some_iff.1 hx).1; omega
    rw [Nat.add_assoc]
    refine h5 (lo + i) x ?_
    simpa [List.getElem?_take, hi'] using hx

section
variable {P : Program}
theorem sliced_cutv (p : Option Addr) (lo hi cap : Nat) : sliced p lo hi cap 1 = cutv p lo hi cap := by simp [sliced, cutv]

theorem run_cut_lh (w : World) {t e : TypeId} (ht : P.underlying t = some (.slice e)) (hs : ∀ w, (sizeOf e).run P w = .ok 1 w) (p : Option Addr) (len cap : Nat) {kl kh : IntKind} (l h : Nat) (h1 : l ≤ h) (h2 : h ≤ cap) :
  (Instr.slice t (.slice p len cap) (some (.int kl l)) (some (.int kh h)) none).run P w = .ok (cutv p l h cap) w := by
 have he : P.elem t = e := by simp [Program.elem, ht]
 rw [run_slice_lh w t p len cap (by rw [he]; exact ht) kl kh l h (by omega) (by omega) (by omega), he, hs]
 simp [Result.andThen, sliced_cutv]
theorem run_cut_h (w : World) {t e : TypeId} (ht : P.underlying t = some (.slice e)) (hs : ∀ w, (sizeOf e).run P w = .ok 1 w) (p : Option Addr) (len cap : Nat) {kh : IntKind} (h : Nat) (h2 : h ≤ cap) :
  (Instr.slice t (.slice p len cap) none (some (.int kh h)) none).run P w = .ok (cutv p 0 h cap) w := by
 have he : P.elem t = e := by simp [Program.elem, ht]
 rw [run_slice_h w t p len cap (by rw [he]; exact ht) kh h (by omega) (by omega), he, hs]
 simp [Result.andThen, sliced_cutv]
theorem run_cut_l (w : World) {t e : TypeId} (ht : P.underlying t = some (.slice e)) (hs : ∀ w, (sizeOf e).run P w = .ok 1 w) (p : Option Addr) (len cap : Nat) {kl : IntKind} (l : Nat) (h2 : l ≤ len) :
  (Instr.slice t (.slice p len cap) (some (.int kl l)) none none).run P w = .ok (cutv p l len cap) w := by
 have he : P.elem t = e := by simp [Program.elem, ht]
 rw [run_slice_l w t p len cap (by rw [he]; exact ht) kl l (by omega) (by omega), he, hs]
 simp [Result.andThen, sliced_cutv]
end
end Go.Proofs.YtcleakjjefmmbaaGreat

/- The plain arithmetic of check sums: one step, half a byte, a byte, many; steps are linear and one to one. No program. -/
namespace Go.Proofs.YtcleakjjefmmbaaGreat.Crc

/-- one step -/
def st (c : Nat) : Nat := if c % 2 = 1 then (c / 2) ^^^ 3988292384 else c / 2
/-- n steps -/
def sts : Nat → Nat → Nat
 | 0, c => c
 |n + 1, c => sts n (st c)
/-- a byte -/
def upd (c : Nat) (x : UInt8) : Nat := sts 8 (c ^^^ x.toNat)
def run (c : Nat) (l : List UInt8) : Nat := l.foldl upd c
/-- the sum of bytes that had a sum, and more -/
def more (s : Nat) (l : List UInt8) : Nat := 4294967295 - run (4294967295 - s) l

theorem st_lt {c : Nat} (h : c < 4294967296) : st c < 4294967296 := by
 unfold st
 split
 ·exact Nat.xor_lt_two_pow (n := 32) (by omega) (by omega)
 ·omega
theorem sts_lt (n : Nat) : ∀ {c : Nat}, c < 4294967296 → sts n c < 4294967296 := by
 induction n with
 |zero => intro c h; exact h
 |succ n ih => intro c h; exact ih (st_lt h)
theorem xor_lt {a b : Nat} (h : a < 4294967296) (k : b < 4294967296) : a ^^^ b < 4294967296 := Nat.xor_lt_two_pow (n := 32) h k
theorem byte_lt (x : UInt8) : x.toNat < 256 := x.toNat_lt
theorem upd_lt {c : Nat} (h : c < 4294967296) (x : UInt8) : upd c x < 4294967296 := sts_lt 8 (xor_lt h (by have := byte_lt x; omega))
theorem run_lt (l : List UInt8) : ∀ {c : Nat}, c < 4294967296 → run c l < 4294967296 := by
 induction l with
 |nil => intro c h; exact h
 |cons x l ih => intro c h; exact ih (upd_lt h x)
theorem more_lt (s : Nat) (l : List UInt8) : more s l < 4294967296 := by unfold more; omega

theorem xor_odd (a b : Nat) : (a ^^^ b) % 2 = (a % 2 + b % 2) % 2 := by
 have ha : a % 2 = 0 ∨ a % 2 = 1 := by omega
 have hb : b % 2 = 0 ∨ b % 2 = 1 := by omega
 have := Nat.xor_mod_two_pow (a := a) (b := b) (n := 1)
 simp only [Nat.pow_one] at this
 rw [this]
 rcases ha with h | h <;> rcases hb with k | k <;> rw [h, k] <;> rfl

theorem st_xor (a b : Nat) : st (a ^^^ b) = st a ^^^ st b := by
 have h := xor_odd a b
 have hd : (a ^^^ b) / 2 = a / 2 ^^^ b / 2 := by
  have := Nat.xor_div_two_pow (a := a) (b := b) (n := 1)
  simpa using this
 unfold st
 rw [h, hd]
 have ha : a % 2 = 0 ∨ a % 2 = 1 := by omega
 have hb : b % 2 = 0 ∨ b % 2 = 1 := by omega
 rcases ha with ha | ha <;> rcases hb with hb | hb <;> simp [ha, hb]
 ·rw [Nat.xor_assoc]
 ·rw [Nat.xor_assoc, Nat.xor_assoc, Nat.xor_comm 3988292384 (b / 2)]
 ·rw [Nat.xor_assoc, ← Nat.xor_assoc 3988292384, Nat.xor_comm 3988292384 (b / 2), Nat.xor_assoc, Nat.xor_self, Nat.xor_zero]
theorem sts_xor (n : Nat) : ∀ a b, sts n (a ^^^ b) = sts n a ^^^ sts n b := by
 induction n with
 |zero => intro a b; rfl
 |succ n ih => intro a b; simp only [sts]; rw [st_xor, ih]
theorem sts_add (n m : Nat) : ∀ c, sts (n + m) c = sts m (sts n c) := by
 induction n with
 |zero => intro c; simp [sts]
 |succ n ih => intro c; rw [Nat.succ_add]; simp only [sts]; exact ih _

/-- half a byte by the table -/
def nib (c : Nat) : Nat := sts 4 (c % 16) ^^^ (c / 16)
theorem split16 (c : Nat) : c = (c / 16 * 16) ^^^ (c % 16) := by
 have h : (c / 16 * 16) ||| (c % 16) = c / 16 * 16 + c % 16 := by
  have := Nat.shiftLeft_add_eq_or_of_lt (i := 4) (b := c % 16) (by omega) (c / 16)
  rw [Nat.shiftLeft_eq] at this
  exact this.symm
 have h2 : (c / 16 * 16) &&& (c % 16) = 0 := by
  apply Nat.eq_of_testBit_eq
  intro i
  rw [Nat.testBit_and, Nat.zero_testBit]
  by_cases hi : i < 4
  ·have : (c / 16 * 16).testBit i = false := by
    rw [show (16 : Nat) = 2 ^ 4 from rfl, Nat.testBit_mul_two_pow]
    simp; omega
   simp [this]
  ·have : (c % 16).testBit i = false := Nat.testBit_lt_two_pow (Nat.lt_of_lt_of_le (by omega : c % 16 < 2 ^ 4) (Nat.pow_le_pow_right (by omega) (by omega)))
   simp [this]
 have h3 : (c / 16 * 16) ^^^ (c % 16) = (c / 16 * 16) ||| (c % 16) := by
  apply Nat.eq_of_testBit_eq
  intro i
  have := congrArg (fun n => Nat.testBit n i) h2
  simp only [Nat.testBit_and, Nat.zero_testBit] at this
  rw [Nat.testBit_xor, Nat.testBit_or]
  cases hx : (c / 16 * 16).testBit i <;> cases hy : (c % 16).testBit i <;> simp_all
 rw [h3, h]
 omega
theorem sts_even (k : Nat) (c : Nat) : sts 4 (c * 16) = c := by
 have h1 : ∀ d, st (d * 2) = d := fun d => by unfold st; rw [if_neg (by omega)]; omega
 simp only [sts]
 rw [show c * 16 = c * 8 * 2 from by omega, h1, show c * 8 = c * 4 * 2 from by omega, h1, show c * 4 = c * 2 * 2 from by omega, h1, h1]
theorem nib_eq (c : Nat) : nib c = sts 4 c := by
 conv => rhs; rw [split16 c, sts_xor, sts_even 0]
 rw [Nat.xor_comm]
 rfl
theorem upd_nib (c : Nat) (x : UInt8) : upd c x = nib (nib (c ^^^ x.toNat)) := by
 rw [nib_eq, nib_eq, ← sts_add]; rfl

theorem run_append (c : Nat) (l m : List UInt8) : run c (l ++ m) = run (run c l) m := by simp [run, List.foldl_append]
theorem more_append (s : Nat) (l m : List UInt8) : more (more s l) m = more s (l ++ m) := by
 unfold more
 rw [run_append]
 have := run_lt l (c := 4294967295 - s) (by omega)
 rw [show 4294967295 - (4294967295 - run (4294967295 - s) l) = run (4294967295 - s) l from by omega]
end Go.Proofs.YtcleakjjefmmbaaGreat.Crc

/- Cells that are there stay as they are behind a call that keeps old memory. Written by a program (lists of lemmas by the number of cells). -/
namespace Go.Proofs.YtcleakjjefmmbaaGreat
theorem keep1 {w w1 : World} {p0 : Addr} {v0 : Value} (hk : Keeps w w1) (h : w.cell? p0 = some v0) : w1.cell? p0 = some v0 := by
 rw [hk.cell (World.block_lt_of_cell? w p0 h)]; exact h
end Go.Proofs.YtcleakjjefmmbaaGreat

/- The disk, plain: names as a list of (name, node) by rising names. -/
namespace Go.Proofs.YtcleakjjefmmbaaGreat.Vd

abbrev Str := List UInt8
structure Pat where
 place : Nat
 b : Str
structure Nod where
 seen : Str
 sure : Str
 pats : List Pat
 fresh : Bool
structure Mv where
 node : Nat
 name : Str
 made : Bool
abbrev Nms := List (Str × Nat)
structure Dsk where
 room : Int
 nodes : List Nod
 seen : Nms
 sure : Nms
 moves : List Mv
 off : Bool
 count : Int
 fail : Int × Int
 crash : Int × Int

def AscN (l : Nms) : Prop := l.Pairwise (fun a b => a.1 < b.1)
def look (l : Nms) (x : Str) : Option Nat := (l.find? (fun p => decide (p.1 = x))).map (·.2)
def putN (l : Nms) (x : Str) (i : Nat) : Nms := l.filter (fun p => decide (p.1 < x)) ++ (x, i) :: l.filter (fun p => decide (x < p.1))
def dropN (l : Nms) (i : Nat) : Nms := l.filter (fun p => decide (p.2 ≠ i))
def giveN (l : Nms) (m : Mv) : Nms := if m.name = [] then dropN l m.node else putN (dropN l m.node) m.name m.node
theorem str_irrefl (a : Str) : ¬ a < a := List.lt_irrefl a
theorem str_trans {a b c : Str} (h : a < b) (k : b < c) : a < c := List.lt_trans h k
theorem str_tri (a b : Str) : a < b ∨ a = b ∨ b < a := by
 by_cases h : a < b
 ·exact .inl h
 ·by_cases h2 : b < a
  ·exact .inr (.inr h2)
  ·exact .inr (.inl (List.le_antisymm (List.not_lt.1 h2) (List.not_lt.1 h)))
theorem str_ne {a b : Str} (h : a < b) : a ≠ b := fun e => by subst e; exact str_irrefl a h

theorem look_mem {l : Nms} (h : AscN l) {x : Str} {i : Nat} : look l x = some i ↔ (x, i) ∈ l := by
 unfold look
 induction l with
 |nil => simp
 |cons p l ih =>
  obtain ⟨h1, h2⟩ := List.pairwise_cons.1 h
  rw [List.find?_cons]
  by_cases hx : p.1 = x
  ·subst hx
   simp only [decide_true, Option.map_some, Option.some.injEq, List.mem_cons]
   constructor
   ·intro he; subst he; exact .inl rfl
   ·rintro (he | hm)
    ·rw [← he]
    ·exact absurd (h1 (p.1, i) hm) (str_irrefl p.1)
  ·have hd : decide (p.1 = x) = false := by simp [hx]
   rw [hd]
   simp only
   rw [ih h2, List.mem_cons]
   constructor
   ·exact .inr
   ·rintro (he | hm)
    ·exact absurd (congrArg Prod.fst he).symm hx
    ·exact hm
theorem look_none {l : Nms} {x : Str} : look l x = none ↔ ∀ p ∈ l, p.1 ≠ x := by
 unfold look
 simp
theorem ascN_put {l : Nms} (h : AscN l) (x : Str) (i : Nat) : AscN (putN l x i) := by
 unfold putN AscN
 refine List.pairwise_append.2 ⟨h.filter _, List.pairwise_cons.2 ⟨fun b hb => by simpa using (List.mem_filter.1 hb).2, h.filter _⟩, fun a ha b hb => ?_⟩
 have h1 : a.1 < x := by simpa using (List.mem_filter.1 ha).2
 rcases List.mem_cons.1 hb with rfl | hb
 ·exact h1
 ·exact str_trans h1 (by simpa using (List.mem_filter.1 hb).2)
theorem ascN_drop {l : Nms} (h : AscN l) (i : Nat) : AscN (dropN l i) := h.filter _
theorem ascN_give {l : Nms} (h : AscN l) (m : Mv) : AscN (giveN l m) := by
 unfold giveN
 split
 ·exact ascN_drop h _
 ·exact ascN_put (ascN_drop h _) _ _
theorem opt_ext {α : Type} {a b : Option α} (h : ∀ i, a = some i ↔ b = some i) : a = b := by
 cases a with
 |none =>
  cases b with
  |none => rfl
  |some x => exact absurd ((h x).2 rfl) (by simp)
 |some x => exact ((h x).1 rfl).symm
theorem look_put {l : Nms} (h : AscN l) (x : Str) (i : Nat) (y : Str) : look (putN l x i) y = if y = x then some i else look l y := by
 apply opt_ext
 intro k
 rw [look_mem (ascN_put h x i)]
 unfold putN
 rw [List.mem_append, List.mem_cons, List.mem_filter, List.mem_filter]
 by_cases hy : y = x
 ·subst hy
  rw [if_pos rfl]
  simp only [Prod.mk.injEq, true_and, decide_eq_true_eq, Option.some.injEq]
  constructor
  ·rintro (hh | rfl | hh)
   ·exact absurd hh.2 (str_irrefl _)
   ·rfl
   ·exact absurd hh.2 (str_irrefl _)
  ·intro hh; exact .inr (.inl hh.symm)
 ·rw [if_neg hy, look_mem h]
  simp only [Prod.mk.injEq, decide_eq_true_eq]
  constructor
  ·rintro (hh | hh | hh)
   ·exact hh.1
   ·exact absurd hh.1 hy
   ·exact hh.1
  ·intro hh
   rcases str_tri y x with h1 | h1 | h1
   ·exact .inl ⟨hh, h1⟩
   ·exact absurd h1 hy
   ·exact .inr (.inr ⟨hh, h1⟩)
theorem look_drop {l : Nms} (h : AscN l) (i : Nat) (y : Str) : look (dropN l i) y = (look l y).filter (fun k => decide (k ≠ i)) := by
 apply opt_ext
 intro k
 rw [look_mem (ascN_drop h i)]
 unfold dropN
 rw [List.mem_filter, Option.filter_eq_some_iff, look_mem h]
/-- how many bytes the names' files have -/
def bytesN (nodes : List Nod) (l : Nms) : Nat := (l.map fun p => ((nodes[p.2]?).map (·.seen.length)).getD 0).sum
def freeD (d : Dsk) : Int := d.room - bytesN d.nodes d.seen
end Go.Proofs.YtcleakjjefmmbaaGreat.Vd

/- Records, plain: which are right. No program. -/
namespace Go.Proofs.YtcleakjjefmmbaaGreat.Rcd

structure Rec where
 kind : Int
 user : Int
 seq : Int
 next : Int
 base : Int
 uid : Int
 time : Int
 flags : Int
 body : Int
 size : Int
 origin : Int
 data : List UInt8
deriving DecidableEq

/-- the field at a place of the struct -/
def fld (r : Rec) : Nat → Int
 | 0 => r.kind
 | 1 => r.user
 | 2 => r.seq
 | 3 => r.next
 | 4 => r.base
 | 5 => r.uid
 | 6 => r.time
 | 7 => r.flags
 | 8 => r.body
 | 9 => r.size
 | 10 => r.origin
 | _ => 0
/-- a field that a kind tells: its width, its bounds, its place -/
structure Part where
 width : Int
 low : Int
 high : Int
 off : Nat
deriving DecidableEq
def pUid : Part := ⟨4, 1, 2147483648, 5⟩
def pFlags : Part := ⟨1, 0, 31, 7⟩
def pBody : Part := ⟨4, 1, 2147483648, 8⟩
def pNext : Part := ⟨4, 1, 2147483649, 3⟩
def partsL (k : Int) : List Part :=
 if k = 1 then [⟨2, 1, 999, 1⟩, ⟨4, 1, 2147483648, 2⟩, pNext, ⟨4, 0, 2147483648, 4⟩]
 else if k = 2 then [pUid, ⟨8, 0, 4503599627370496, 6⟩, pFlags, pBody, ⟨4, 0, 32768, 9⟩, ⟨8, 0, 9007199254740992, 10⟩]
 else if k = 3 then [pUid]
 else if k = 4 then [pUid, pFlags]
 else if k = 5 then [pNext]
 else if k = 6 then [pBody]
 else []
/-- is a field within its bounds? -/
def okP (r : Rec) (p : Part) : Bool := decide (p.low ≤ fld r p.off) && decide (fld r p.off ≤ p.high)
def within (r : Rec) : Bool := (partsL r.kind).all (okP r)
/-- a record with just what its kind tells -/
def bare (r : Rec) : Rec :=
 if r.kind = 1 then ⟨1, r.user, r.seq, r.next, r.base, 0, 0, 0, 0, 0, 0, []⟩
 else if r.kind = 2 then ⟨2, 0, 0, 0, 0, r.uid, r.time, r.flags, r.body, r.size, r.origin, []⟩
 else if r.kind = 3 then ⟨3, 0, 0, 0, 0, r.uid, 0, 0, 0, 0, 0, []⟩
 else if r.kind = 4 then ⟨4, 0, 0, 0, 0, r.uid, 0, r.flags, 0, 0, 0, []⟩
 else if r.kind = 5 then ⟨5, 0, 0, r.next, 0, 0, 0, 0, 0, 0, 0, []⟩
 else ⟨6, 0, 0, 0, 0, 0, 0, 0, r.body, 0, 0, r.data⟩
def chk (r : Rec) : Int :=
 if r.kind < 1 ∨ 6 < r.kind then 16
 else if within r = false then 1
 else if r.kind = 6 ∧ 32768 < r.data.length then 4
 else if r = bare r then 0 else 3
end Go.Proofs.YtcleakjjefmmbaaGreat.Rcd

/- Mailboxes, plain. No program. -/
namespace Go.Proofs.YtcleakjjefmmbaaGreat.Mbx
open Rcd

structure Ent where
 uid : Int
 time : Int
 flags : Int
 body : Int
 size : Int
 origin : Int
 gone : Bool
structure Box where
 ent : Int → Option Ent
 org : Int → Option Int
 next : Int
 ub : Int
 uc : Int
def upd {α : Type} (f : Int → Option α) (k : Int) (v : α) : Int → Option α := fun x => if x = k then some v else f x
theorem upd_same {α : Type} (f : Int → Option α) (k : Int) (v : α) : upd f k v k = some v := if_pos rfl
theorem upd_other {α : Type} (f : Int → Option α) {k x : Int} (v : α) (h : x ≠ k) : upd f k v x = f x := if_neg h
def sumB (n : Int) : Bool := decide (0 ≤ n) && decide (n ≤ 9007199254740992)
def addB (a b : Int) : Bool := sumB a && sumB b && decide (a ≤ 9007199254740992 - b)
def putB (ub uc s : Int) : Bool := addB ub s && addB uc 1
def takeB (ub uc s : Int) : Bool := sumB ub && sumB uc && sumB s && decide (s ≤ ub) && !(uc == 0)
def new : Box := ⟨fun _ => none, fun _ => none, 1, 0, 0⟩
def entOf (r : Rec) : Ent := ⟨r.uid, r.time, r.flags, r.body, r.size, r.origin, false⟩
def first (m : Box) (o u : Int) : Bool := match m.org o with
 |none => true
 |some n => decide (u < n)
def addM (m : Box) (r : Rec) : Box :=
 ⟨upd m.ent r.uid (entOf r), if first m r.origin r.uid then upd m.org r.origin r.uid else m.org, if m.next < r.uid + 1 then r.uid + 1 else m.next, m.ub + r.size, m.uc + 1⟩
def add (m : Box) (r : Rec) : Box × Bool := if (m.ent r.uid).isSome ∨ putB m.ub m.uc r.size = false then (m, false) else (addM m r, true)
def live (m : Box) (u : Int) : Option Ent := (m.ent u).filter (fun e => !e.gone)
def goneM (m : Box) (u : Int) (e : Ent) : Box := { m with ent := upd m.ent u { e with gone := true, flags := 0 }, ub := if takeB m.ub m.uc e.size then m.ub - e.size else 0, uc := if takeB m.ub m.uc e.size then m.uc - 1 else 0 }
def gone (m : Box) (u : Int) : Box × Bool := match live m u with
 |none => (m, false)
 |some e => (goneM m u e, true)
def flagM (m : Box) (u : Int) (e : Ent) (f : Int) : Box := { m with ent := upd m.ent u { e with flags := f } }
def flag (m : Box) (u f : Int) : Box × Bool := match live m u with
 |none => (m, false)
 |some e => (flagM m u e f, true)
def take (m : Box) (r : Rec) : Box × Bool :=
 if chk r ≠ 0 then (m, false)
 else if r.kind = 2 then add m r
 else if r.kind = 3 then gone m r.uid
 else if r.kind = 4 then flag m r.uid r.flags
 else (m, false)
def all (m : Box) : List Rec → Box
 | [] => m
 |r :: l => all (take m r).1 l
/-- what holds behind n records -/
structure Inv (m : Box) (n : Nat) : Prop where
 low : ∀ x e, m.ent x = some e → x < m.next
 n1 : 1 ≤ m.next
 n2 : m.next ≤ 2147483649
 b0 : 0 ≤ m.ub
 b1 : m.ub ≤ 32768 * n
 c0 : 0 ≤ m.uc
 c1 : m.uc ≤ n
 sz : ∀ x e, m.ent x = some e → 0 ≤ e.size
theorem Inv.mono {m : Box} {n k : Nat} (h : Inv m n) (hk : n ≤ k) : Inv m k := ⟨h.low, h.n1, h.n2, h.b0, by have := h.b1; omega, h.c0, by have := h.c1; omega, h.sz⟩
end Go.Proofs.YtcleakjjefmmbaaGreat.Mbx

/- Frames: the plain forms. No program. -/
namespace Go.Proofs.YtcleakjjefmmbaaGreat.Frm
open Oct

def veilB (c : UInt8) : List UInt8 := if c = 80 ∨ c = 81 then [81, c - 80] else [c]
def veil (l : List UInt8) : List UInt8 := l.flatMap veilB
def front (kind n : Nat) : List UInt8 := be 1 kind ++ be 4 n
def sumN (kind : Nat) (p : List UInt8) : Nat := Crc.more 0 (front kind p.length ++ p)
/-- what is veiled -/
def body (kind : Nat) (p : List UInt8) : List UInt8 := front kind p.length ++ (be 4 (sumN kind p) ++ p)
def wrapE (kind : Int) (n : Nat) : Int := if kind < 0 ∨ 255 < kind then 1 else if 65536 < n then 4 else 0
def wrapL (kind : Int) (p : List UInt8) : List UInt8 := if wrapE kind p.length = 0 then 80 :: veil (body kind.toNat p) else []

theorem veil_append (a b : List UInt8) : veil (a ++ b) = veil a ++ veil b := by simp [veil]
theorem veilB_len (c : UInt8) : 1 ≤ (veilB c).length ∧ (veilB c).length ≤ 2 := by unfold veilB; split <;> simp
theorem veil_len (l : List UInt8) : l.length ≤ (veil l).length ∧ (veil l).length ≤ 2 * l.length := by
 induction l with
 |nil => simp [veil]
 |cons c l ih =>
  have := veilB_len c
  simp only [veil, List.flatMap_cons, List.length_append, List.length_cons] at *
  omega
theorem front_len (kind n : Nat) : (front kind n).length = 5 := by simp [front, be_length]
theorem body_len (kind : Nat) (p : List UInt8) : (body kind p).length = 9 + p.length := by simp [body, front_len, be_length]; omega

/-- one byte that is read: 0, the byte, how many were used; or an error -/
def rd (l : List UInt8) : Int × UInt8 × Nat :=
 match l with
 | [] => (2, 0, 0)
 |c :: r => if c = 80 then (3, 0, 0) else if c = 81 then (match r with | [] => (2, 0, 0) | d :: _ => if d.toNat > 1 then (3, 0, 0) else (0, 80 + d, 2)) else (0, c, 1)
/-- k bytes -/
def rdN : Nat → List UInt8 → Int × List UInt8 × Nat
 | 0, _ => (0, [], 0)
 |k + 1, l => if (rd l).1 = 0 then ((rdN k (l.drop (rd l).2.2)).1, (rd l).2.1 :: (rdN k (l.drop (rd l).2.2)).2.1, (rd l).2.2 + (rdN k (l.drop (rd l).2.2)).2.2) else ((rd l).1, [], 0)

theorem rd_veil {l : List UInt8} (h : (rd l).1 = 0) : l = veilB (rd l).2.1 ++ l.drop (rd l).2.2 ∧ (rd l).2.2 = (veilB (rd l).2.1).length := by
 unfold rd at h ⊢
 cases l with
 |nil => simp at h
 |cons c r =>
  simp only at h ⊢
  split at h
  ·simp at h
  ·rename_i h80
   rw [if_neg h80]
   split at h
   ·rename_i h81
    rw [if_pos h81]
    subst h81
    cases r with
    |nil => simp at h
    |cons d r =>
     simp only at h ⊢
     split at h
     ·simp at h
     ·rename_i hd
      rw [if_neg hd]
      have hd' : d = 0 ∨ d = 1 := by
       have : d.toNat = 0 ∨ d.toNat = 1 := by omega
       rcases this with h | h
       ·left; exact UInt8.toNat_inj.1 h
       ·right; exact UInt8.toNat_inj.1 h
      rcases hd' with rfl | rfl <;> simp [veilB] <;> decide
   ·rename_i h81
    rw [if_neg h81]
    simp [veilB, h80, h81]
theorem rd_put (c : UInt8) (r : List UInt8) : rd (veilB c ++ r) = (0, c, (veilB c).length) := by
 unfold veilB
 by_cases h0 : c = 80
 ·subst h0
  rw [if_pos (.inl rfl)]
  simp [rd]
 ·by_cases h1 : c = 81
  ·subst h1
   rw [if_pos (.inr rfl)]
   simp [rd]
  ·rw [if_neg (by simp [h0, h1])]
   simp [rd, h0, h1]
theorem rdN_veil (k : Nat) : ∀ {l : List UInt8}, (rdN k l).1 = 0 → (rdN k l).2.1.length = k ∧ l = veil (rdN k l).2.1 ++ l.drop (rdN k l).2.2 ∧ (rdN k l).2.2 = (veil (rdN k l).2.1).length := by
 induction k with
 |zero => intro l _; simp [rdN, veil]
 |succ k ih =>
  intro l h
  by_cases h0 : (rd l).1 = 0
  ·simp only [rdN, h0, if_true] at h ⊢
   obtain ⟨h1, h2, h3⟩ := ih h
   obtain ⟨h4, h5⟩ := rd_veil h0
   refine ⟨by simp [h1], ?_, ?_⟩
   ·conv => lhs; rw [h4, h2]
    simp [veil, List.drop_drop, Nat.add_comm]
   ·simp only [veil, List.flatMap_cons, List.length_append] at *
    omega
  ·simp only [rdN, h0] at h
   simp at h
   exact absurd h h0
theorem rdN_put (m : List UInt8) : ∀ (r : List UInt8), rdN m.length (veil m ++ r) = (0, m, (veil m).length) := by
 induction m with
 |nil => intro r; rfl
 |cons c m ih =>
  intro r
  have h := rd_put c (veil m ++ r)
  have e : veil (c :: m) ++ r = veilB c ++ (veil m ++ r) := by simp [veil]
  rw [e]
  simp only [List.length_cons, rdN, h, if_true]
  rw [List.drop_left, ih]
  simp [veil]
theorem rdN_add (a b : Nat) : ∀ l, rdN (a + b) l = if (rdN a l).1 = 0 then ((rdN b (l.drop (rdN a l).2.2)).1, (rdN a l).2.1 ++ (rdN b (l.drop (rdN a l).2.2)).2.1, (rdN a l).2.2 + (rdN b (l.drop (rdN a l).2.2)).2.2) else rdN a l := by
 induction a with
 |zero => intro l; simp [rdN]
 |succ a ih =>
  intro l
  rw [show a + 1 + b = (a + b) + 1 from by omega]
  by_cases h0 : (rd l).1 = 0
  ·simp only [rdN, h0, if_true, ih]
   by_cases h1 : (rdN a (l.drop (rd l).2.2)).1 = 0
   ·simp [h1, List.drop_drop, Nat.add_assoc]
   ·simp [h1]
  ·simp [rdN, h0]
end Go.Proofs.YtcleakjjefmmbaaGreat.Frm

/- queue, plain: a job's file's name; the number of a name. -/
namespace Go.Proofs.YtcleakjjefmmbaaGreat.Que
abbrev Str := List UInt8
def maxId : Nat := 1099511627776
/-- the last k digits of n -/
def dig : Nat → Nat → Str
 | 0, _ => []
 |k + 1, n => dig k (n / 10) ++ [UInt8.ofNat (48 + n % 10)]
theorem dig_len : ∀ k n, (dig k n).length = k
 | 0, _ => rfl
 |k + 1, n => by rw [dig, List.length_append, dig_len k, List.length_singleton]
/-- Name -/
def nameQ (id : Int) : Str := if 1 ≤ id ∧ id ≤ 1099511627776 then 113 :: dig 13 id.toNat else []
def isDig (c : UInt8) : Bool := decide (48 ≤ c.toNat) && decide (c.toNat ≤ 57)
theorem digit_is (n : Nat) : (UInt8.ofNat (48 + n % 10)).toNat = 48 + n % 10 := by
 have : n % 10 < 10 := Nat.mod_lt _ (by decide)
 rw [UInt8.toNat_ofNat']
 omega
/-- the number's digits, one by one; none: it is no number -/
def par : Nat → Str → Option Nat
 |n, [] => some n
 |n, c :: t => if isDig c = false ∨ maxId < n then none else par (10 * n + (c.toNat - 48)) t
theorem par_append : ∀ (a b : Str) (n : Nat), par n (a ++ b) = (par n a).bind (fun m => par m b)
 | [], _, _ => rfl
 |c :: a, b, n => by
  rw [List.cons_append, par, par]
  split
  ·rfl
  ·exact par_append a b _
theorem par_digit (n d : Nat) (hn : n ≤ maxId) : par n [UInt8.ofNat (48 + d % 10)] = some (10 * n + d % 10) := by
 have hd : d % 10 < 10 := Nat.mod_lt _ (by decide)
 have h1 := digit_is d
 rw [par, if_neg, par, h1]
 ·congr 1; omega
 ·unfold isDig
  rw [h1]
  simp
  omega
theorem par_dig : ∀ (k n : Nat), n < 10 ^ k → n ≤ maxId → par 0 (dig k n) = some n
 | 0, n, h, _ => by
  have : n = 0 := by simpa using h
  subst this
  rfl
 |k + 1, n, h, hm => by
  have h1 : n / 10 < 10 ^ k := by
   rw [Nat.pow_succ] at h
   omega
  rw [dig, par_append, par_dig k (n / 10) h1 (by omega)]
  show par (n / 10) _ = _
  rw [par_digit _ _ (by omega)]
  congr 1
  omega
/-- what stands behind the prefix q -/
def tailQ : Str → Str
 | 113 :: t => t
 |s => s
/-- number -/
def numQ (s : Str) : Nat := match par 0 (tailQ s) with
 |none => 0
 |some n => if nameQ n = s then n else 0
theorem numQ_name {id : Nat} (h1 : 1 ≤ id) (h2 : id ≤ maxId) : numQ (nameQ id) = id := by
 unfold maxId at h2
 have e : nameQ id = 113 :: dig 13 id := by
  unfold nameQ
  rw [if_pos ⟨by omega, by omega⟩]
  rfl
 unfold numQ
 rw [e]
 show (match par 0 (dig 13 id) with | none => 0 | some n => if nameQ n = 113 :: dig 13 id then n else 0) = id
 rw [par_dig 13 id (by omega) (by unfold maxId; omega)]
 show (if nameQ id = 113 :: dig 13 id then id else 0) = id
 rw [if_pos e]
theorem nameQ_range {id : Int} (h : nameQ id ≠ []) : 1 ≤ id ∧ id ≤ 1099511627776 := by
 unfold nameQ at h
 split at h
 ·rename_i hh; exact hh
 ·exact absurd rfl h
theorem numQ_some {s : Str} (h : numQ s ≠ 0) : nameQ (numQ s) = s ∧ 1 ≤ numQ s ∧ numQ s ≤ maxId := by
 unfold numQ at h ⊢
 split at h
 ·exact absurd rfl h
 ·rename_i n hp
  split at h
  ·rename_i he
   rw [if_pos he]
   refine ⟨he, by omega, ?_⟩
   have : nameQ n ≠ [] := by
    intro e
    rw [e] at he
    subst he
    have : par 0 (tailQ []) = some 0 := rfl
    rw [this] at hp
    simp only [Option.some.injEq] at hp
    exact h hp.symm
   have := (nameQ_range this).2
   unfold maxId
   omega
  ·exact absurd rfl h
theorem numQ_of {s : Str} {id : Int} (h : nameQ id = s) (hs : s ≠ []) : (numQ s : Int) = id := by
 have h1 := nameQ_range (id := id) (by rw [h]; exact hs)
 have h2 := numQ_name (id := id.toNat) (by omega) (by unfold maxId; omega)
 rw [show ((id.toNat : Nat) : Int) = id from by omega, h] at h2
 omega
/-- digits already laid, zeros ahead -/
theorem dig_split : ∀ (t k n : Nat), dig (k + t) n = dig k (n / 10 ^ t) ++ dig t n
 | 0, k, n => by simp [dig]
 |t + 1, k, n => by
  show dig (k + t + 1) n = _
  rw [dig, dig, dig_split t k (n / 10), List.append_assoc, Nat.div_div_eq_div_mul, Nat.pow_succ, Nat.mul_comm]
theorem dig_zero : ∀ k, dig k 0 = List.replicate k 48
 | 0 => rfl
 |k + 1 => by
  rw [dig, show (0 : Nat) / 10 = 0 from rfl, dig_zero k, List.replicate_succ']
  rfl
theorem lt_append : ∀ {a b s t : Str}, a.length = b.length → a < b → a ++ s < b ++ t
 | [], [], _, _, _, h => absurd h (List.lt_irrefl _)
 | [], _ :: _, _, _, hl, _ => by simp at hl
 | _ :: _, [], _, _, hl, _ => by simp at hl
 |x :: a, y :: b, s, t, hl, h => by
  rw [List.cons_append, List.cons_append]
  rcases List.cons_lt_cons_iff.1 h with h | ⟨h1, h2⟩
  ·exact List.cons_lt_cons_iff.2 (.inl h)
  ·exact List.cons_lt_cons_iff.2 (.inr ⟨h1, lt_append (by simpa using hl) h2⟩)
theorem lt_same {s t : Str} (h : s < t) : ∀ a : Str, a ++ s < a ++ t
 | [] => h
 |x :: a => by
  rw [List.cons_append, List.cons_append]
  exact List.cons_lt_cons_iff.2 (.inr ⟨rfl, lt_same h a⟩)
theorem dig_lt : ∀ (k a b : Nat), a < b → b < 10 ^ k → dig k a < dig k b
 | 0, a, b, h, hb => by
  have : b < 1 := by simpa using hb
  omega
 |k + 1, a, b, h, hb => by
  rw [dig, dig]
  have hb2 : b / 10 < 10 ^ k := by rw [Nat.pow_succ] at hb; omega
  rcases Nat.lt_or_ge (a / 10) (b / 10) with h1 | h1
  ·exact lt_append (by rw [dig_len, dig_len]) (dig_lt k _ _ h1 hb2)
  ·have e : a / 10 = b / 10 := by omega
   rw [e]
   refine lt_same (List.cons_lt_cons_iff.2 (.inl ?_)) _
   rw [UInt8.lt_iff_toNat_lt, digit_is, digit_is]
   omega
theorem nameQ_eq {id : Int} (h1 : 1 ≤ id) (h2 : id ≤ 1099511627776) : nameQ id = 113 :: dig 13 id.toNat := by
 unfold nameQ
 rw [if_pos ⟨h1, h2⟩]
theorem nameQ_len {id : Int} (h1 : 1 ≤ id) (h2 : id ≤ 1099511627776) : (nameQ id).length = 14 := by
 rw [nameQ_eq h1 h2, List.length_cons, dig_len]
theorem nameQ_ne {id : Int} (h1 : 1 ≤ id) (h2 : id ≤ 1099511627776) : nameQ id ≠ [] := by
 rw [nameQ_eq h1 h2]
 simp
theorem nameQ_lt {a b : Int} (h1 : 1 ≤ a) (h : a < b) (h2 : b ≤ 1099511627776) : nameQ a < nameQ b := by
 rw [nameQ_eq h1 (by omega), nameQ_eq (by omega) h2]
 exact List.cons_lt_cons_iff.2 (.inr ⟨rfl, dig_lt 13 _ _ (by omega) (by omega)⟩)
theorem nameQ_inj {a b : Int} (h1 : 1 ≤ a ∧ a ≤ 1099511627776) (h2 : 1 ≤ b ∧ b ≤ 1099511627776) (h : nameQ a = nameQ b) : a = b := by
 rcases Int.lt_trichotomy a b with h3 | h3 | h3
 ·have := nameQ_lt h1.1 h3 h2.2
  rw [h] at this
  exact absurd this (List.lt_irrefl _)
 ·exact h3
 ·have := nameQ_lt h2.1 h3 h1.2
  rw [h] at this
  exact absurd this (List.lt_irrefl _)
/-- a name ends in a digit -/
theorem nameQ_end {id : Int} (h1 : 1 ≤ id) (h2 : id ≤ 1099511627776) : ∃ s d, nameQ id = s ++ [UInt8.ofNat (48 + d % 10)] ∧ s.length = 13 := by
 rw [nameQ_eq h1 h2]
 exact ⟨113 :: dig 12 (id.toNat / 10), id.toNat, by rw [dig, List.cons_append], by rw [List.length_cons, dig_len]⟩
end Go.Proofs.YtcleakjjefmmbaaGreat.Que

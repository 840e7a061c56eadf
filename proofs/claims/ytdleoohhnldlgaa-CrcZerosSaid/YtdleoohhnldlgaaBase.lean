/- General facts on worlds, for every program: what a call keeps of old memory. -/
import Derived.WalkKit
import Derived.ProofKit
import Derived.WalkLawsBesides
import Derived.WalkSpells
import Derived.Lib.Hide
import Derived.Deep.QuietTactic
import Derived.BigQuiet
namespace Go.Proofs.Ytdleoohhnldlgaa
open Go.RowKit

/-- Behind the call, whatever was there ahead of it is as it was. -/
def Keeps (w w' : World) : Prop := Below w.heap.size w w'

theorem Keeps.below {w w' : World} (h : Keeps w w') : Below w.heap.size w w' := h
theorem Keeps.refl (w : World) : Keeps w w := Below.refl _ _
theorem Keeps.trans {a b c : World} (h : Keeps a b) (k : Keeps b c) : Keeps a c := Below.trans h (Below.mono k h.size)
theorem Keeps.alloc {a w : World} (h : Keeps a w) (o : Obj) : Keeps a (w.alloc o) := Below.alloc h h.size o
theorem Keeps.drew {a w : World} (h : Keeps a w) : Keeps a w.drew := Below.drew h
theorem Keeps.drewN {a w : World} (h : Keeps a w) (n : Nat) : Keeps a (w.drewN n) := ⟨h.os, h.tape, h.output, h.size, h.block⟩
theorem Keeps.setCell {a w : World} (h : Keeps a w) {p : Addr} (hp : a.heap.size ≤ p.block) (u : Value) : Keeps a (w.setCell p u) := Below.setCell h hp u
theorem Keeps.size {w w' : World} (h : Keeps w w') : w.heap.size ≤ w'.heap.size := Below.size h
theorem Keeps.cell {w w' : World} (h : Keeps w w') {p : Addr} (hp : p.block < w.heap.size) : w'.cell? p = w.cell? p := Below.cell h hp
theorem Keeps.frozen {w w' : World} (h : Keeps w w') {p : Addr} (hp : p.block < w.heap.size) : w'.frozen? p = w.frozen? p := Below.frozen h hp
theorem Keeps.block {w w' : World} (h : Keeps w w') {k : Nat} (hk : k < w.heap.size) : w'.heap[k]? = w.heap[k]? := Below.block h k hk
theorem Keeps.grown {a w w' : World} {row : Option Nat} (h : Keeps a w) (hg : w.grownBy w' row) (hr : ∀ k, row = some k → a.heap.size ≤ k) : Keeps a w' := Below.grown h hg h.size hr

theorem kcell {W w1 : World} (hb : Keeps W w1) : (∀ b o, b < W.heap.size → w1.cell? ⟨b, o, none⟩ = W.cell? ⟨b, o, none⟩) ∧ (∀ b o, b < W.heap.size → w1.frozen? ⟨b, o, none⟩ = W.frozen? ⟨b, o, none⟩) :=
  ⟨fun b o h => hb.cell (p := ⟨b, o, none⟩) h, fun b o h => hb.frozen (p := ⟨b, o, none⟩) h⟩

/-! ### A region that draws its order, whose operations keep old memory and yield one value each -/

structure Kept (w0 : World) where
  w : World
  h : Keeps w0 w

instance (w0 : World) : Nonempty (Kept w0) := ⟨⟨w0, Keeps.refl _⟩⟩

@[simp] theorem Kept.cell {w0 : World} (k : Kept w0) (b o : Nat) (hb : b < w0.heap.size) : k.w.cell? ⟨b, o, none⟩ = w0.cell? ⟨b, o, none⟩ := k.h.cell (p := ⟨b, o, none⟩) hb
@[simp] theorem Kept.frozen {w0 : World} (k : Kept w0) (b o : Nat) (hb : b < w0.heap.size) : k.w.frozen? ⟨b, o, none⟩ = w0.frozen? ⟨b, o, none⟩ := k.h.frozen (p := ⟨b, o, none⟩) hb

theorem wp_region_kept {P : Program} {id : Nat} {Q : Exit → Act → World → Prop} {a : Act} {w : World} {l : List Oper} (hm : P.follows .mixedOrders = true) (hB : Region.lexB .any l.toArray = true)
    (h : wpQuiet P l.toArray (fun w' => ∃ k : Kept w, w' = k.w) (fun a' => ∀ w', (∃ k : Kept w, w' = k.w) → Q .normal a' w') l a) : (Code.region id l.toArray true).wp P Q a w :=
  wp_region_quiet (C := fun w' => ∃ k : Kept w, w' = k.w) hm hB ⟨⟨w.drewN 1, (Keeps.refl w).drewN 1⟩, rfl⟩ (by simpa using h)

theorem Kept.call {P : Program} {f : FuncId} {args : Array Value} {w0 : World} {v : Value} (k : Kept w0)
    (h : Calls P f args k.w fun e w' => e = .returned v ∧ Keeps k.w w') : Calls P f args k.w fun e w'' => e = .returned v ∧ ∃ k' : Kept w0, w'' = k'.w :=
  h.mono fun _ w' ⟨he, hk⟩ => ⟨he, ⟨w', k.h.trans hk⟩, rfl⟩

theorem Kept.call_same {P : Program} {f : FuncId} {args : Array Value} {w0 : World} {v : Value} (k : Kept w0)
    (h : Calls P f args k.w fun e w' => e = .returned v ∧ k.w = w') : Calls P f args k.w fun e w'' => e = .returned v ∧ ∃ k' : Kept w0, w'' = k'.w :=
  h.mono fun _ w' ⟨he, hk⟩ => ⟨he, k, hk.symm⟩

/-! ### A slice whose elements are one cell each reads as a list of values -/
def Row (w : World) (v : Value) (l : List Value) : Prop :=
  (∃ a0 cap, v = .slice a0 0 cap ∧ l = [] ∧ cap ≤ maxLen ∧ (a0 = none → cap = 0)) ∨
  ∃ b off cap, v = .slice (some ⟨b, off, none⟩) l.length cap ∧ l.length ≤ cap ∧ cap ≤ maxLen ∧ ∀ i x, l[i]? = some x → w.cell? ⟨b, off + i, none⟩ = some x

theorem lt_of_cell {w : World} {b o : Nat} {x : Value} (h : w.cell? ⟨b, o, none⟩ = some x) : b < w.heap.size := World.block_lt_of_cell? w ⟨b, o, none⟩ h

theorem Row.keeps {w w' : World} {v : Value} {l : List Value} (h : Row w v l) (k : Keeps w w') : Row w' v l := by
  rcases h with h | ⟨b, off, cap, hv, h1, h2, h3⟩
  · exact .inl h
  · exact .inr ⟨b, off, cap, hv, h1, h2, fun i x hx => by
      have := h3 i x hx
      rw [k.cell (p := ⟨b, off + i, none⟩) (lt_of_cell this)]; exact this⟩
theorem Row.drew {w : World} {v : Value} {l : List Value} (h : Row w v l) : Row w.drew v l := h.keeps ((Keeps.refl _).drew)

/-- a byte as a value -/
def u8v (x : UInt8) : Value := .int .u8 x.toNat

theorem cell_alloc_new (w : World) (cs : Array Value) (e : TypeId) (fr : Nat × Nat) (i : Nat) : (w.alloc (.cells cs e fr)).cell? ⟨w.heap.size, i, none⟩ = cs[i]? := by
  show (match (w.heap.push _)[w.heap.size]? with | some (.cells c _ _) => _ | _ => _) = _
  simp

theorem row_alloc {w : World} {b n : Nat} {cs : Array Value} {e : TypeId} {l : List Value} (hb : b = w.heap.size) (hl : cs.toList = l) (hn : n = l.length) (hm : n ≤ maxLen) : Row (w.alloc (.cells cs e)) (.slice (some ⟨b, 0, none⟩) n n) l := by
  subst hb hl hn
  exact .inr ⟨w.heap.size, 0, cs.size, by simp, by simp, by simpa using hm, fun i x hx => by rw [Nat.zero_add, cell_alloc_new]; simpa using hx⟩

end Go.Proofs.Ytdleoohhnldlgaa

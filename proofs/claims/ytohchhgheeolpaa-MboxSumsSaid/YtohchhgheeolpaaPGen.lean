/- Several small texts in one: Base, Own, Mods, Heap, LawKit, Open, Cut, Cells, Drawn, Piece, ArrEq, Mid. -/
import Derived.WalkKit
import Derived.ProofKit
import Derived.WalkLawsBesides
import Derived.WalkSpells
import Derived.Lib.Hide
import Derived.Deep.QuietTactic
import Derived.BigQuiet
import Derived.Laws.AppendOwnNone
import Derived.Lib.AppendStr
import Derived.Laws.Rows
import Derived.Laws.BytesArg
import Derived.Lib.ConvBytes
import Derived.Below
import Derived.ChangeSame
import Derived.Carry
import Derived.JoinedCond
import Derived.OpenShut
import Derived.Lib.SmallJoins
import Derived.Deep.Slices
import Derived.ChangeArms
import Derived.Deep.RegionHeld3
import Derived.ChangeKeysEq
import Derived.Deep.MidRow
/- General facts on worlds, for every program: what a call keeps of old memory. -/
namespace Go.Proofs.Ytohchhgheeolpaa
open Go.RowKit

/-- Behind the call, whatever was there ahead of it is as it was. -/
def Keeps (w w' : World) : Prop := Below w.heap.size w w'

theorem Keeps.below {w w' : World} (h : Keeps w w') : Below w.heap.size w w' := h
theorem Keeps.refl (w : World) : Keeps w w := Below.refl _ _
theorem Keeps.trans {a b c : World} (h : Keeps a b) (k : Keeps b c) : Keeps a c := Below.trans h (Below.mono k h.size)
theorem Keeps.alloc {a w : World} (h : Keeps a w) (o : Obj) : Keeps a (w.alloc o) := Below.alloc h h.size o
theorem Keeps.drew {a w : World} (h : Keeps a w) : Keeps a w.drew := Below.drew h
theorem Keeps.drewN {a w : World} (h : Keeps a w) (n : Nat) : Keeps a (w.drewN n) := ⟨h.os, h.tape, h.output, h.size, h.block⟩
theorem Keeps.setCell {a w : World} (h : Keeps a w) {p : Addr} (hp : a.heap.size ≤ p.block) (u : Value) : Keeps a (w.setCell p u) := Below.setCell h hp u
theorem Keeps.size {w w' : World} (h : Keeps w w') : w.heap.size ≤ w'.heap.size := Below.size h
theorem Keeps.cell {w w' : World} (h : Keeps w w') {p : Addr} (hp : p.block < w.heap.size) : w'.cell? p = w.cell? p := Below.cell h hp
theorem Keeps.frozen {w w' : World} (h : Keeps w w') {p : Addr} (hp : p.block < w.heap.size) : w'.frozen? p = w.frozen? p := Below.frozen h hp
theorem Keeps.block {w w' : World} (h : Keeps w w') {k : Nat} (hk : k < w.heap.size) : w'.heap[k]? = w.heap[k]? := Below.block h k hk
theorem Keeps.grown {a w w' : World} {row : Option Nat} (h : Keeps a w) (hg : w.grownBy w' row) (hr : ∀ k, row = some k → a.heap.size ≤ k) : Keeps a w' := Below.grown h hg h.size hr

theorem kcell {W w1 : World} (hb : Keeps W w1) : (∀ b o, b < W.heap.size → w1.cell? ⟨b, o, none⟩ = W.cell? ⟨b, o, none⟩) ∧ (∀ b o, b < W.heap.size → w1.frozen? ⟨b, o, none⟩ = W.frozen? ⟨b, o, none⟩) :=
  ⟨fun b o h => hb.cell (p := ⟨b, o, none⟩) h, fun b o h => hb.frozen (p := ⟨b, o, none⟩) h⟩

/-! ### A region that draws its order, whose operations keep old memory and yield one value each -/

structure Kept (w0 : World) where
  w : World
  h : Keeps w0 w

instance (w0 : World) : Nonempty (Kept w0) := ⟨⟨w0, Keeps.refl _⟩⟩

@[simp] theorem Kept.cell {w0 : World} (k : Kept w0) (b o : Nat) (hb : b < w0.heap.size) : k.w.cell? ⟨b, o, none⟩ = w0.cell? ⟨b, o, none⟩ := k.h.cell (p := ⟨b, o, none⟩) hb
@[simp] theorem Kept.frozen {w0 : World} (k : Kept w0) (b o : Nat) (hb : b < w0.heap.size) : k.w.frozen? ⟨b, o, none⟩ = w0.frozen? ⟨b, o, none⟩ := k.h.frozen (p := ⟨b, o, none⟩) hb

theorem wp_region_kept {P : Program} {id : Nat} {Q : Exit → Act → World → Prop} {a : Act} {w : World} {l : List Oper} (hm : P.follows .mixedOrders = true) (hB : Region.lexB .any l.toArray = true)
    (h : wpQuiet P l.toArray (fun w' => ∃ k : Kept w, w' = k.w) (fun a' => ∀ w', (∃ k : Kept w, w' = k.w) → Q .normal a' w') l a) : (Code.region id l.toArray true).wp P Q a w :=
  wp_region_quiet (C := fun w' => ∃ k : Kept w, w' = k.w) hm hB ⟨⟨w.drewN 1, (Keeps.refl w).drewN 1⟩, rfl⟩ (by simpa using h)

theorem Kept.call {P : Program} {f : FuncId} {args : Array Value} {w0 : World} {v : Value} (k : Kept w0)
    (h : Calls P f args k.w fun e w' => e = .returned v ∧ Keeps k.w w') : Calls P f args k.w fun e w'' => e = .returned v ∧ ∃ k' : Kept w0, w'' = k'.w :=
  h.mono fun _ w' ⟨he, hk⟩ => ⟨he, ⟨w', k.h.trans hk⟩, rfl⟩

theorem Kept.call_same {P : Program} {f : FuncId} {args : Array Value} {w0 : World} {v : Value} (k : Kept w0)
    (h : Calls P f args k.w fun e w' => e = .returned v ∧ k.w = w') : Calls P f args k.w fun e w'' => e = .returned v ∧ ∃ k' : Kept w0, w'' = k'.w :=
  h.mono fun _ w' ⟨he, hk⟩ => ⟨he, k, hk.symm⟩

/-! ### A slice whose elements are one cell each reads as a list of values -/
def Row (w : World) (v : Value) (l : List Value) : Prop :=
  (∃ a0 cap, v = .slice a0 0 cap ∧ l = [] ∧ cap ≤ maxLen ∧ (a0 = none → cap = 0)) ∨
  ∃ b off cap, v = .slice (some ⟨b, off, none⟩) l.length cap ∧ l.length ≤ cap ∧ cap ≤ maxLen ∧ ∀ i x, l[i]? = some x → w.cell? ⟨b, off + i, none⟩ = some x

theorem lt_of_cell {w : World} {b o : Nat} {x : Value} (h : w.cell? ⟨b, o, none⟩ = some x) : b < w.heap.size := World.block_lt_of_cell? w ⟨b, o, none⟩ h

theorem Row.keeps {w w' : World} {v : Value} {l : List Value} (h : Row w v l) (k : Keeps w w') : Row w' v l := by
  rcases h with h | ⟨b, off, cap, hv, h1, h2, h3⟩
  · exact .inl h
  · exact .inr ⟨b, off, cap, hv, h1, h2, fun i x hx => by
      have := h3 i x hx
      rw [k.cell (p := ⟨b, off + i, none⟩) (lt_of_cell this)]; exact this⟩
theorem Row.drew {w : World} {v : Value} {l : List Value} (h : Row w v l) : Row w.drew v l := h.keeps ((Keeps.refl _).drew)

/-- a byte as a value -/
def u8v (x : UInt8) : Value := .int .u8 x.toNat

theorem cell_alloc_new (w : World) (cs : Array Value) (e : TypeId) (fr : Nat × Nat) (i : Nat) : (w.alloc (.cells cs e fr)).cell? ⟨w.heap.size, i, none⟩ = cs[i]? := by
  show (match (w.heap.push _)[w.heap.size]? with | some (.cells c _ _) => _ | _ => _) = _
  simp

theorem row_alloc {w : World} {b n : Nat} {cs : Array Value} {e : TypeId} {l : List Value} (hb : b = w.heap.size) (hl : cs.toList = l) (hn : n = l.length) (hm : n ≤ maxLen) : Row (w.alloc (.cells cs e)) (.slice (some ⟨b, 0, none⟩) n n) l := by
  subst hb hl hn
  exact .inr ⟨w.heap.size, 0, cs.size, by simp, by simp, by simpa using hm, fun i x hx => by rw [Nat.zero_add, cell_alloc_new]; simpa using hx⟩

end Go.Proofs.Ytohchhgheeolpaa

/- Slices that a call itself makes by append: what they own, and one law for append. For every program. -/
namespace Go.Proofs.Ytohchhgheeolpaa
open Go.RowKit

theorem Row.form {w : World} {v : Value} {l : List Value} (h : Row w v l) : ∃ p cap, v = .slice p l.length cap ∧ l.length ≤ cap ∧ cap ≤ maxLen := by
  rcases h with ⟨a0, cap, rfl, rfl, h, _⟩ | ⟨b, off, cap, rfl, h1, h2, _⟩
  · exact ⟨_, _, rfl, Nat.zero_le _, h⟩
  · exact ⟨_, _, rfl, h1, h2⟩

/-- v is nil, or a slice of the call's own (its block is from base on), with one-cell elements l. -/
def Own (w : World) (base : Nat) (e : TypeId) (v : Value) (l : List Value) : Prop := w.ownsRow base e 1 v l.length l

theorem Own.nil (w : World) (base : Nat) (e : TypeId) : Own w base e (.slice none 0 0) [] := World.ownsRow_nil w base e 1

theorem Own.row {w : World} {base : Nat} {e : TypeId} {v : Value} {l : List Value} (h : Own w base e v l) : Row w v l := by
  have h0 := h
  rcases h.2 with ⟨rfl, h9⟩ | ⟨g, cap, cur, rfl, h1, h2, h3, h4, h5, h6⟩
  · exact .inl ⟨none, 0, rfl, List.eq_nil_of_length_eq_zero h9, Nat.zero_le _, fun _ => rfl⟩
  · refine .inr ⟨g, 0, cap, rfl, h3, h4, fun i x hx => ?_⟩
    have := World.ownsRow.cells (h := h0) (g := g) rfl i x hx
    rw [Go.WideShapes.add_plain] at this
    exact this

theorem Own.kept {w w' : World} {base : Nat} {e : TypeId} {v : Value} {l : List Value} {row : Option Nat} (h : Own w base e v l) (hg : w.grownBy w' row) (hne : v.ownBlock = none ∨ v.ownBlock ≠ row) : Own w' base e v l := World.ownsRow.kept h hg hne

theorem Own.keeps {w w' : World} {base : Nat} {e : TypeId} {v : Value} {l : List Value} (h : Own w base e v l) (k : Keeps w w') : Own w' base e v l := by
  refine ⟨h.1, ?_⟩
  rcases h.2 with hn | ⟨g, cap, cur, rfl, hb, hgg, rest⟩
  · exact .inl hn
  · refine .inr ⟨g, cap, cur, rfl, hb, ?_, rest⟩
    rw [k.block (Array.getElem?_eq_some_iff.1 hgg).1]
    exact hgg

theorem Own.alloc {w : World} {base : Nat} {e : TypeId} {v : Value} {l : List Value} (h : Own w base e v l) (o : Obj) : Own (w.alloc o) base e v l := h.keeps ((Keeps.refl _).alloc _)
theorem Own.drew {w : World} {base : Nat} {e : TypeId} {v : Value} {l : List Value} (h : Own w base e v l) : Own w.drew base e v l := h.keeps ((Keeps.refl _).drew)
theorem Own.setCell {w : World} {base : Nat} {e : TypeId} {v : Value} {l : List Value} (h : Own w base e v l) {a : Addr} (u : Value) (ha : v.ownBlock ≠ some a.block) : Own (w.setCell a u) base e v l := by
  refine ⟨h.1, ?_⟩
  rcases h.2 with hn | ⟨g, cap, cur, rfl, hb, hgg, rest⟩
  · exact .inl hn
  · refine .inr ⟨g, cap, cur, rfl, hb, ?_, rest⟩
    rw [Below.heap_setCell]
    · exact hgg
    · intro e; exact ha (by simp [Value.ownBlock, e])

/-- its own block lies from base on -/
theorem Own.base {w : World} {base : Nat} {e : TypeId} {v : Value} {l : List Value} (h : Own w base e v l) : ∀ k, v.ownBlock = some k → base ≤ k := by
  intro k hk
  rcases h.2 with ⟨rfl, _⟩ | ⟨g, cap, cur, rfl, hb, _⟩
  · simp [Value.ownBlock] at hk
  · simp [Value.ownBlock] at hk
    omega

/-- what append must know of a slice type t with one-cell elements e of so many bytes -/
structure ElemOk (P : Program) (t e : TypeId) (bytes : Nat) : Prop where
  ht : P.underlying t = some (.slice e)
  hi : ∃ i z, P.info? e = some i ∧ i.zero = some z ∧ i.size = 1 ∧ i.bytes = bytes ∧ z.cells.size = 1

theorem elemOk {P : Program} {t e : TypeId} {bytes : Nat} {z : Value} (ht : P.underlying t = some (.slice e)) (hi : (P.info? e).map (fun i => (i.zero, i.size, i.bytes)) = some (some z, 1, bytes)) (hz : z.cells.size = 1) : ElemOk P t e bytes := by
  refine ⟨ht, ?_⟩
  cases h : P.info? e with
  | none => rw [h] at hi; cases hi
  | some i =>
    rw [h] at hi
    simp only [Option.map_some, Option.some.injEq, Prod.mk.injEq] at hi
    exact ⟨i, z, rfl, hi.1, hi.2.1, hi.2.2, hz⟩

/-- append(s, x...): s nil or the call's own; x any slice that reads as news. -/
theorem wpList_app {P : Program} {w : World} {ops : Array Oper} {rest : List Oper} {o : Oper} {a : Act} {Q : Exit → Act → World → Prop} {t e : TypeId} {bytes base : Nat} (he : ElemOk P t e bytes) (hgd : o.guard = none) (s x : Operand)
    (ho : o.op = .call { callee := .builtin .append, args := #[s, x], argTypes := #[t, t] })
    (v xv : Value) (xs news : List Value) (hs : a.eval s = v) (hx : a.eval x = xv) (hown : Own w base e v xs) (hrow : Row w xv news) (h1 : ∀ u ∈ news, u.oneCell' = true)
    (hb : (xs.length + news.length) * bytes ≤ 70368744177664) (hbytes : 0 < bytes) (hbase : base ≤ w.heap.size)
    (h : ∀ v' w', Own w' base e v' (xs ++ news) → w.grownBy w' v.ownBlock → wpList P ops Q rest (a.put o.dst v') w') : wpList P ops Q (o :: rest) a w := by
  obtain ⟨i, z, hi, hz, hsz, hby, hzs⟩ := he.hi
  have h63 : xs.length + news.length ≤ 70368744177664 := Nat.le_trans (Nat.le_mul_of_pos_right _ hbytes) hb
  have hml : xs.length + news.length ≤ maxLen := by unfold maxLen; omega
  have go : ∀ (ad : Addr) (c : Nat), xv = .slice (some ad) news.length c → (∀ j u, news[j]? = some u → w.cell? (ad.add j) = some u) → wpList P ops Q (o :: rest) a w := by
    intro ad c hxv hn
    refine wpList_append_own w hgd s x t ho base e i z 1 bytes he.ht hi hz hsz hby hzs (by omega) v xs.length xs hs hown ad news.length c news (by rw [hx, hxv]) (by simp) hn h1 hml (by omega) hbase ?_
    intro v' w' h2 h3 _
    refine h v' w' ?_ h3
    unfold Own
    rw [List.length_append]
    exact h2
  rcases hrow with ⟨a0, cap, rfl, rfl, hc, h0⟩ | ⟨b, off, cap, rfl, h2, h3, h4⟩
  · cases a0 with
    | none =>
      obtain rfl := h0 rfl
      refine wpList_append_own_none hgd s x t ho base e i 1 he.ht hi v xs.length xs hs hown hx ?_
      have := h v w (by simpa using hown) ⟨rfl, rfl, rfl, Nat.le_refl _, fun _ _ _ => rfl⟩
      exact this
    | some ad => exact go ad cap rfl (by simp)
  · refine go ⟨b, off, none⟩ cap rfl fun j u hu => ?_
    rw [Go.WideShapes.add_plain]
    exact h4 j u hu

theorem oneCell_map_int (k : IntKind) (l : List Int) : ∀ u ∈ l.map (Value.int k), u.oneCell' = true := by
  intro u hu
  obtain ⟨x, _, rfl⟩ := List.mem_map.1 hu
  rfl
theorem oneCell_map_u8 (l : List UInt8) : ∀ u ∈ l.map u8v, u.oneCell' = true := by
  intro u hu
  obtain ⟨x, _, rfl⟩ := List.mem_map.1 hu
  rfl
/-- the one new cell of 'append(s, x)' -/
theorem row_one {w : World} {b : Nat} {x : Value} {e : TypeId} (hb : b = w.heap.size) : Row (w.alloc (.cells #[x] e)) (.slice (some ⟨b, 0, none⟩) 1 1) [x] := row_alloc hb rfl rfl (by decide)
theorem row_mark {w : World} {b n : Nat} {cs : Array Value} {e : TypeId} {fr : Nat × Nat} {l : List Value} (hb : b = w.heap.size) (hl : cs.toList = l) (hn : n = l.length) (hm : n ≤ maxLen) : Row (w.alloc (.cells cs e fr)) (.slice (some ⟨b, 0, none⟩) n n) l := by
  subst hb hl hn
  exact .inr ⟨w.heap.size, 0, cs.size, by simp, by simp, by simpa using hm, fun i x hx => by rw [Nat.zero_add, cell_alloc_new]; simpa using hx⟩
theorem row_nil (w : World) : Row w (.slice none 0 0) [] := .inl ⟨none, 0, rfl, rfl, Nat.zero_le _, fun _ => rfl⟩
theorem Own.empty {w : World} {b : Nat} {e : TypeId} (base : Nat) (hb : b = w.heap.size) (h : base ≤ w.heap.size) : Own (w.alloc (.cells #[] e)) base e (.slice (some ⟨b, 0, none⟩) 0 0) [] := by
  subst hb
  refine ⟨by simp, .inr ⟨w.heap.size, 0, #[], rfl, h, ?_, Nat.le_refl _, Nat.zero_le _, by simp, by simp⟩⟩
  show (w.heap.push _)[w.heap.size]? = _
  simp
theorem Own.form {w : World} {base : Nat} {e : TypeId} {v : Value} {l : List Value} (h : Own w base e v l) (hl : 0 < l.length) : ∃ g cap, v = .slice (some ⟨g, 0, none⟩) l.length cap ∧ base ≤ g ∧ l.length ≤ cap ∧ cap ≤ maxLen := by
  rcases h.2 with ⟨_, h0⟩ | ⟨g, cap, _, hv, hb, _, h1, h2, _⟩
  · omega
  · exact ⟨g, cap, hv, hb, h1, h2⟩
theorem Own.cellAt {w : World} {base g cap : Nat} {e : TypeId} {l : List Value} {n : Nat} (h : Own w base e (.slice (some ⟨g, 0, none⟩) n cap) l) (j : Nat) (x : Value) (hj : l[j]? = some x) : w.cell? ⟨g, j, none⟩ = some x := by
  have hn : n = l.length := by
    rcases h.2 with ⟨h', _⟩ | ⟨g', cap', cur, h', _⟩
    · simp at h'
    · simp only [Value.slice.injEq] at h'
      exact h'.2.1
  subst hn
  rw [World.ownsRow.cellAt h j (by have := (List.getElem?_eq_some_iff.1 hj).1; omega)]
  exact hj
theorem Own.frozenAt {w : World} {base g cap : Nat} {e : TypeId} {l : List Value} (h : Own w base e (.slice (some ⟨g, 0, none⟩) l.length cap) l) (j : Nat) : w.frozen? ⟨g, j, none⟩ = false := World.ownsRow.frozenAt h j
theorem Own.stored {w : World} {base g cap : Nat} {e : TypeId} {l : List Value} (h : Own w base e (.slice (some ⟨g, 0, none⟩) l.length cap) l) (j : Nat) (u : Value) : Own (w.setCell ⟨g, j, none⟩ u) base e (.slice (some ⟨g, 0, none⟩) l.length cap) (l.set j u) := by
  have := (World.ownsRow.stored h j u).1
  unfold Own
  rw [List.length_set]
  exact this
theorem addr0 (g j : Nat) : (⟨g, 0 + j, none⟩ : Addr) = ⟨g, j, none⟩ := by rw [Nat.zero_add]
end Go.Proofs.Ytohchhgheeolpaa

/- What a call changes of old memory: only blocks of a given set. For every program. -/
namespace Go.Proofs.Ytohchhgheeolpaa
open Go.RowKit

structure Mods (S : Nat → Prop) (w w' : World) : Prop where
  os : w'.os = w.os
  tape : w'.tape = w.tape
  output : w'.output = w.output
  size : w.heap.size ≤ w'.heap.size
  block : ∀ k, k < w.heap.size → ¬ S k → w'.heap[k]? = w.heap[k]?

section
variable {S T : Nat → Prop} {a b c w w' W : World}
theorem Mods.refl (S : Nat → Prop) (w : World) : Mods S w w := ⟨rfl, rfl, rfl, Nat.le_refl _, fun _ _ _ => rfl⟩
theorem Mods.of_keeps (h : Keeps w w') : Mods S w w' := ⟨h.os, h.tape, h.output, h.size, fun k hk _ => h.block hk⟩
theorem Mods.mono (h : Mods S w w') (hS : ∀ k, S k → T k) : Mods T w w' := ⟨h.os, h.tape, h.output, h.size, fun k hk hn => h.block k hk fun hs => hn (hS k hs)⟩
theorem Mods.trans (h : Mods S a b) (k : Mods T b c) (hT : ∀ x, T x → x < a.heap.size → S x) : Mods S a c :=
  ⟨k.os.trans h.os, k.tape.trans h.tape, k.output.trans h.output, Nat.le_trans h.size k.size, fun x hx hn =>
    (k.block x (Nat.lt_of_lt_of_le hx h.size) fun ht => hn (hT x ht hx)).trans (h.block x hx hn)⟩
theorem Mods.keeps (h : Mods S w w') (hK : Keeps W w) (hS : ∀ x, S x → W.heap.size ≤ x) : Keeps W w' :=
  ⟨h.os.trans hK.os, h.tape.trans hK.tape, h.output.trans hK.output, Nat.le_trans hK.size h.size, fun x hx =>
    (h.block x (Nat.lt_of_lt_of_le hx hK.size) fun hs => by have := hS x hs; omega).trans (hK.block hx)⟩
theorem Mods.then (h : Mods S a b) (k : Keeps b c) : Mods S a c := h.trans (T := fun _ => False) (Mods.of_keeps k) (fun _ h => h.elim)
theorem Mods.alloc (h : Mods S a w) (o : Obj) : Mods S a (w.alloc o) := h.then ((Keeps.refl _).alloc o)
theorem Mods.drew (h : Mods S a w) : Mods S a w.drew := ⟨h.os, h.tape, h.output, h.size, h.block⟩
theorem Mods.setCell (h : Mods S a w) {p : Addr} (hp : p.block < a.heap.size → S p.block) (u : Value) : Mods S a (w.setCell p u) :=
  ⟨h.os, h.tape, h.output, by simpa [World.setCell] using h.size, fun x hx hn => by
    rw [Below.heap_setCell _ _ _ _ (fun e => hn (by rw [e]; exact hp (e ▸ hx)))]
    exact h.block x hx hn⟩
theorem Mods.grown {row : Option Nat} (h : Mods S a w) (hg : w.grownBy w' row) (hr : ∀ k, row = some k → k < a.heap.size → S k) : Mods S a w' :=
  ⟨hg.os.trans h.os, hg.tape.trans h.tape, hg.output.trans h.output, Nat.le_trans h.size hg.size, fun x hx hn =>
    (hg.block x (Nat.lt_of_lt_of_le hx h.size) fun e => hn (hr x e.symm hx)).trans (h.block x hx hn)⟩
theorem Mods.heap (h : Mods S w w') {k : Nat} {o : Obj} (hk : w.heap[k]? = some o) (hn : ¬ S k) : w'.heap[k]? = some o := by
  rw [h.block k (Array.getElem?_eq_some_iff.1 hk).1 hn]; exact hk
theorem Mods.cell (h : Mods S w w') {p : Addr} {v : Value} (hp : w.cell? p = some v) (hn : ¬ S p.block) : w'.cell? p = some v := by
  rw [World.cell?_of_block (h.block p.block (World.block_lt_of_cell? w p hp) hn)]; exact hp

theorem Own.mods {base : Nat} {e : TypeId} {v : Value} {l : List Value} (h : Own w base e v l) (k : Mods S w w') (hn : ∀ x, v.ownBlock = some x → ¬ S x) : Own w' base e v l := by
  refine ⟨h.1, ?_⟩
  rcases h.2 with h0 | ⟨g, cap, cur, rfl, hb, hgg, rest⟩
  · exact .inl h0
  · exact .inr ⟨g, cap, cur, rfl, hb, k.heap hgg (hn g rfl), rest⟩
theorem Own.block_lt {base : Nat} {e : TypeId} {v : Value} {l : List Value} (h : Own w base e v l) : ∀ x, v.ownBlock = some x → x < w.heap.size := by
  intro x hx
  rcases h.2 with ⟨rfl, _⟩ | ⟨g, cap, cur, rfl, hb, hgg, rest⟩
  · simp [Value.ownBlock] at hx
  · simp [Value.ownBlock] at hx
    subst hx
    exact (Array.getElem?_eq_some_iff.1 hgg).1
theorem Own.lower {base base' : Nat} {e : TypeId} {v : Value} {l : List Value} (h : Own w base e v l) (hb : base' ≤ base) : Own w base' e v l :=
  ⟨h.1, h.2.elim Or.inl (fun ⟨g, cap, cur, hv, hg, r⟩ => Or.inr ⟨g, cap, cur, hv, Nat.le_trans hb hg, r⟩)⟩
theorem Own.length_lt {base : Nat} {e : TypeId} {v : Value} {l : List Value} (h : Own w base e v l) : v = .slice none 0 0 ∧ l = [] ∨ ∃ g cap, v = .slice (some ⟨g, 0, none⟩) l.length cap ∧ base ≤ g ∧ l.length ≤ cap ∧ cap ≤ maxLen := by
  rcases h.2 with ⟨h, h0⟩ | ⟨g, cap, _, hv, hb, _, h1, h2, _⟩
  · exact .inl ⟨h, List.eq_nil_of_length_eq_zero h0⟩
  · exact .inr ⟨g, cap, hv, hb, h1, h2⟩

/-- behind an append the block is the old one or a new one -/
theorem grown_ownBlock {base : Nat} {e : TypeId} {v' : Value} {l : List Value} {row : Option Nat} (_hg : w.grownBy w' row) (h : Own w' base e v' l) (x : Nat) (hx : v'.ownBlock = some x) : x < w'.heap.size := h.block_lt x hx
end

/-! ### append, with what becomes of the block: elements of any size -/
structure ElemOkS (P : Program) (t e : TypeId) (size bytes : Nat) : Prop where
  ht : P.underlying t = some (.slice e)
  hi : ∃ i z, P.info? e = some i ∧ i.zero = some z ∧ i.size = size ∧ i.bytes = bytes ∧ z.cells.size = size

theorem elemOkS {P : Program} {t e : TypeId} {size bytes : Nat} {z : Value} (ht : P.underlying t = some (.slice e)) (hi : (P.info? e).map (fun i => (i.zero, i.size, i.bytes)) = some (some z, size, bytes)) (hz : z.cells.size = size) : ElemOkS P t e size bytes := by
  refine ⟨ht, ?_⟩
  cases h : P.info? e with
  | none => rw [h] at hi; cases hi
  | some i =>
    rw [h] at hi
    simp only [Option.map_some, Option.some.injEq, Prod.mk.injEq] at hi
    exact ⟨i, z, rfl, hi.1, hi.2.1, hi.2.2, hz⟩
theorem ElemOk.s {P : Program} {t e : TypeId} {bytes : Nat} (h : ElemOk P t e bytes) : ElemOkS P t e 1 bytes := ⟨h.ht, h.hi⟩

/-- a slice of elements of so many cells each reads as these cells -/
def RowS (w : World) (size : Nat) (v : Value) (n : Nat) (xs : List Value) : Prop :=
  xs.length = n * size ∧
  ((∃ a0 cap, v = .slice a0 0 cap ∧ n = 0 ∧ cap ≤ maxLen ∧ (a0 = none → cap = 0)) ∨
   ∃ b off cap, v = .slice (some ⟨b, off, none⟩) n cap ∧ n ≤ cap ∧ cap ≤ maxLen ∧ ∀ i x, xs[i]? = some x → w.cell? ⟨b, off + i, none⟩ = some x)
theorem Row.s {w : World} {v : Value} {l : List Value} (h : Row w v l) : RowS w 1 v l.length l := by
  refine ⟨by simp, ?_⟩
  rcases h with ⟨a0, cap, h1, h2, h3, h4⟩ | h
  · exact .inl ⟨a0, cap, h1, by rw [h2]; rfl, h3, h4⟩
  · exact .inr h

theorem run_app {P : Program} (w : World) {t e : TypeId} {size bytes base : Nat} (ty : TypeId) (he : ElemOkS P t e size bytes) (hsz : 0 < size) (v : Value) (n : Nat) (xs : List Value) (hown : w.ownsRow base e size v n xs)
    (a : Addr) (m c : Nat) (news : List Value) (hl : news.length = m * size) (hnews : ∀ j u, news[j]? = some u → w.cell? (a.add j) = some u) (h1 : ∀ u ∈ news, u.oneCell' = true)
    (h63 : n + m ≤ maxLen) (hbytes : (n + m) * bytes ≤ 140737488355328) (hbase : base ≤ w.heap.size) :
    ∃ v' w', (Builtin.append_ #[t, t] ty #[v, .slice (some a) m c]).run P w = .ok v' w' ∧ w'.ownsRow base e size v' (n + m) (xs ++ news) ∧ w.grownBy w' v.ownBlock ∧
      (∀ x, v'.ownBlock = some x → v.ownBlock = some x ∨ w.heap.size ≤ x) := by
  obtain ⟨i, z, hi, hz, hs, hby, hzs⟩ := he.hi
  obtain ⟨v', w', hr, ho, hg, hnil⟩ := run_append_own w base t ty e i z size bytes he.ht hi hz hs hby hzs hsz v n xs hown a m c news hl hnews h1 h63 hbytes hbase
  refine ⟨v', w', hr, ho, hg, ?_⟩
  rcases hown.2 with ⟨rfl, rfl⟩ | ⟨g, cap, cur, rfl, hbg, hgg, hnc, hcm, hcs, htake⟩
  · have hx : xs = [] := List.eq_nil_of_length_eq_zero (by simpa using hown.1)
    subst hx
    obtain ⟨v2, w2, hr2, ho2, _, _⟩ := run_append_own w w.heap.size t ty e i z size bytes he.ht hi hz hs hby hzs hsz (.slice none 0 0) 0 [] (World.ownsRow_nil w _ e size) a m c news hl hnews h1 h63 hbytes (Nat.le_refl _)
    rw [hr] at hr2
    simp only [Result.ok.injEq] at hr2
    obtain ⟨rfl, rfl⟩ := hr2
    intro x hx
    right
    rcases ho2.2 with ⟨rfl, _⟩ | ⟨g, _, _, rfl, hb, _⟩
    · simp [Value.ownBlock] at hx
    · simp [Value.ownBlock] at hx; omega
  · subst hs
    by_cases hroom : n + m ≤ cap
    · have hr2 := run_append_room (P := P) w t ty e i he.ht hi g n cap cur hgg a m c news hl hnews h1 hroom (by rw [hl, hcs, ← Nat.add_mul]; exact Nat.mul_le_mul_right _ hroom)
      rw [hr] at hr2
      simp only [Result.ok.injEq] at hr2
      obtain ⟨rfl, _⟩ := hr2
      intro x hx
      left
      simpa [Value.ownBlock] using hx
    · have holds : ∀ j u, xs[j]? = some u → w.cell? ((⟨g, 0, none⟩ : Addr).add j) = some u := World.ownsRow.cells (h := hown) (g := g) rfl
      have hr2 := run_append_grow (P := P) w t ty e i z he.ht hi hz ⟨g, 0, none⟩ n cap xs hown.1 holds a m c news hl hnews (by omega) (by unfold maxLen at h63; omega) (growslice_fits (by omega) (by rw [hby]; exact hbytes))
      rw [hr] at hr2
      simp only [Result.ok.injEq] at hr2
      obtain ⟨rfl, _⟩ := hr2
      intro x hx
      right
      simp [Value.ownBlock] at hx
      omega

/-- append(s, x...): s nil or the call's own, elements of any size; x any slice that reads as news. -/
theorem wpList_apps {P : Program} {w : World} {ops : Array Oper} {rest : List Oper} {o : Oper} {a : Act} {Q : Exit → Act → World → Prop} {t e : TypeId} {size bytes base : Nat} (he : ElemOkS P t e size bytes) (hsz : 0 < size) (hgd : o.guard = none) (s x : Operand)
    (ho : o.op = .call { callee := .builtin .append, args := #[s, x], argTypes := #[t, t] })
    (v xv : Value) (n m : Nat) (xs news : List Value) (hs : a.eval s = v) (hx : a.eval x = xv) (hown : w.ownsRow base e size v n xs) (hrow : RowS w size xv m news) (h1 : ∀ u ∈ news, u.oneCell' = true)
    (hb : (n + m) * bytes ≤ 70368744177664) (hbytes : 0 < bytes) (hbase : base ≤ w.heap.size)
    (h : ∀ v' w', w'.ownsRow base e size v' (n + m) (xs ++ news) → w.grownBy w' v.ownBlock → (∀ x, v'.ownBlock = some x → v.ownBlock = some x ∨ w.heap.size ≤ x) → wpList P ops Q rest (a.put o.dst v') w') : wpList P ops Q (o :: rest) a w := by
  have h63 : n + m ≤ 70368744177664 := Nat.le_trans (Nat.le_mul_of_pos_right _ hbytes) hb
  have hml : n + m ≤ maxLen := by unfold maxLen; omega
  have go : ∀ (ad : Addr) (c : Nat), xv = .slice (some ad) m c → (∀ j u, news[j]? = some u → w.cell? (ad.add j) = some u) → wpList P ops Q (o :: rest) a w := by
    intro ad c hxv hn
    obtain ⟨v', w', hr, h2, h3, h4⟩ := run_app (P := P) w o.type he hsz v n xs hown ad m c news hrow.1 hn h1 hml (by omega) hbase
    refine wpList_plain hgd fun K hK => ?_
    have hx' : a.eval x = .slice (some ad) m c := by rw [hx, hxv]
    unfold Oper.wp execOp
    simp only [ho, resolve, invoke, builtin, Sem.run_bind, Sem.run_pure, Result.andThen_ok, List.map_toArray, List.map_cons, List.map_nil, hs, hx', hr]
    exact hK _ _ (h v' w' h2 h3 h4)
  rcases hrow.2 with ⟨a0, cap, rfl, rfl, hc, h0⟩ | ⟨b, off, cap, rfl, h2, h3, h4⟩
  · have hnews : news = [] := List.eq_nil_of_length_eq_zero (by simpa using hrow.1)
    cases a0 with
    | none =>
      obtain rfl := h0 rfl
      obtain ⟨i, z, hi, hz, hs', hby, hzs⟩ := he.hi
      refine wpList_append_own_none hgd s x t ho base e i size he.ht hi v n xs hs hown hx ?_
      subst hnews
      exact h v w (by simpa using hown) ⟨rfl, rfl, rfl, Nat.le_refl _, fun _ _ _ => rfl⟩ (fun x hx => .inl hx)
    | some ad => exact go ad cap rfl (by subst hnews; simp)
  · refine go ⟨b, off, none⟩ cap rfl fun j u hu => ?_
    rw [Go.WideShapes.add_plain]
    exact h4 j u hu
end Go.Proofs.Ytohchhgheeolpaa

/- Blocks that are known whole; append, with where the row lies behind it; strings of bytes. For every program. -/
namespace Go.Proofs.Ytohchhgheeolpaa
open Go.RowKit

/-- block g is these cells of type t, and none is frozen -/
def Blk (w : World) (g : Nat) (t : TypeId) (cs : Array Value) : Prop := w.heap[g]? = some (.cells cs t (0, 0))
section
variable {w w' : World} {g : Nat} {t : TypeId} {cs : Array Value}
theorem Blk.lt (h : Blk w g t cs) : g < w.heap.size := (Array.getElem?_eq_some_iff.1 h).1
theorem Blk.cell (h : Blk w g t cs) (i : Nat) : w.cell? ⟨g, i, none⟩ = cs[i]? := cell_of_row w g i cs t (0, 0) h
theorem Blk.frozen (h : Blk w g t cs) (i : Nat) : w.frozen? ⟨g, i, none⟩ = false := by
  unfold Blk at h
  simp [World.frozen?, h]
theorem Blk.new (w : World) (t : TypeId) (cs : Array Value) {b : Nat} (hb : b = w.heap.size) : Blk (w.alloc (.cells cs t)) b t cs := by
  subst hb
  show (w.heap.push _)[w.heap.size]? = _
  simp
theorem Blk.keeps (h : Blk w g t cs) (k : Keeps w w') : Blk w' g t cs := (k.block h.lt).trans h
theorem Blk.drew (h : Blk w g t cs) : Blk w.drew g t cs := h
theorem Blk.drewN (h : Blk w g t cs) (n : Nat) : Blk (w.drewN n) g t cs := h
theorem Blk.alloc (h : Blk w g t cs) (o : Obj) : Blk (w.alloc o) g t cs := h.keeps ((Keeps.refl _).alloc o)
theorem Blk.set_ (h : Blk w g t cs) (i : Nat) (u : Value) : Blk (w.setCell ⟨g, i, none⟩ u) g t (cs.setIfInBounds i u) := by
  unfold Blk at h ⊢
  simp [World.setCell, Array.getElem?_modify, h]
theorem Blk.far (h : Blk w g t cs) {p : Addr} (hp : g ≠ p.block) (u : Value) : Blk (w.setCell p u) g t cs := (Below.heap_setCell w p u g hp).trans h
theorem Blk.grown {row : Option Nat} (h : Blk w g t cs) (hb : w.grownBy w' row) (hg : row ≠ some g) : Blk w' g t cs := (hb.block g h.lt (fun e => hg e.symm)).trans h
theorem Blk.mods {S : Nat → Prop} (h : Blk w g t cs) (k : Mods S w w') (hn : ¬ S g) : Blk w' g t cs := k.heap h hn
theorem Own.blk_ne {base : Nat} {e : TypeId} {v : Value} {l : List Value} (h : Own w base e v l) (hg : Blk w g t cs) (hne : e ≠ t) : v.ownBlock ≠ some g := by
  rcases h.2 with ⟨rfl, _⟩ | ⟨g', cap, cur, rfl, _, hh, _⟩
  · simp [Value.ownBlock]
  · intro he
    have : g' = g := by simpa [Value.ownBlock] using he
    subst this
    unfold Blk at hg
    rw [hg] at hh
    simp only [Option.some.injEq, Obj.cells.injEq] at hh
    exact hne hh.2.1.symm
end

/-- v' lies where v lay, or in a block that is new in w -/
def Fresh (w : World) (v v' : Value) : Prop := ∀ x, v'.ownBlock = some x → v.ownBlock = some x ∨ w.heap.size ≤ x
theorem Fresh.refl (w : World) (v : Value) : Fresh w v v := fun _ h => .inl h
theorem Fresh.trans {w w' : World} {a b c : Value} (h : Fresh w a b) (k : Fresh w' b c) (hs : w.heap.size ≤ w'.heap.size) : Fresh w a c := fun x hx => by
  rcases k x hx with h1 | h1
  · exact h x h1
  · exact .inr (Nat.le_trans hs h1)
theorem Fresh.back {w w' : World} {a b : Value} (k : Fresh w' a b) (hs : w.heap.size ≤ w'.heap.size) : Fresh w a b := fun x hx => (k x hx).imp id (Nat.le_trans hs)

/-- append(s, x...), one-cell elements, with where the row lies -/
theorem wpList_app1 {P : Program} {w : World} {ops : Array Oper} {rest : List Oper} {o : Oper} {a : Act} {Q : Exit → Act → World → Prop} {t e : TypeId} {bytes base : Nat} (he : ElemOk P t e bytes) (hgd : o.guard = none) (s x : Operand)
    (ho : o.op = .call { callee := .builtin .append, args := #[s, x], argTypes := #[t, t] })
    (v xv : Value) (xs news : List Value) (hs : a.eval s = v) (hx : a.eval x = xv) (hown : Own w base e v xs) (hrow : Row w xv news) (h1 : ∀ u ∈ news, u.oneCell' = true)
    (hb : (xs.length + news.length) * bytes ≤ 70368744177664) (hbytes : 0 < bytes) (hbase : base ≤ w.heap.size)
    (h : ∀ v' w', Own w' base e v' (xs ++ news) → w.grownBy w' v.ownBlock → Fresh w v v' → wpList P ops Q rest (a.put o.dst v') w') : wpList P ops Q (o :: rest) a w :=
  wpList_apps he.s (by omega) hgd s x ho v xv xs.length news.length xs news hs hx hown hrow.s h1 hb hbytes hbase fun v' w' h2 h3 h4 => h v' w' (by unfold Own; rw [List.length_append]; exact h2) h3 h4

/-- a string's bytes -/
def bstr (l : List UInt8) : ByteArray := ⟨l.toArray⟩
theorem bstr_inj {a b : List UInt8} : bstr a = bstr b ↔ a = b := by
  constructor
  · intro h
    have := congrArg (fun x : ByteArray => x.data.toList) h
    simpa [bstr] using this
  · rintro rfl; rfl
theorem bstr_list (s : ByteArray) : bstr s.data.toList = s := by cases s; simp [bstr]
theorem bstr_size (l : List UInt8) : (bstr l).size = l.length := by simp [bstr, ByteArray.size]
theorem bstr_toList (l : List UInt8) : (bstr l).toList = l := by simp [bstr]
theorem strCells_u8v (s : ByteArray) : Lib.strCells s = s.data.toList.map u8v := by simp [Lib.strCells, u8v]

theorem run_app_str {P : Program} (w : World) {t u e : TypeId} {base : Nat} (ty : TypeId) (ht : P.underlying t = some (.slice e)) (hu : P.underlying u = some .string) (hi : (P.info? e).map (fun i => (i.zero, i.size, i.bytes)) = some (some (.int .u8 0), 1, 1))
    (v : Value) (xs : List Value) (hown : Own w base e v xs) (s : ByteArray) (hb : xs.length + s.size ≤ 70368744177664) (hbase : base ≤ w.heap.size) :
    ∃ v' w', (Builtin.append_ #[t, u] ty #[v, .string s]).run P w = .ok v' w' ∧ Own w' base e v' (xs ++ s.data.toList.map u8v) ∧ w.grownBy w' v.ownBlock ∧ Fresh w v v' := by
  obtain ⟨i, hi', hz, hs, hby⟩ := info_parts hi
  have hml : xs.length + s.size ≤ maxLen := by unfold maxLen; omega
  obtain ⟨v', w', hr, ho, hg, hnil⟩ := Lib.run_append_own_string (P := P) w base t u ty e i ht hu hi' hz hs hby v xs.length xs hown s hml (by omega) hbase
  have hlen : (s.data.toList.map u8v).length = s.size := by rw [List.length_map, Array.length_toList]; rfl
  refine ⟨v', w', hr, ?_, hg, ?_⟩
  · unfold Own
    rw [List.length_append, hlen, ← strCells_u8v]
    exact ho
  rcases hown.2 with ⟨rfl, hx0⟩ | ⟨g, cap, cur, rfl, hbg, hgg, hnc, hcm, hcs, htake⟩
  · have hx : xs = [] := List.eq_nil_of_length_eq_zero hx0
    subst hx
    obtain ⟨v2, w2, hr2, ho2, _, _⟩ := Lib.run_append_own_string (P := P) w w.heap.size t u ty e i ht hu hi' hz hs hby (.slice none 0 0) 0 [] (World.ownsRow_nil w _ e 1) s hml (by simp at hb; omega) (Nat.le_refl _)
    rw [List.length_nil] at *
    rw [hr] at hr2
    simp only [Result.ok.injEq] at hr2
    obtain ⟨rfl, rfl⟩ := hr2
    intro x hx
    right
    rcases ho2.2 with ⟨rfl, _⟩ | ⟨g, _, _, rfl, hb, _⟩
    · simp [Value.ownBlock] at hx
    · simp [Value.ownBlock] at hx; omega
  · by_cases hroom : xs.length + s.size ≤ cap
    · have hcs' : cur.size = cap := by simpa using hcs
      have hr2 := Lib.run_append_room_string (P := P) w t u ty e i ht hu hi' hs g xs.length cap cur hgg s hroom (by omega)
      rw [hr] at hr2
      simp only [Result.ok.injEq] at hr2
      obtain ⟨rfl, _⟩ := hr2
      intro x hx
      left
      simpa [Value.ownBlock] using hx
    · have holds : ∀ j u, xs[j]? = some u → w.cell? ((⟨g, 0, none⟩ : Addr).add j) = some u := World.ownsRow.cells (h := hown) (g := g) rfl
      have hr2 := Lib.run_append_grow_string (P := P) w t u ty e i (.int .u8 0) ht hu hi' hz ⟨g, 0, none⟩ xs.length cap xs (by rw [hs]; simp) holds s (by omega) (by unfold maxLen at hml; omega) (by rw [hby]; exact growslice_fits (by omega) (by omega))
      rw [hr] at hr2
      simp only [Result.ok.injEq] at hr2
      obtain ⟨rfl, _⟩ := hr2
      intro x hx
      right
      simp [Value.ownBlock] at hx
      omega

theorem wpList_appstr {P : Program} {w : World} {ops : Array Oper} {rest : List Oper} {o : Oper} {a : Act} {Q : Exit → Act → World → Prop} {t u e : TypeId} {base : Nat} (ht : P.underlying t = some (.slice e)) (hu : P.underlying u = some .string) (hi : (P.info? e).map (fun i => (i.zero, i.size, i.bytes)) = some (some (.int .u8 0), 1, 1)) (hgd : o.guard = none) (s x : Operand)
    (ho : o.op = .call { callee := .builtin .append, args := #[s, x], argTypes := #[t, u] })
    (v : Value) (xs : List Value) (sx : ByteArray) (hs : a.eval s = v) (hx : a.eval x = .string sx) (hown : Own w base e v xs)
    (hb : xs.length + sx.size ≤ 70368744177664) (hbase : base ≤ w.heap.size)
    (h : ∀ v' w', Own w' base e v' (xs ++ sx.data.toList.map u8v) → w.grownBy w' v.ownBlock → Fresh w v v' → wpList P ops Q rest (a.put o.dst v') w') : wpList P ops Q (o :: rest) a w := by
  refine wpList_plain hgd fun K hK => ?_
  obtain ⟨v', w', hr, h2, h3, h4⟩ := run_app_str (P := P) w o.type ht hu hi v xs hown sx hb hbase
  unfold Oper.wp execOp
  simp only [ho, resolve, invoke, builtin, Sem.run_bind, Sem.run_pure, Result.andThen_ok, List.map_toArray, List.map_cons, List.map_nil, hs, hx, hr]
  exact hK _ _ (h v' w' h2 h3 h4)

/-- string(v) of a slice that reads as bytes -/
theorem Row.str {P : Program} {w : World} {v : Value} {l : List UInt8} {t e u : TypeId} (ht : P.underlying t = some (.slice e)) (he : P.underlying e = some (.int .u8)) (hu : P.underlying u = some .string) (h : Row w v (l.map u8v)) :
    (convert t u v).run P w = .ok (.string (bstr l)) w := by
  rcases h with ⟨a0, cap', rfl, hl0, -, h0⟩ | ⟨b, off, cap', rfl, h1, h2, hcell⟩
  · have : l = [] := by simpa using hl0
    subst this
    cases a0 with
    | none => exact run_convert_bytes_nil w t e ht he 0 cap' u hu
    | some ad =>
      rw [run_convert_bytes_string w t u e _ 0 cap' ht he hu, run_bytesToString w _ 0 cap' [] (by simpa using run_loadCells_list (P := P) w ad [] (by simp))]
      rfl
  · have := run_convert_bytes_arg (P := P) w t e ht he b off (l.map u8v).length cap' (l.map fun x => (x.toNat : Int)) (by simp) (fun i hi => by
      have hi' : i < l.length := by simpa using hi
      rw [hcell i (u8v l[i]) (by simp [hi'])]
      simp [u8v, List.getD, hi']) u hu
    rw [this]
    congr 2
    unfold strOfNums bstr
    congr 2
    rw [List.map_map]
    conv => rhs; rw [← List.map_id l]
    exact List.map_congr_left fun x _ => by simp

/-- []byte(s) -/
theorem str_bytes {P : Program} (w : World) {t e u : TypeId} (ht : P.underlying t = some (.slice e)) (he : P.underlying e = some (.int .u8)) (hu : P.underlying u = some .string) (s : ByteArray) (hs : s.size ≤ maxLen) :
    ∃ c w', (convert u t (.string s)).run P w = .ok (.slice (some ⟨w.heap.size, 0, none⟩) s.size c) w' ∧ Row w' (.slice (some ⟨w.heap.size, 0, none⟩) s.size c) (s.data.toList.map u8v) ∧ Keeps w w' := by
  refine ⟨_, _, Lib.run_convert_string_bytes w u t e s hu ht he, ?_, ?_⟩
  · refine .inr ⟨w.heap.size, 0, grownCap w s.size 0 e, by simp, by simpa using grownCap_ge w s.size 0 e, grownCap_le_maxLen w s.size 0 e hs, fun i x hx => ?_⟩
    have hi : i < s.size := by
      have := (List.getElem?_eq_some_iff.1 hx).1
      simpa using this
    rw [Nat.zero_add, Lib.bytesWorld_cell w e s i hi]
    rw [List.getElem?_map] at hx
    have hl : i < s.data.toList.length := by simpa using hi
    rw [List.getElem?_eq_getElem hl] at hx
    simp only [Option.map_some, Option.some.injEq, u8v] at hx
    rw [← hx, List.getD_eq_getElem?_getD, List.getElem?_eq_getElem hl]
    rfl
  · exact ⟨rfl, rfl, rfl, by rw [Lib.bytesWorld_size]; omega, fun k hk => Lib.bytesWorld_at_old w e s k hk⟩
end Go.Proofs.Ytohchhgheeolpaa

/- The last step of every law: a call that returns true and keeps old memory meets its row, whatever the arguments' types. -/
namespace Go.Proofs.Ytohchhgheeolpaa
open Go.RowKit Go.WideShapes Go.ChangeShapes

section
variable {H : Type} {enc : TypeId × Value → H} {P : Program}

theorem trodAll_stays (hl : laidOutB P = true) {W W' : World} {sp : Nat → Bool} : ∀ (ts : List TypeId) (vs : List Value) (ds : List (DataW H)) (ps : List MemPlace),
    (∀ t ∈ ts, P.readableRec t = true ∧ t < P.types.size) → DataW.TrodAll enc P W 0 (fun _ => true) true ts vs ds ps → (∀ p ∈ ps, W.sameAt W' p) → (∀ p ∈ ps, sp p.block = true) →
    DataW.TrodAll enc P W' 0 sp true ts vs ds ps
  | [], vs, ds, ps, _, h, _, _ => by
    cases vs <;> cases ds <;> simp_all [DataW.TrodAll]
  | t :: ts, vs, ds, ps, hts, h, hsame, hs => by
    cases vs with
    | nil => simp [DataW.TrodAll] at h
    | cons v vs =>
      cases ds with
      | nil => simp [DataW.TrodAll] at h
      | cons d ds =>
        obtain ⟨p, q, h1, h2, rfl⟩ := h
        obtain ⟨hr, hrow⟩ := hts t (by simp)
        exact ⟨p, q, WideElems.Trod_stays hl hr hrow h1 (fun x hx => hsame x (by simp [hx])) (fun x hx => hs x (by simp [hx])),
          trodAll_stays hl ts vs ds q (fun t ht => hts t (by simp [ht])) h2 (fun x hx => hsame x (by simp [hx])) (fun x hx => hs x (by simp [hx])), rfl⟩

theorem post_of_below {f : Func} {s : ChangeSpec} {apart fresh handsOn again : Bool} {W W' : World} {args : Array Value} {v : Value} {ds gs : List (DataW H)} {before pa pv : List MemPlace}
    (hW : DataW.Whole enc P f.params.toList s.vars apart W args.toList ds gs before)
    (hres : ∀ (b : Nat) (sp : Nat → Bool) (hd : Bool), DataW.TrodAll enc P W' b sp hd f.resultTypes.toList (v.resultList f.resultTypes.size) (s.fn H (ds ++ gs)).results [])
    (hargs : ∀ sp : Nat → Bool, (∀ p ∈ before, sp p.block = true) → DataW.TrodAll enc P W' 0 sp true f.params.toList args.toList (s.fn H (ds ++ gs)).args pa)
    (hvars : ∀ sp : Nat → Bool, (∀ p ∈ before, sp p.block = true) → DataW.TrodVars enc P W' sp s.vars (s.fn H (ds ++ gs)).vars pv)
    (hps : before = pa ++ pv) (hb : Below W.heap.size W W')
    (hok : ∀ (j : Nat) (t : TypeId) (r : Value), f.resultTypes[j]? = some t → (v.resultList f.resultTypes.size)[j]? = some r → Value.okWide P W' .any 0 t r) :
    s.post enc P f apart fresh handsOn again W args v W' := by
  have hlt : ∀ p ∈ before, p.block < W.heap.size := fun p hp => hW.lt p hp
  have hold : ∀ p ∈ before, (fun b => decide (b < W.heap.size)) p.block = true := fun p hp => by simpa using hlt p hp
  refine ⟨ds, gs, before, [], pa, pv, hW, hres _ _ _, hargs _ hold, hvars _ hold, World.keptBut_mono (fun p hp => ⟨hp, ?_⟩) (hb.frame (· ∈ before)), fun _ => ?_⟩
  · rw [hps, List.mem_append] at hp
    exact Or.inr hp
  · obtain ⟨_, _, _, _, _, hz, hn⟩ := hW
    refine ⟨hok, _, _, ([] ++ pa) ++ pv, ⟨[] ++ pa, pv, trodAll_append (hargs _ (fun _ _ => rfl)) (hres _ _ _), hvars _ (fun _ _ => rfl), rfl, ?_, ?_⟩, ?_⟩
    · intro b off hp
      have hin : MemPlace.cell b off ∈ before := by rw [hps]; simpa using hp
      rw [hb.frozen (hlt _ hin)]
      exact hz b off hin
    · intro ha
      have := hn ha
      rw [hps] at this
      simpa using this
    · intro p hp _
      rw [hps]
      simpa using hp

/-- THE LAW's LAST STEP. 'tb' is bool's number. -/
theorem law_post {f : Func} {s : ChangeSpec} {apart fresh handsOn again : Bool} {W W' : World} {args : Array Value} {ds gs : List (DataW H)} {before : List MemPlace} {tb : TypeId}
    (hl : laidOutB P = true) (htb : P.underlying tb = some .bool) (hvars : s.vars = []) (hres : f.resultTypes = #[tb])
    (hts : ∀ t ∈ f.params.toList, P.readableRec t = true ∧ t < P.types.size)
    (hs : (s.fn H ds).results = [.lit (.bool true)] ∧ (s.fn H ds).args = ds ∧ (s.fn H ds).vars = [])
    (hW : DataW.Whole enc P f.params.toList s.vars apart W args.toList ds gs before) (hk : Keeps W W') :
    s.post enc P f apart fresh handsOn again W args (.bool true) W' := by
  have hW' := hW
  have hlt : ∀ p ∈ before, p.block < W.heap.size := fun p hp => hW.lt p hp
  obtain ⟨p, q, hA, hV, hpq, hfz, hnd⟩ := hW
  rw [hvars] at hV
  obtain ⟨rfl, rfl⟩ := trodVars_none hV
  subst hpq
  have hsd : (s.fn H (ds ++ [])) = s.fn H ds := by simp
  refine post_of_below (pa := p) (pv := []) hW' ?_ ?_ ?_ rfl hk.below ?_
  · intro b sp hd
    rw [hsd, hs.1, hres]
    exact trodAll_cons_mk (shut_bool htb _) trodAll_mk0
  · intro sp hsp
    rw [hsd, hs.2.1]
    exact trodAll_stays hl _ _ _ _ hts hA (fun x hx => hk.below.same (hlt x (by simp [hx]))) (fun x hx => hsp x (by simp [hx]))
  · intro sp hsp
    rw [hsd, hs.2.2, hvars]
    rfl
  · exact ok_one hres rfl (okWide_bool_mk htb _)

/-! ### Opening arguments -/
theorem row_of_add {w : World} {a : Addr} {l : List Value} {cap : Nat} (h1 : l.length ≤ cap) (h2 : cap ≤ maxLen) (hc : ∀ i x, l[i]? = some x → w.cell? (a.add i) = some x) : Row w (.slice (some a) l.length cap) l := by
  cases l with
  | nil => exact .inl ⟨some a, cap, rfl, rfl, h2, fun h => by cases h⟩
  | cons x l =>
    obtain ⟨b, off, spot⟩ := a
    have hspot : spot = none := by simpa [Addr.add] using World.cell?_spot (hc 0 x rfl)
    subst hspot
    exact .inr ⟨b, off, cap, rfl, h1, h2, fun i y hy => by rw [← Go.WideShapes.add_plain]; exact hc i y hy⟩

theorem open_row_ints {w : World} {base b0 : Nat} {sp : Nat → Bool} {r : Reach} {held : Bool} {t e : TypeId} {k : IntKind} {v : Value} {d : DataW H} {ps : List MemPlace} (ht : P.underlying t = some (.slice e)) (he : P.underlying e = some (.int k)) (hc : P.cellsOf e = 1)
    (hval : Value.okWide P w r b0 t v) (h : DataW.Trod enc P w base sp held t v d ps) :
    ∃ zs : List Int, Row w v (zs.map (.int k)) ∧ (∀ n ∈ zs, (Lit.int k n).wf = true) := by
  obtain ⟨a0, len, cap, rfl⟩ := okWide_slice ht hval
  obtain ⟨fuel, hf⟩ := h
  rcases open_ints ht he hc hf with ⟨hcs, hx⟩ | ⟨a, len', cap', zs, hcs, _, hl, hm, hz, hx, hcell, hwz⟩
  · simp [Value.cells] at hcs
    obtain ⟨rfl, rfl, rfl⟩ := hcs
    exact ⟨[], .inl ⟨none, 0, rfl, rfl, by simp [maxLen], fun _ => rfl⟩, by simp⟩
  · simp [Value.cells] at hcs
    obtain ⟨rfl, rfl, rfl⟩ := hcs
    have hlz : len ≤ zs.length := by rw [hz]; split <;> omega
    have hlen : (zs.take len).length = len := by simp; omega
    refine ⟨zs.take len, ?_, fun n hn => hwz n (List.mem_of_mem_take hn)⟩
    have := row_of_add (w := w) (a := a) (l := (zs.take len).map (.int k)) (cap := cap) (by simp; omega) hm (fun i x hx => by
      have hi : i < len := by
        have := (List.getElem?_eq_some_iff.1 hx).1
        rw [List.length_map, hlen] at this
        exact this
      rw [hcell i (by omega)]
      simp [List.getElem?_take, hi] at hx
      obtain ⟨y, hy, rfl⟩ := hx
      simp [hy])
    rw [List.length_map, hlen] at this
    exact this

theorem open_row_bytes {w : World} {base b0 : Nat} {sp : Nat → Bool} {r : Reach} {held : Bool} {t e : TypeId} {v : Value} {d : DataW H} {ps : List MemPlace} (ht : P.underlying t = some (.slice e)) (he : P.underlying e = some (.int .u8)) (hc : P.cellsOf e = 1)
    (hval : Value.okWide P w r b0 t v) (h : DataW.Trod enc P w base sp held t v d ps) : ∃ l : List UInt8, Row w v (l.map u8v) := by
  obtain ⟨zs, hr, hw⟩ := open_row_ints ht he hc hval h
  refine ⟨zs.map fun n => UInt8.ofNat n.toNat, ?_⟩
  have : (zs.map fun n => UInt8.ofNat n.toNat).map u8v = zs.map (.int .u8) := by
    rw [List.map_map]
    refine List.map_congr_left fun n hn => ?_
    have hb : 0 ≤ n ∧ n ≤ 255 := by simpa [Lit.wf, IntKind.min, IntKind.max, IntKind.signed, IntKind.bits] using hw n hn
    simp [u8v]
    omega
  rw [this]
  exact hr
end
end Go.Proofs.Ytohchhgheeolpaa

/- Opening arguments of whatever shape: integers, bools, strings, structs, slices, one inside the other. For every program. -/
namespace Go.Proofs.Ytohchhgheeolpaa
open Go.RowKit Go.WideShapes Go.ChangeShapes

theorem RowS.keeps {w w' : World} {C n : Nat} {v : Value} {l : List Value} (h : RowS w C v n l) (k : Keeps w w') : RowS w' C v n l := by
  refine ⟨h.1, ?_⟩
  rcases h.2 with h | ⟨b, off, cap, hv, h1, h2, h3⟩
  · exact .inl h
  · exact .inr ⟨b, off, cap, hv, h1, h2, fun i x hx => by
      have := h3 i x hx
      rw [k.cell (p := ⟨b, off + i, none⟩) (lt_of_cell this)]; exact this⟩
theorem RowS.form {w : World} {C n : Nat} {v : Value} {l : List Value} (h : RowS w C v n l) : ∃ p cap, v = .slice p n cap ∧ n ≤ cap ∧ cap ≤ 9223372036854775807 := by
  rcases h.2 with ⟨a0, cap, rfl, rfl, h, _⟩ | ⟨b, off, cap, rfl, h1, h2, _⟩
  · exact ⟨_, _, rfl, Nat.zero_le _, by simpa [maxLen] using h⟩
  · exact ⟨_, _, rfl, h1, by simpa [maxLen] using h2⟩
theorem RowS.at_ {w : World} {C n : Nat} {v : Value} {l : List Value} (h : RowS w C v n l) (hn : 0 < n) : ∃ b off cap, v = .slice (some ⟨b, off, none⟩) n cap ∧ n ≤ cap ∧ cap ≤ 9223372036854775807 ∧ Hid (∀ i x, l[i]? = some x → w.cell? ⟨b, off + i, none⟩ = some x) := by
  rcases h.2 with ⟨a0, cap, rfl, rfl, h, _⟩ | ⟨b, off, cap, rfl, h1, h2, h3⟩
  · omega
  · exact ⟨b, off, cap, rfl, h1, by simpa [maxLen] using h2, Lib.hid h3⟩
theorem RowS.row {w : World} {n : Nat} {v : Value} {l : List Value} (h : RowS w 1 v n l) : Row w v l := by
  have hl := h.1
  rw [Nat.mul_one] at hl
  subst hl
  rcases h.2 with ⟨a0, cap, h1, h2, h3, h4⟩ | h
  · exact .inl ⟨a0, cap, by rw [h1], List.eq_nil_of_length_eq_zero h2, h3, h4⟩
  · exact .inr h

/-- cell j of element i in a row of elements of C cells each -/
theorem flat_get {α : Type} {cells : α → List Value} {C : Nat} (hC : ∀ x, (cells x).length = C) : ∀ (l : List α) (i j : Nat) (x : α), l[i]? = some x → j < C → (l.flatMap cells)[i * C + j]? = (cells x)[j]?
  | [], i, j, x, h, _ => by simp at h
  | y :: l, 0, j, x, h, hj => by
    simp at h
    subst h
    rw [List.flatMap_cons, Nat.zero_mul, Nat.zero_add, List.getElem?_append_left (by rw [hC]; exact hj)]
  | y :: l, i + 1, j, x, h, hj => by
    rw [List.flatMap_cons, List.getElem?_append_right (by rw [hC, Nat.succ_mul]; omega), hC, show (i + 1) * C + j - C = i * C + j from by rw [Nat.succ_mul]; omega]
    exact flat_get hC l i j x (by simpa using h) hj
theorem flat_len {α : Type} {cells : α → List Value} {C : Nat} (hC : ∀ x, (cells x).length = C) (l : List α) : (l.flatMap cells).length = l.length * C := by
  induction l with
  | nil => simp
  | cons y l ih => rw [List.flatMap_cons, List.length_append, hC, ih, List.length_cons, Nat.succ_mul, Nat.add_comm]

section
variable {H : Type} {enc : TypeId × Value → H} {P : Program} {w : World} {base : Nat} {sp : Nat → Bool} {held : Bool}

/-- whatever reads as data of type e is the cells of some x that is good -/
def Opens (enc : TypeId × Value → H) (P : Program) (w : World) (base : Nat) (sp : Nat → Bool) (held : Bool) (e : TypeId) {α : Type} (cells : α → List Value) (good : α → Prop) : Prop :=
  ∀ (n : Nat) (cs : List Value) (d : DataW H × List MemPlace), DataW.trod enc P w base sp held n e cs = some d → ∃ x, cs = cells x ∧ good x

theorem opens_int {e : TypeId} {k : IntKind} (he : P.underlying e = some (.int k)) : Opens enc P w base sp held e (fun a : Int => [.int k a]) (fun a => (Lit.int k a).wf = true) := by
  intro n cs d h
  obtain ⟨a, h1, _, h2⟩ := DataW.trod_int he h
  exact ⟨a, h1, h2⟩
theorem opens_bool {e : TypeId} (he : P.underlying e = some .bool) : Opens enc P w base sp held e (fun a : Bool => [.bool a]) (fun _ => True) := by
  intro n cs d h
  obtain ⟨a, h1, _⟩ := DataW.trod_bool he h
  exact ⟨a, h1, trivial⟩
theorem opens_string {e : TypeId} (he : P.underlying e = some .string) : Opens enc P w base sp held e (fun a : ByteArray => [.string a]) (fun a => a.size ≤ maxLen) := by
  intro n cs d h
  obtain ⟨a, h1, _, h2⟩ := DataW.trod_string he h
  exact ⟨a, h1, h2⟩
theorem opens_map {e : TypeId} {α β : Type} {cells : α → List Value} {good : α → Prop} {cells' : β → List Value} {good' : β → Prop} (h : Opens enc P w base sp held e cells good) (f : α → β) (hc : ∀ x, good x → cells' (f x) = cells x) (hg : ∀ x, good x → good' (f x)) : Opens enc P w base sp held e cells' good' := by
  intro n cs d hd
  obtain ⟨x, h1, h2⟩ := h n cs d hd
  exact ⟨f x, by rw [hc x h2]; exact h1, hg x h2⟩

theorem opens_list {α : Type} {e : TypeId} {cells : α → List Value} {good : α → Prop} (h : Opens enc P w base sp held e cells good) (n : Nat) (len : Nat) (C : Nat) (a : Addr)
    (hi : ∀ i, i < len → ∃ cs' d, w.cells? base (a.add (i * C)) C = some cs' ∧ DataW.trod enc P w base sp held n e cs' = some d) :
    ∃ l : List α, l.length = len ∧ (∀ x ∈ l, good x) ∧ ∀ i x, l[i]? = some x → ∀ j, j < C → w.cell? (a.add (i * C + j)) = (cells x)[j]? := by
  induction len with
  | zero => exact ⟨[], rfl, by simp, by simp⟩
  | succ len ih =>
    obtain ⟨l, h1, h2, h3⟩ := ih (fun i hlt => hi i (by omega))
    obtain ⟨cs', d, h4, h5⟩ := hi len (by omega)
    obtain ⟨x, rfl, hx⟩ := h n cs' d h5
    obtain ⟨_, _, h6⟩ := World.cells?_some h4
    refine ⟨l ++ [x], by simp [h1], ?_, ?_⟩
    · intro y hy
      rcases List.mem_append.1 hy with hy | hy
      · exact h2 y hy
      · simp at hy; subst hy; exact hx
    · intro i y hy j hj
      by_cases hlt : i < l.length
      · rw [List.getElem?_append_left hlt] at hy
        exact h3 i y hy j hj
      · rw [List.getElem?_append_right (by omega)] at hy
        have : i - l.length = 0 := by
          rcases Nat.eq_zero_or_pos (i - l.length) with h0 | h0
          · exact h0
          · rw [List.getElem?_eq_none (by simp; omega)] at hy; cases hy
        rw [this] at hy
        simp at hy
        subst hy
        have hil : i = len := by omega
        subst hil
        rw [← Go.Deep.add_add]
        exact h6 j hj

theorem opens_slice {t e : TypeId} {C : Nat} {α : Type} {cells : α → List Value} {good : α → Prop} (ht : P.underlying t = some (.slice e)) (hC : P.cellsOf e = C) (h0 : 0 < C) (hlen : ∀ x, (cells x).length = C) (ho : Opens enc P w base sp held e cells good) :
    Opens enc P w base sp held t (fun x : Value × List α => [x.1]) (fun x => RowS w C x.1 x.2.length (x.2.flatMap cells) ∧ ∀ y ∈ x.2, good y) := by
  intro n cs d h
  rcases Go.Deep.open_slice ht h with ⟨rfl, _⟩ | ⟨a, len, cap, m, n', D, Pl, rfl, _, hl, hm, hmm, _, hi⟩
  · exact ⟨(.slice none 0 0, []), rfl, ⟨by simp, .inl ⟨none, 0, rfl, rfl, by simp [maxLen], fun _ => rfl⟩⟩, by simp⟩
  · rw [hC] at hi
    have hlm : len ≤ m := by rw [hmm]; split <;> omega
    obtain ⟨l, h1, h2, h3⟩ := opens_list ho n' len C a (fun i hlt => by
      obtain ⟨cs', h4, h5⟩ := hi i (by omega)
      exact ⟨cs', _, h4, h5⟩)
    refine ⟨(.slice (some a) len cap, l), rfl, ⟨flat_len hlen l, ?_⟩, h2⟩
    rcases Nat.eq_zero_or_pos len with hz | hp
    · subst hz
      exact .inl ⟨some a, cap, rfl, h1, hm, fun h => by cases h⟩
    · have hcell : ∀ i x, (l.flatMap cells)[i]? = some x → w.cell? (a.add i) = some x := by
        intro i x hx
        have hilt : i < l.length * C := by
          have := (List.getElem?_eq_some_iff.1 hx).1
          rwa [flat_len hlen] at this
        have hq : i / C < l.length := by rw [Nat.div_lt_iff_lt_mul h0]; exact hilt
        have hr : i % C < C := Nat.mod_lt _ h0
        have hdm : i / C * C + i % C = i := by rw [Nat.mul_comm]; exact Nat.div_add_mod i C
        have hy : l[i / C]? = some l[i / C] := List.getElem?_eq_getElem hq
        have e1 := flat_get hlen l (i / C) (i % C) _ hy hr
        have e2 := h3 (i / C) _ hy (i % C) hr
        rw [hdm] at e1 e2
        rw [e2, ← e1, hx]
      obtain ⟨b, off, spot⟩ := a
      have hspot : spot = none := by
        have hlt : 0 < (l.flatMap cells).length := by rw [flat_len hlen, h1]; exact Nat.mul_pos hp h0
        have := hcell 0 _ (List.getElem?_eq_getElem hlt)
        simpa [Addr.add] using World.cell?_spot this
      subst hspot
      refine .inr ⟨b, off, cap, by rw [h1], by rw [h1]; exact hl, hm, fun i x hx => ?_⟩
      rw [← Go.WideShapes.add_plain]
      exact hcell i x hx

/-- the fields of a struct from an offset on -/
def OpensF (enc : TypeId × Value → H) (P : Program) (w : World) (base : Nat) (sp : Nat → Bool) (held : Bool) (fs : List Field) (off tot : Nat) {α : Type} (cells : α → List Value) (good : α → Prop) : Prop :=
  ∀ (n : Nat) (cs : List Value), cs.length = tot → (∀ f ∈ fs, ∃ d, DataW.trod enc P w base sp held n f.type ((cs.drop f.offset).take (P.cellsOf f.type)) = some d) → ∃ x, cs.drop off = cells x ∧ good x

theorem opensF_nil {tot : Nat} : OpensF enc P w base sp held [] tot tot (fun _ : Unit => []) (fun _ => True) := fun _ cs hl _ => ⟨(), by simp [← hl], trivial⟩
theorem opensF_cons {f : Field} {fs : List Field} {off c tot : Nat} {α β : Type} {c0 : α → List Value} {g0 : α → Prop} {c1 : β → List Value} {g1 : β → Prop} (hoff : f.offset = off) (hc : P.cellsOf f.type = c)
    (hf : Opens enc P w base sp held f.type c0 g0) (hr : OpensF enc P w base sp held fs (off + c) tot c1 g1) : OpensF enc P w base sp held (f :: fs) off tot (fun x : α × β => c0 x.1 ++ c1 x.2) (fun x => g0 x.1 ∧ g1 x.2) := by
  intro n cs hl h
  obtain ⟨d, hd⟩ := h f (by simp)
  obtain ⟨x, hx, gx⟩ := hf n _ d hd
  obtain ⟨y, hy, gy⟩ := hr n cs hl (fun f hf => h f (by simp [hf]))
  refine ⟨(x, y), ?_, gx, gy⟩
  rw [hoff, hc] at hx
  show cs.drop off = c0 x ++ c1 y
  rw [← hx, ← hy, ← List.drop_drop, List.take_append_drop]
theorem opens_struct {t : TypeId} {fs : Array Field} {tot : Nat} {α : Type} {cells : α → List Value} {good : α → Prop} (ht : P.underlying t = some (.struct fs)) (hC : P.cellsOf t = tot) (h : OpensF enc P w base sp held fs.toList 0 tot cells good) :
    Opens enc P w base sp held t cells good := by
  intro n cs d hd
  obtain ⟨xs, n', _, _, hlen, hxl, hg⟩ := DataW.trod_struct ht hd
  obtain ⟨x, hx, gx⟩ := h n' cs (by rw [hlen, hC]) (fun f hf => by
    obtain ⟨i, hi⟩ := List.mem_iff_getElem?.1 hf
    have hi' : fs[i]? = some f := by simpa using hi
    have hlt : i < xs.length := by rw [hxl]; exact (Array.getElem?_eq_some_iff.1 hi').1
    exact ⟨xs[i], by rw [hg i f hi']; exact List.getElem?_eq_getElem hlt⟩)
  exact ⟨x, by simpa using hx, gx⟩

/-- a parameter that is a slice -/
theorem open_param_slice {r : Reach} {b0 : Nat} {t e : TypeId} {v : Value} {d : DataW H} {ps : List MemPlace} {α : Type} {C : Nat} {cells : α → List Value} {good : α → Prop} (ht : P.underlying t = some (.slice e)) (hC : P.cellsOf e = C) (h0 : 0 < C) (hlen : ∀ x, (cells x).length = C)
    (hval : Value.okWide P w r b0 t v) (h : DataW.Trod enc P w base sp held t v d ps) (ho : Opens enc P w base sp held e cells good) : ∃ l : List α, RowS w C v l.length (l.flatMap cells) ∧ ∀ y ∈ l, good y := by
  obtain ⟨a0, len, cap, rfl⟩ := okWide_slice ht hval
  obtain ⟨fuel, hf⟩ := h
  obtain ⟨⟨v, l⟩, h1, h2, h3⟩ := opens_slice ht hC h0 hlen ho fuel _ _ hf
  simp [Value.cells] at h1
  subst h1
  exact ⟨l, h2, h3⟩
end
end Go.Proofs.Ytohchhgheeolpaa

/- Slices of slices: what x[lo:hi] reads as. For every program. -/
namespace Go.Proofs.Ytohchhgheeolpaa
open Go.RowKit

/-- x[lo:hi] of a slice with this address and capacity (one-cell elements) -/
def cutv (p : Option Addr) (lo hi cap : Nat) : Value := .slice (if cap = lo then p else p.map (·.add lo)) (hi - lo) (cap - lo)

theorem Row.cut {w : World} {p : Option Addr} {cap n : Nat} {l : List Value} (h : Row w (.slice p n cap) l) {lo hi : Nat} (h1 : lo ≤ hi) (h2 : hi ≤ l.length) : Row w (cutv p lo hi cap) ((l.drop lo).take (hi - lo)) := by
  rcases h with ⟨a0, cap', hv, rfl, hc, h0⟩ | ⟨b, off, cap', hv, h3, h4, h5⟩
  · simp only [Value.slice.injEq] at hv
    obtain ⟨rfl, rfl, rfl⟩ := hv
    simp at h2
    obtain rfl : hi = 0 := h2
    obtain rfl : lo = 0 := by omega
    refine .inl ⟨if cap = 0 then p else p.map (·.add 0), cap, by simp [cutv], by simp, hc, ?_⟩
    intro h
    split at h
    · assumption
    · exact h0 (by simpa using h)
  · simp only [Value.slice.injEq] at hv
    obtain ⟨rfl, rfl, rfl⟩ := hv
    have hlen : ((l.drop lo).take (hi - lo)).length = hi - lo := by simp; omega
    by_cases hlo : cap = lo
    · have : hi = lo := by omega
      subst this
      refine .inl ⟨some ⟨b, off, none⟩, cap - hi, by simp [cutv, hlo], by simp, by omega, fun h => by cases h⟩
    · refine .inr ⟨b, off + lo, cap - lo, ?_, by omega, by omega, fun i x hx => ?_⟩
      · rw [hlen]
        simp [cutv, hlo, Go.WideShapes.add_plain]
      · have hi' : i < hi - lo := by have := (List.getElem?_eq_some_iff.1 hx).1; omega
        rw [Nat.add_assoc]
        refine h5 (lo + i) x ?_
        simpa [List.getElem?_take, hi'] using hx

section
variable {P : Program}
theorem sliced_cutv (p : Option Addr) (lo hi cap : Nat) : sliced p lo hi cap 1 = cutv p lo hi cap := by simp [sliced, cutv]

theorem run_cut_lh (w : World) {t e : TypeId} (ht : P.underlying t = some (.slice e)) (hs : ∀ w, (sizeOf e).run P w = .ok 1 w) (p : Option Addr) (len cap : Nat) {kl kh : IntKind} (l h : Nat) (h1 : l ≤ h) (h2 : h ≤ cap) :
    (Instr.slice t (.slice p len cap) (some (.int kl l)) (some (.int kh h)) none).run P w = .ok (cutv p l h cap) w := by
  have he : P.elem t = e := by simp [Program.elem, ht]
  rw [run_slice_lh w t p len cap (by rw [he]; exact ht) kl kh l h (by omega) (by omega) (by omega), he, hs]
  simp [Result.andThen, sliced_cutv]
theorem run_cut_h (w : World) {t e : TypeId} (ht : P.underlying t = some (.slice e)) (hs : ∀ w, (sizeOf e).run P w = .ok 1 w) (p : Option Addr) (len cap : Nat) {kh : IntKind} (h : Nat) (h2 : h ≤ cap) :
    (Instr.slice t (.slice p len cap) none (some (.int kh h)) none).run P w = .ok (cutv p 0 h cap) w := by
  have he : P.elem t = e := by simp [Program.elem, ht]
  rw [run_slice_h w t p len cap (by rw [he]; exact ht) kh h (by omega) (by omega), he, hs]
  simp [Result.andThen, sliced_cutv]
theorem run_cut_l (w : World) {t e : TypeId} (ht : P.underlying t = some (.slice e)) (hs : ∀ w, (sizeOf e).run P w = .ok 1 w) (p : Option Addr) (len cap : Nat) {kl : IntKind} (l : Nat) (h2 : l ≤ len) :
    (Instr.slice t (.slice p len cap) (some (.int kl l)) none none).run P w = .ok (cutv p l len cap) w := by
  have he : P.elem t = e := by simp [Program.elem, ht]
  rw [run_slice_l w t p len cap (by rw [he]; exact ht) kl l (by omega) (by omega), he, hs]
  simp [Result.andThen, sliced_cutv]
end
end Go.Proofs.Ytohchhgheeolpaa

/- Cells that are there stay as they are behind a call that keeps old memory. Written by a program (lists of lemmas by the number of cells). -/
namespace Go.Proofs.Ytohchhgheeolpaa
theorem keep1 {w w1 : World} {p0 : Addr} {v0 : Value} (hk : Keeps w w1) (h : w.cell? p0 = some v0) : w1.cell? p0 = some v0 := by
  rw [hk.cell (World.block_lt_of_cell? w p0 h)]; exact h
theorem lts1 {w : World} {b0 o0 : Nat} {v0 : Value} (h : w.cell? ⟨b0, o0, none⟩ = some v0) : b0 < w.heap.size := lt_of_cell h
theorem keep2 {w w1 : World} {p0 p1 : Addr} {v0 v1 : Value} (hk : Keeps w w1) (h : w.cell? p0 = some v0 ∧ w.cell? p1 = some v1) : w1.cell? p0 = some v0 ∧ w1.cell? p1 = some v1 :=
  ⟨keep1 hk h.1, keep1 hk h.2⟩
theorem lts2 {w : World} {b0 o0 b1 o1 : Nat} {v0 v1 : Value} (h : w.cell? ⟨b0, o0, none⟩ = some v0 ∧ w.cell? ⟨b1, o1, none⟩ = some v1) : b0 < w.heap.size ∧ b1 < w.heap.size :=
  ⟨lt_of_cell h.1, lts1 h.2⟩
theorem keep3 {w w1 : World} {p0 p1 p2 : Addr} {v0 v1 v2 : Value} (hk : Keeps w w1) (h : w.cell? p0 = some v0 ∧ w.cell? p1 = some v1 ∧ w.cell? p2 = some v2) : w1.cell? p0 = some v0 ∧ w1.cell? p1 = some v1 ∧ w1.cell? p2 = some v2 :=
  ⟨keep1 hk h.1, keep2 hk h.2⟩
theorem lts3 {w : World} {b0 o0 b1 o1 b2 o2 : Nat} {v0 v1 v2 : Value} (h : w.cell? ⟨b0, o0, none⟩ = some v0 ∧ w.cell? ⟨b1, o1, none⟩ = some v1 ∧ w.cell? ⟨b2, o2, none⟩ = some v2) : b0 < w.heap.size ∧ b1 < w.heap.size ∧ b2 < w.heap.size :=
  ⟨lt_of_cell h.1, lts2 h.2⟩
theorem keep4 {w w1 : World} {p0 p1 p2 p3 : Addr} {v0 v1 v2 v3 : Value} (hk : Keeps w w1) (h : w.cell? p0 = some v0 ∧ w.cell? p1 = some v1 ∧ w.cell? p2 = some v2 ∧ w.cell? p3 = some v3) : w1.cell? p0 = some v0 ∧ w1.cell? p1 = some v1 ∧ w1.cell? p2 = some v2 ∧ w1.cell? p3 = some v3 :=
  ⟨keep1 hk h.1, keep3 hk h.2⟩
theorem lts4 {w : World} {b0 o0 b1 o1 b2 o2 b3 o3 : Nat} {v0 v1 v2 v3 : Value} (h : w.cell? ⟨b0, o0, none⟩ = some v0 ∧ w.cell? ⟨b1, o1, none⟩ = some v1 ∧ w.cell? ⟨b2, o2, none⟩ = some v2 ∧ w.cell? ⟨b3, o3, none⟩ = some v3) : b0 < w.heap.size ∧ b1 < w.heap.size ∧ b2 < w.heap.size ∧ b3 < w.heap.size :=
  ⟨lt_of_cell h.1, lts3 h.2⟩
theorem keep5 {w w1 : World} {p0 p1 p2 p3 p4 : Addr} {v0 v1 v2 v3 v4 : Value} (hk : Keeps w w1) (h : w.cell? p0 = some v0 ∧ w.cell? p1 = some v1 ∧ w.cell? p2 = some v2 ∧ w.cell? p3 = some v3 ∧ w.cell? p4 = some v4) : w1.cell? p0 = some v0 ∧ w1.cell? p1 = some v1 ∧ w1.cell? p2 = some v2 ∧ w1.cell? p3 = some v3 ∧ w1.cell? p4 = some v4 :=
  ⟨keep1 hk h.1, keep4 hk h.2⟩
theorem lts5 {w : World} {b0 o0 b1 o1 b2 o2 b3 o3 b4 o4 : Nat} {v0 v1 v2 v3 v4 : Value} (h : w.cell? ⟨b0, o0, none⟩ = some v0 ∧ w.cell? ⟨b1, o1, none⟩ = some v1 ∧ w.cell? ⟨b2, o2, none⟩ = some v2 ∧ w.cell? ⟨b3, o3, none⟩ = some v3 ∧ w.cell? ⟨b4, o4, none⟩ = some v4) : b0 < w.heap.size ∧ b1 < w.heap.size ∧ b2 < w.heap.size ∧ b3 < w.heap.size ∧ b4 < w.heap.size :=
  ⟨lt_of_cell h.1, lts4 h.2⟩
theorem keep6 {w w1 : World} {p0 p1 p2 p3 p4 p5 : Addr} {v0 v1 v2 v3 v4 v5 : Value} (hk : Keeps w w1) (h : w.cell? p0 = some v0 ∧ w.cell? p1 = some v1 ∧ w.cell? p2 = some v2 ∧ w.cell? p3 = some v3 ∧ w.cell? p4 = some v4 ∧ w.cell? p5 = some v5) : w1.cell? p0 = some v0 ∧ w1.cell? p1 = some v1 ∧ w1.cell? p2 = some v2 ∧ w1.cell? p3 = some v3 ∧ w1.cell? p4 = some v4 ∧ w1.cell? p5 = some v5 :=
  ⟨keep1 hk h.1, keep5 hk h.2⟩
theorem lts6 {w : World} {b0 o0 b1 o1 b2 o2 b3 o3 b4 o4 b5 o5 : Nat} {v0 v1 v2 v3 v4 v5 : Value} (h : w.cell? ⟨b0, o0, none⟩ = some v0 ∧ w.cell? ⟨b1, o1, none⟩ = some v1 ∧ w.cell? ⟨b2, o2, none⟩ = some v2 ∧ w.cell? ⟨b3, o3, none⟩ = some v3 ∧ w.cell? ⟨b4, o4, none⟩ = some v4 ∧ w.cell? ⟨b5, o5, none⟩ = some v5) : b0 < w.heap.size ∧ b1 < w.heap.size ∧ b2 < w.heap.size ∧ b3 < w.heap.size ∧ b4 < w.heap.size ∧ b5 < w.heap.size :=
  ⟨lt_of_cell h.1, lts5 h.2⟩
theorem keep7 {w w1 : World} {p0 p1 p2 p3 p4 p5 p6 : Addr} {v0 v1 v2 v3 v4 v5 v6 : Value} (hk : Keeps w w1) (h : w.cell? p0 = some v0 ∧ w.cell? p1 = some v1 ∧ w.cell? p2 = some v2 ∧ w.cell? p3 = some v3 ∧ w.cell? p4 = some v4 ∧ w.cell? p5 = some v5 ∧ w.cell? p6 = some v6) : w1.cell? p0 = some v0 ∧ w1.cell? p1 = some v1 ∧ w1.cell? p2 = some v2 ∧ w1.cell? p3 = some v3 ∧ w1.cell? p4 = some v4 ∧ w1.cell? p5 = some v5 ∧ w1.cell? p6 = some v6 :=
  ⟨keep1 hk h.1, keep6 hk h.2⟩
theorem lts7 {w : World} {b0 o0 b1 o1 b2 o2 b3 o3 b4 o4 b5 o5 b6 o6 : Nat} {v0 v1 v2 v3 v4 v5 v6 : Value} (h : w.cell? ⟨b0, o0, none⟩ = some v0 ∧ w.cell? ⟨b1, o1, none⟩ = some v1 ∧ w.cell? ⟨b2, o2, none⟩ = some v2 ∧ w.cell? ⟨b3, o3, none⟩ = some v3 ∧ w.cell? ⟨b4, o4, none⟩ = some v4 ∧ w.cell? ⟨b5, o5, none⟩ = some v5 ∧ w.cell? ⟨b6, o6, none⟩ = some v6) : b0 < w.heap.size ∧ b1 < w.heap.size ∧ b2 < w.heap.size ∧ b3 < w.heap.size ∧ b4 < w.heap.size ∧ b5 < w.heap.size ∧ b6 < w.heap.size :=
  ⟨lt_of_cell h.1, lts6 h.2⟩
theorem keep8 {w w1 : World} {p0 p1 p2 p3 p4 p5 p6 p7 : Addr} {v0 v1 v2 v3 v4 v5 v6 v7 : Value} (hk : Keeps w w1) (h : w.cell? p0 = some v0 ∧ w.cell? p1 = some v1 ∧ w.cell? p2 = some v2 ∧ w.cell? p3 = some v3 ∧ w.cell? p4 = some v4 ∧ w.cell? p5 = some v5 ∧ w.cell? p6 = some v6 ∧ w.cell? p7 = some v7) : w1.cell? p0 = some v0 ∧ w1.cell? p1 = some v1 ∧ w1.cell? p2 = some v2 ∧ w1.cell? p3 = some v3 ∧ w1.cell? p4 = some v4 ∧ w1.cell? p5 = some v5 ∧ w1.cell? p6 = some v6 ∧ w1.cell? p7 = some v7 :=
  ⟨keep1 hk h.1, keep7 hk h.2⟩
theorem lts8 {w : World} {b0 o0 b1 o1 b2 o2 b3 o3 b4 o4 b5 o5 b6 o6 b7 o7 : Nat} {v0 v1 v2 v3 v4 v5 v6 v7 : Value} (h : w.cell? ⟨b0, o0, none⟩ = some v0 ∧ w.cell? ⟨b1, o1, none⟩ = some v1 ∧ w.cell? ⟨b2, o2, none⟩ = some v2 ∧ w.cell? ⟨b3, o3, none⟩ = some v3 ∧ w.cell? ⟨b4, o4, none⟩ = some v4 ∧ w.cell? ⟨b5, o5, none⟩ = some v5 ∧ w.cell? ⟨b6, o6, none⟩ = some v6 ∧ w.cell? ⟨b7, o7, none⟩ = some v7) : b0 < w.heap.size ∧ b1 < w.heap.size ∧ b2 < w.heap.size ∧ b3 < w.heap.size ∧ b4 < w.heap.size ∧ b5 < w.heap.size ∧ b6 < w.heap.size ∧ b7 < w.heap.size :=
  ⟨lt_of_cell h.1, lts7 h.2⟩
theorem keep9 {w w1 : World} {p0 p1 p2 p3 p4 p5 p6 p7 p8 : Addr} {v0 v1 v2 v3 v4 v5 v6 v7 v8 : Value} (hk : Keeps w w1) (h : w.cell? p0 = some v0 ∧ w.cell? p1 = some v1 ∧ w.cell? p2 = some v2 ∧ w.cell? p3 = some v3 ∧ w.cell? p4 = some v4 ∧ w.cell? p5 = some v5 ∧ w.cell? p6 = some v6 ∧ w.cell? p7 = some v7 ∧ w.cell? p8 = some v8) : w1.cell? p0 = some v0 ∧ w1.cell? p1 = some v1 ∧ w1.cell? p2 = some v2 ∧ w1.cell? p3 = some v3 ∧ w1.cell? p4 = some v4 ∧ w1.cell? p5 = some v5 ∧ w1.cell? p6 = some v6 ∧ w1.cell? p7 = some v7 ∧ w1.cell? p8 = some v8 :=
  ⟨keep1 hk h.1, keep8 hk h.2⟩
theorem lts9 {w : World} {b0 o0 b1 o1 b2 o2 b3 o3 b4 o4 b5 o5 b6 o6 b7 o7 b8 o8 : Nat} {v0 v1 v2 v3 v4 v5 v6 v7 v8 : Value} (h : w.cell? ⟨b0, o0, none⟩ = some v0 ∧ w.cell? ⟨b1, o1, none⟩ = some v1 ∧ w.cell? ⟨b2, o2, none⟩ = some v2 ∧ w.cell? ⟨b3, o3, none⟩ = some v3 ∧ w.cell? ⟨b4, o4, none⟩ = some v4 ∧ w.cell? ⟨b5, o5, none⟩ = some v5 ∧ w.cell? ⟨b6, o6, none⟩ = some v6 ∧ w.cell? ⟨b7, o7, none⟩ = some v7 ∧ w.cell? ⟨b8, o8, none⟩ = some v8) : b0 < w.heap.size ∧ b1 < w.heap.size ∧ b2 < w.heap.size ∧ b3 < w.heap.size ∧ b4 < w.heap.size ∧ b5 < w.heap.size ∧ b6 < w.heap.size ∧ b7 < w.heap.size ∧ b8 < w.heap.size :=
  ⟨lt_of_cell h.1, lts8 h.2⟩
theorem keep10 {w w1 : World} {p0 p1 p2 p3 p4 p5 p6 p7 p8 p9 : Addr} {v0 v1 v2 v3 v4 v5 v6 v7 v8 v9 : Value} (hk : Keeps w w1) (h : w.cell? p0 = some v0 ∧ w.cell? p1 = some v1 ∧ w.cell? p2 = some v2 ∧ w.cell? p3 = some v3 ∧ w.cell? p4 = some v4 ∧ w.cell? p5 = some v5 ∧ w.cell? p6 = some v6 ∧ w.cell? p7 = some v7 ∧ w.cell? p8 = some v8 ∧ w.cell? p9 = some v9) : w1.cell? p0 = some v0 ∧ w1.cell? p1 = some v1 ∧ w1.cell? p2 = some v2 ∧ w1.cell? p3 = some v3 ∧ w1.cell? p4 = some v4 ∧ w1.cell? p5 = some v5 ∧ w1.cell? p6 = some v6 ∧ w1.cell? p7 = some v7 ∧ w1.cell? p8 = some v8 ∧ w1.cell? p9 = some v9 :=
  ⟨keep1 hk h.1, keep9 hk h.2⟩
theorem lts10 {w : World} {b0 o0 b1 o1 b2 o2 b3 o3 b4 o4 b5 o5 b6 o6 b7 o7 b8 o8 b9 o9 : Nat} {v0 v1 v2 v3 v4 v5 v6 v7 v8 v9 : Value} (h : w.cell? ⟨b0, o0, none⟩ = some v0 ∧ w.cell? ⟨b1, o1, none⟩ = some v1 ∧ w.cell? ⟨b2, o2, none⟩ = some v2 ∧ w.cell? ⟨b3, o3, none⟩ = some v3 ∧ w.cell? ⟨b4, o4, none⟩ = some v4 ∧ w.cell? ⟨b5, o5, none⟩ = some v5 ∧ w.cell? ⟨b6, o6, none⟩ = some v6 ∧ w.cell? ⟨b7, o7, none⟩ = some v7 ∧ w.cell? ⟨b8, o8, none⟩ = some v8 ∧ w.cell? ⟨b9, o9, none⟩ = some v9) : b0 < w.heap.size ∧ b1 < w.heap.size ∧ b2 < w.heap.size ∧ b3 < w.heap.size ∧ b4 < w.heap.size ∧ b5 < w.heap.size ∧ b6 < w.heap.size ∧ b7 < w.heap.size ∧ b8 < w.heap.size ∧ b9 < w.heap.size :=
  ⟨lt_of_cell h.1, lts9 h.2⟩
theorem keep11 {w w1 : World} {p0 p1 p2 p3 p4 p5 p6 p7 p8 p9 p10 : Addr} {v0 v1 v2 v3 v4 v5 v6 v7 v8 v9 v10 : Value} (hk : Keeps w w1) (h : w.cell? p0 = some v0 ∧ w.cell? p1 = some v1 ∧ w.cell? p2 = some v2 ∧ w.cell? p3 = some v3 ∧ w.cell? p4 = some v4 ∧ w.cell? p5 = some v5 ∧ w.cell? p6 = some v6 ∧ w.cell? p7 = some v7 ∧ w.cell? p8 = some v8 ∧ w.cell? p9 = some v9 ∧ w.cell? p10 = some v10) : w1.cell? p0 = some v0 ∧ w1.cell? p1 = some v1 ∧ w1.cell? p2 = some v2 ∧ w1.cell? p3 = some v3 ∧ w1.cell? p4 = some v4 ∧ w1.cell? p5 = some v5 ∧ w1.cell? p6 = some v6 ∧ w1.cell? p7 = some v7 ∧ w1.cell? p8 = some v8 ∧ w1.cell? p9 = some v9 ∧ w1.cell? p10 = some v10 :=
  ⟨keep1 hk h.1, keep10 hk h.2⟩
theorem lts11 {w : World} {b0 o0 b1 o1 b2 o2 b3 o3 b4 o4 b5 o5 b6 o6 b7 o7 b8 o8 b9 o9 b10 o10 : Nat} {v0 v1 v2 v3 v4 v5 v6 v7 v8 v9 v10 : Value} (h : w.cell? ⟨b0, o0, none⟩ = some v0 ∧ w.cell? ⟨b1, o1, none⟩ = some v1 ∧ w.cell? ⟨b2, o2, none⟩ = some v2 ∧ w.cell? ⟨b3, o3, none⟩ = some v3 ∧ w.cell? ⟨b4, o4, none⟩ = some v4 ∧ w.cell? ⟨b5, o5, none⟩ = some v5 ∧ w.cell? ⟨b6, o6, none⟩ = some v6 ∧ w.cell? ⟨b7, o7, none⟩ = some v7 ∧ w.cell? ⟨b8, o8, none⟩ = some v8 ∧ w.cell? ⟨b9, o9, none⟩ = some v9 ∧ w.cell? ⟨b10, o10, none⟩ = some v10) : b0 < w.heap.size ∧ b1 < w.heap.size ∧ b2 < w.heap.size ∧ b3 < w.heap.size ∧ b4 < w.heap.size ∧ b5 < w.heap.size ∧ b6 < w.heap.size ∧ b7 < w.heap.size ∧ b8 < w.heap.size ∧ b9 < w.heap.size ∧ b10 < w.heap.size :=
  ⟨lt_of_cell h.1, lts10 h.2⟩
theorem keep12 {w w1 : World} {p0 p1 p2 p3 p4 p5 p6 p7 p8 p9 p10 p11 : Addr} {v0 v1 v2 v3 v4 v5 v6 v7 v8 v9 v10 v11 : Value} (hk : Keeps w w1) (h : w.cell? p0 = some v0 ∧ w.cell? p1 = some v1 ∧ w.cell? p2 = some v2 ∧ w.cell? p3 = some v3 ∧ w.cell? p4 = some v4 ∧ w.cell? p5 = some v5 ∧ w.cell? p6 = some v6 ∧ w.cell? p7 = some v7 ∧ w.cell? p8 = some v8 ∧ w.cell? p9 = some v9 ∧ w.cell? p10 = some v10 ∧ w.cell? p11 = some v11) : w1.cell? p0 = some v0 ∧ w1.cell? p1 = some v1 ∧ w1.cell? p2 = some v2 ∧ w1.cell? p3 = some v3 ∧ w1.cell? p4 = some v4 ∧ w1.cell? p5 = some v5 ∧ w1.cell? p6 = some v6 ∧ w1.cell? p7 = some v7 ∧ w1.cell? p8 = some v8 ∧ w1.cell? p9 = some v9 ∧ w1.cell? p10 = some v10 ∧ w1.cell? p11 = some v11 :=
  ⟨keep1 hk h.1, keep11 hk h.2⟩
theorem lts12 {w : World} {b0 o0 b1 o1 b2 o2 b3 o3 b4 o4 b5 o5 b6 o6 b7 o7 b8 o8 b9 o9 b10 o10 b11 o11 : Nat} {v0 v1 v2 v3 v4 v5 v6 v7 v8 v9 v10 v11 : Value} (h : w.cell? ⟨b0, o0, none⟩ = some v0 ∧ w.cell? ⟨b1, o1, none⟩ = some v1 ∧ w.cell? ⟨b2, o2, none⟩ = some v2 ∧ w.cell? ⟨b3, o3, none⟩ = some v3 ∧ w.cell? ⟨b4, o4, none⟩ = some v4 ∧ w.cell? ⟨b5, o5, none⟩ = some v5 ∧ w.cell? ⟨b6, o6, none⟩ = some v6 ∧ w.cell? ⟨b7, o7, none⟩ = some v7 ∧ w.cell? ⟨b8, o8, none⟩ = some v8 ∧ w.cell? ⟨b9, o9, none⟩ = some v9 ∧ w.cell? ⟨b10, o10, none⟩ = some v10 ∧ w.cell? ⟨b11, o11, none⟩ = some v11) : b0 < w.heap.size ∧ b1 < w.heap.size ∧ b2 < w.heap.size ∧ b3 < w.heap.size ∧ b4 < w.heap.size ∧ b5 < w.heap.size ∧ b6 < w.heap.size ∧ b7 < w.heap.size ∧ b8 < w.heap.size ∧ b9 < w.heap.size ∧ b10 < w.heap.size ∧ b11 < w.heap.size :=
  ⟨lt_of_cell h.1, lts11 h.2⟩
theorem keep13 {w w1 : World} {p0 p1 p2 p3 p4 p5 p6 p7 p8 p9 p10 p11 p12 : Addr} {v0 v1 v2 v3 v4 v5 v6 v7 v8 v9 v10 v11 v12 : Value} (hk : Keeps w w1) (h : w.cell? p0 = some v0 ∧ w.cell? p1 = some v1 ∧ w.cell? p2 = some v2 ∧ w.cell? p3 = some v3 ∧ w.cell? p4 = some v4 ∧ w.cell? p5 = some v5 ∧ w.cell? p6 = some v6 ∧ w.cell? p7 = some v7 ∧ w.cell? p8 = some v8 ∧ w.cell? p9 = some v9 ∧ w.cell? p10 = some v10 ∧ w.cell? p11 = some v11 ∧ w.cell? p12 = some v12) : w1.cell? p0 = some v0 ∧ w1.cell? p1 = some v1 ∧ w1.cell? p2 = some v2 ∧ w1.cell? p3 = some v3 ∧ w1.cell? p4 = some v4 ∧ w1.cell? p5 = some v5 ∧ w1.cell? p6 = some v6 ∧ w1.cell? p7 = some v7 ∧ w1.cell? p8 = some v8 ∧ w1.cell? p9 = some v9 ∧ w1.cell? p10 = some v10 ∧ w1.cell? p11 = some v11 ∧ w1.cell? p12 = some v12 :=
  ⟨keep1 hk h.1, keep12 hk h.2⟩
theorem lts13 {w : World} {b0 o0 b1 o1 b2 o2 b3 o3 b4 o4 b5 o5 b6 o6 b7 o7 b8 o8 b9 o9 b10 o10 b11 o11 b12 o12 : Nat} {v0 v1 v2 v3 v4 v5 v6 v7 v8 v9 v10 v11 v12 : Value} (h : w.cell? ⟨b0, o0, none⟩ = some v0 ∧ w.cell? ⟨b1, o1, none⟩ = some v1 ∧ w.cell? ⟨b2, o2, none⟩ = some v2 ∧ w.cell? ⟨b3, o3, none⟩ = some v3 ∧ w.cell? ⟨b4, o4, none⟩ = some v4 ∧ w.cell? ⟨b5, o5, none⟩ = some v5 ∧ w.cell? ⟨b6, o6, none⟩ = some v6 ∧ w.cell? ⟨b7, o7, none⟩ = some v7 ∧ w.cell? ⟨b8, o8, none⟩ = some v8 ∧ w.cell? ⟨b9, o9, none⟩ = some v9 ∧ w.cell? ⟨b10, o10, none⟩ = some v10 ∧ w.cell? ⟨b11, o11, none⟩ = some v11 ∧ w.cell? ⟨b12, o12, none⟩ = some v12) : b0 < w.heap.size ∧ b1 < w.heap.size ∧ b2 < w.heap.size ∧ b3 < w.heap.size ∧ b4 < w.heap.size ∧ b5 < w.heap.size ∧ b6 < w.heap.size ∧ b7 < w.heap.size ∧ b8 < w.heap.size ∧ b9 < w.heap.size ∧ b10 < w.heap.size ∧ b11 < w.heap.size ∧ b12 < w.heap.size :=
  ⟨lt_of_cell h.1, lts12 h.2⟩
theorem keep14 {w w1 : World} {p0 p1 p2 p3 p4 p5 p6 p7 p8 p9 p10 p11 p12 p13 : Addr} {v0 v1 v2 v3 v4 v5 v6 v7 v8 v9 v10 v11 v12 v13 : Value} (hk : Keeps w w1) (h : w.cell? p0 = some v0 ∧ w.cell? p1 = some v1 ∧ w.cell? p2 = some v2 ∧ w.cell? p3 = some v3 ∧ w.cell? p4 = some v4 ∧ w.cell? p5 = some v5 ∧ w.cell? p6 = some v6 ∧ w.cell? p7 = some v7 ∧ w.cell? p8 = some v8 ∧ w.cell? p9 = some v9 ∧ w.cell? p10 = some v10 ∧ w.cell? p11 = some v11 ∧ w.cell? p12 = some v12 ∧ w.cell? p13 = some v13) : w1.cell? p0 = some v0 ∧ w1.cell? p1 = some v1 ∧ w1.cell? p2 = some v2 ∧ w1.cell? p3 = some v3 ∧ w1.cell? p4 = some v4 ∧ w1.cell? p5 = some v5 ∧ w1.cell? p6 = some v6 ∧ w1.cell? p7 = some v7 ∧ w1.cell? p8 = some v8 ∧ w1.cell? p9 = some v9 ∧ w1.cell? p10 = some v10 ∧ w1.cell? p11 = some v11 ∧ w1.cell? p12 = some v12 ∧ w1.cell? p13 = some v13 :=
  ⟨keep1 hk h.1, keep13 hk h.2⟩
theorem lts14 {w : World} {b0 o0 b1 o1 b2 o2 b3 o3 b4 o4 b5 o5 b6 o6 b7 o7 b8 o8 b9 o9 b10 o10 b11 o11 b12 o12 b13 o13 : Nat} {v0 v1 v2 v3 v4 v5 v6 v7 v8 v9 v10 v11 v12 v13 : Value} (h : w.cell? ⟨b0, o0, none⟩ = some v0 ∧ w.cell? ⟨b1, o1, none⟩ = some v1 ∧ w.cell? ⟨b2, o2, none⟩ = some v2 ∧ w.cell? ⟨b3, o3, none⟩ = some v3 ∧ w.cell? ⟨b4, o4, none⟩ = some v4 ∧ w.cell? ⟨b5, o5, none⟩ = some v5 ∧ w.cell? ⟨b6, o6, none⟩ = some v6 ∧ w.cell? ⟨b7, o7, none⟩ = some v7 ∧ w.cell? ⟨b8, o8, none⟩ = some v8 ∧ w.cell? ⟨b9, o9, none⟩ = some v9 ∧ w.cell? ⟨b10, o10, none⟩ = some v10 ∧ w.cell? ⟨b11, o11, none⟩ = some v11 ∧ w.cell? ⟨b12, o12, none⟩ = some v12 ∧ w.cell? ⟨b13, o13, none⟩ = some v13) : b0 < w.heap.size ∧ b1 < w.heap.size ∧ b2 < w.heap.size ∧ b3 < w.heap.size ∧ b4 < w.heap.size ∧ b5 < w.heap.size ∧ b6 < w.heap.size ∧ b7 < w.heap.size ∧ b8 < w.heap.size ∧ b9 < w.heap.size ∧ b10 < w.heap.size ∧ b11 < w.heap.size ∧ b12 < w.heap.size ∧ b13 < w.heap.size :=
  ⟨lt_of_cell h.1, lts13 h.2⟩
theorem keep15 {w w1 : World} {p0 p1 p2 p3 p4 p5 p6 p7 p8 p9 p10 p11 p12 p13 p14 : Addr} {v0 v1 v2 v3 v4 v5 v6 v7 v8 v9 v10 v11 v12 v13 v14 : Value} (hk : Keeps w w1) (h : w.cell? p0 = some v0 ∧ w.cell? p1 = some v1 ∧ w.cell? p2 = some v2 ∧ w.cell? p3 = some v3 ∧ w.cell? p4 = some v4 ∧ w.cell? p5 = some v5 ∧ w.cell? p6 = some v6 ∧ w.cell? p7 = some v7 ∧ w.cell? p8 = some v8 ∧ w.cell? p9 = some v9 ∧ w.cell? p10 = some v10 ∧ w.cell? p11 = some v11 ∧ w.cell? p12 = some v12 ∧ w.cell? p13 = some v13 ∧ w.cell? p14 = some v14) : w1.cell? p0 = some v0 ∧ w1.cell? p1 = some v1 ∧ w1.cell? p2 = some v2 ∧ w1.cell? p3 = some v3 ∧ w1.cell? p4 = some v4 ∧ w1.cell? p5 = some v5 ∧ w1.cell? p6 = some v6 ∧ w1.cell? p7 = some v7 ∧ w1.cell? p8 = some v8 ∧ w1.cell? p9 = some v9 ∧ w1.cell? p10 = some v10 ∧ w1.cell? p11 = some v11 ∧ w1.cell? p12 = some v12 ∧ w1.cell? p13 = some v13 ∧ w1.cell? p14 = some v14 :=
  ⟨keep1 hk h.1, keep14 hk h.2⟩
theorem lts15 {w : World} {b0 o0 b1 o1 b2 o2 b3 o3 b4 o4 b5 o5 b6 o6 b7 o7 b8 o8 b9 o9 b10 o10 b11 o11 b12 o12 b13 o13 b14 o14 : Nat} {v0 v1 v2 v3 v4 v5 v6 v7 v8 v9 v10 v11 v12 v13 v14 : Value} (h : w.cell? ⟨b0, o0, none⟩ = some v0 ∧ w.cell? ⟨b1, o1, none⟩ = some v1 ∧ w.cell? ⟨b2, o2, none⟩ = some v2 ∧ w.cell? ⟨b3, o3, none⟩ = some v3 ∧ w.cell? ⟨b4, o4, none⟩ = some v4 ∧ w.cell? ⟨b5, o5, none⟩ = some v5 ∧ w.cell? ⟨b6, o6, none⟩ = some v6 ∧ w.cell? ⟨b7, o7, none⟩ = some v7 ∧ w.cell? ⟨b8, o8, none⟩ = some v8 ∧ w.cell? ⟨b9, o9, none⟩ = some v9 ∧ w.cell? ⟨b10, o10, none⟩ = some v10 ∧ w.cell? ⟨b11, o11, none⟩ = some v11 ∧ w.cell? ⟨b12, o12, none⟩ = some v12 ∧ w.cell? ⟨b13, o13, none⟩ = some v13 ∧ w.cell? ⟨b14, o14, none⟩ = some v14) : b0 < w.heap.size ∧ b1 < w.heap.size ∧ b2 < w.heap.size ∧ b3 < w.heap.size ∧ b4 < w.heap.size ∧ b5 < w.heap.size ∧ b6 < w.heap.size ∧ b7 < w.heap.size ∧ b8 < w.heap.size ∧ b9 < w.heap.size ∧ b10 < w.heap.size ∧ b11 < w.heap.size ∧ b12 < w.heap.size ∧ b13 < w.heap.size ∧ b14 < w.heap.size :=
  ⟨lt_of_cell h.1, lts14 h.2⟩
theorem keep16 {w w1 : World} {p0 p1 p2 p3 p4 p5 p6 p7 p8 p9 p10 p11 p12 p13 p14 p15 : Addr} {v0 v1 v2 v3 v4 v5 v6 v7 v8 v9 v10 v11 v12 v13 v14 v15 : Value} (hk : Keeps w w1) (h : w.cell? p0 = some v0 ∧ w.cell? p1 = some v1 ∧ w.cell? p2 = some v2 ∧ w.cell? p3 = some v3 ∧ w.cell? p4 = some v4 ∧ w.cell? p5 = some v5 ∧ w.cell? p6 = some v6 ∧ w.cell? p7 = some v7 ∧ w.cell? p8 = some v8 ∧ w.cell? p9 = some v9 ∧ w.cell? p10 = some v10 ∧ w.cell? p11 = some v11 ∧ w.cell? p12 = some v12 ∧ w.cell? p13 = some v13 ∧ w.cell? p14 = some v14 ∧ w.cell? p15 = some v15) : w1.cell? p0 = some v0 ∧ w1.cell? p1 = some v1 ∧ w1.cell? p2 = some v2 ∧ w1.cell? p3 = some v3 ∧ w1.cell? p4 = some v4 ∧ w1.cell? p5 = some v5 ∧ w1.cell? p6 = some v6 ∧ w1.cell? p7 = some v7 ∧ w1.cell? p8 = some v8 ∧ w1.cell? p9 = some v9 ∧ w1.cell? p10 = some v10 ∧ w1.cell? p11 = some v11 ∧ w1.cell? p12 = some v12 ∧ w1.cell? p13 = some v13 ∧ w1.cell? p14 = some v14 ∧ w1.cell? p15 = some v15 :=
  ⟨keep1 hk h.1, keep15 hk h.2⟩
theorem lts16 {w : World} {b0 o0 b1 o1 b2 o2 b3 o3 b4 o4 b5 o5 b6 o6 b7 o7 b8 o8 b9 o9 b10 o10 b11 o11 b12 o12 b13 o13 b14 o14 b15 o15 : Nat} {v0 v1 v2 v3 v4 v5 v6 v7 v8 v9 v10 v11 v12 v13 v14 v15 : Value} (h : w.cell? ⟨b0, o0, none⟩ = some v0 ∧ w.cell? ⟨b1, o1, none⟩ = some v1 ∧ w.cell? ⟨b2, o2, none⟩ = some v2 ∧ w.cell? ⟨b3, o3, none⟩ = some v3 ∧ w.cell? ⟨b4, o4, none⟩ = some v4 ∧ w.cell? ⟨b5, o5, none⟩ = some v5 ∧ w.cell? ⟨b6, o6, none⟩ = some v6 ∧ w.cell? ⟨b7, o7, none⟩ = some v7 ∧ w.cell? ⟨b8, o8, none⟩ = some v8 ∧ w.cell? ⟨b9, o9, none⟩ = some v9 ∧ w.cell? ⟨b10, o10, none⟩ = some v10 ∧ w.cell? ⟨b11, o11, none⟩ = some v11 ∧ w.cell? ⟨b12, o12, none⟩ = some v12 ∧ w.cell? ⟨b13, o13, none⟩ = some v13 ∧ w.cell? ⟨b14, o14, none⟩ = some v14 ∧ w.cell? ⟨b15, o15, none⟩ = some v15) : b0 < w.heap.size ∧ b1 < w.heap.size ∧ b2 < w.heap.size ∧ b3 < w.heap.size ∧ b4 < w.heap.size ∧ b5 < w.heap.size ∧ b6 < w.heap.size ∧ b7 < w.heap.size ∧ b8 < w.heap.size ∧ b9 < w.heap.size ∧ b10 < w.heap.size ∧ b11 < w.heap.size ∧ b12 < w.heap.size ∧ b13 < w.heap.size ∧ b14 < w.heap.size ∧ b15 < w.heap.size :=
  ⟨lt_of_cell h.1, lts15 h.2⟩
theorem keep17 {w w1 : World} {p0 p1 p2 p3 p4 p5 p6 p7 p8 p9 p10 p11 p12 p13 p14 p15 p16 : Addr} {v0 v1 v2 v3 v4 v5 v6 v7 v8 v9 v10 v11 v12 v13 v14 v15 v16 : Value} (hk : Keeps w w1) (h : w.cell? p0 = some v0 ∧ w.cell? p1 = some v1 ∧ w.cell? p2 = some v2 ∧ w.cell? p3 = some v3 ∧ w.cell? p4 = some v4 ∧ w.cell? p5 = some v5 ∧ w.cell? p6 = some v6 ∧ w.cell? p7 = some v7 ∧ w.cell? p8 = some v8 ∧ w.cell? p9 = some v9 ∧ w.cell? p10 = some v10 ∧ w.cell? p11 = some v11 ∧ w.cell? p12 = some v12 ∧ w.cell? p13 = some v13 ∧ w.cell? p14 = some v14 ∧ w.cell? p15 = some v15 ∧ w.cell? p16 = some v16) : w1.cell? p0 = some v0 ∧ w1.cell? p1 = some v1 ∧ w1.cell? p2 = some v2 ∧ w1.cell? p3 = some v3 ∧ w1.cell? p4 = some v4 ∧ w1.cell? p5 = some v5 ∧ w1.cell? p6 = some v6 ∧ w1.cell? p7 = some v7 ∧ w1.cell? p8 = some v8 ∧ w1.cell? p9 = some v9 ∧ w1.cell? p10 = some v10 ∧ w1.cell? p11 = some v11 ∧ w1.cell? p12 = some v12 ∧ w1.cell? p13 = some v13 ∧ w1.cell? p14 = some v14 ∧ w1.cell? p15 = some v15 ∧ w1.cell? p16 = some v16 :=
  ⟨keep1 hk h.1, keep16 hk h.2⟩
theorem lts17 {w : World} {b0 o0 b1 o1 b2 o2 b3 o3 b4 o4 b5 o5 b6 o6 b7 o7 b8 o8 b9 o9 b10 o10 b11 o11 b12 o12 b13 o13 b14 o14 b15 o15 b16 o16 : Nat} {v0 v1 v2 v3 v4 v5 v6 v7 v8 v9 v10 v11 v12 v13 v14 v15 v16 : Value} (h : w.cell? ⟨b0, o0, none⟩ = some v0 ∧ w.cell? ⟨b1, o1, none⟩ = some v1 ∧ w.cell? ⟨b2, o2, none⟩ = some v2 ∧ w.cell? ⟨b3, o3, none⟩ = some v3 ∧ w.cell? ⟨b4, o4, none⟩ = some v4 ∧ w.cell? ⟨b5, o5, none⟩ = some v5 ∧ w.cell? ⟨b6, o6, none⟩ = some v6 ∧ w.cell? ⟨b7, o7, none⟩ = some v7 ∧ w.cell? ⟨b8, o8, none⟩ = some v8 ∧ w.cell? ⟨b9, o9, none⟩ = some v9 ∧ w.cell? ⟨b10, o10, none⟩ = some v10 ∧ w.cell? ⟨b11, o11, none⟩ = some v11 ∧ w.cell? ⟨b12, o12, none⟩ = some v12 ∧ w.cell? ⟨b13, o13, none⟩ = some v13 ∧ w.cell? ⟨b14, o14, none⟩ = some v14 ∧ w.cell? ⟨b15, o15, none⟩ = some v15 ∧ w.cell? ⟨b16, o16, none⟩ = some v16) : b0 < w.heap.size ∧ b1 < w.heap.size ∧ b2 < w.heap.size ∧ b3 < w.heap.size ∧ b4 < w.heap.size ∧ b5 < w.heap.size ∧ b6 < w.heap.size ∧ b7 < w.heap.size ∧ b8 < w.heap.size ∧ b9 < w.heap.size ∧ b10 < w.heap.size ∧ b11 < w.heap.size ∧ b12 < w.heap.size ∧ b13 < w.heap.size ∧ b14 < w.heap.size ∧ b15 < w.heap.size ∧ b16 < w.heap.size :=
  ⟨lt_of_cell h.1, lts16 h.2⟩
theorem keep18 {w w1 : World} {p0 p1 p2 p3 p4 p5 p6 p7 p8 p9 p10 p11 p12 p13 p14 p15 p16 p17 : Addr} {v0 v1 v2 v3 v4 v5 v6 v7 v8 v9 v10 v11 v12 v13 v14 v15 v16 v17 : Value} (hk : Keeps w w1) (h : w.cell? p0 = some v0 ∧ w.cell? p1 = some v1 ∧ w.cell? p2 = some v2 ∧ w.cell? p3 = some v3 ∧ w.cell? p4 = some v4 ∧ w.cell? p5 = some v5 ∧ w.cell? p6 = some v6 ∧ w.cell? p7 = some v7 ∧ w.cell? p8 = some v8 ∧ w.cell? p9 = some v9 ∧ w.cell? p10 = some v10 ∧ w.cell? p11 = some v11 ∧ w.cell? p12 = some v12 ∧ w.cell? p13 = some v13 ∧ w.cell? p14 = some v14 ∧ w.cell? p15 = some v15 ∧ w.cell? p16 = some v16 ∧ w.cell? p17 = some v17) : w1.cell? p0 = some v0 ∧ w1.cell? p1 = some v1 ∧ w1.cell? p2 = some v2 ∧ w1.cell? p3 = some v3 ∧ w1.cell? p4 = some v4 ∧ w1.cell? p5 = some v5 ∧ w1.cell? p6 = some v6 ∧ w1.cell? p7 = some v7 ∧ w1.cell? p8 = some v8 ∧ w1.cell? p9 = some v9 ∧ w1.cell? p10 = some v10 ∧ w1.cell? p11 = some v11 ∧ w1.cell? p12 = some v12 ∧ w1.cell? p13 = some v13 ∧ w1.cell? p14 = some v14 ∧ w1.cell? p15 = some v15 ∧ w1.cell? p16 = some v16 ∧ w1.cell? p17 = some v17 :=
  ⟨keep1 hk h.1, keep17 hk h.2⟩
theorem lts18 {w : World} {b0 o0 b1 o1 b2 o2 b3 o3 b4 o4 b5 o5 b6 o6 b7 o7 b8 o8 b9 o9 b10 o10 b11 o11 b12 o12 b13 o13 b14 o14 b15 o15 b16 o16 b17 o17 : Nat} {v0 v1 v2 v3 v4 v5 v6 v7 v8 v9 v10 v11 v12 v13 v14 v15 v16 v17 : Value} (h : w.cell? ⟨b0, o0, none⟩ = some v0 ∧ w.cell? ⟨b1, o1, none⟩ = some v1 ∧ w.cell? ⟨b2, o2, none⟩ = some v2 ∧ w.cell? ⟨b3, o3, none⟩ = some v3 ∧ w.cell? ⟨b4, o4, none⟩ = some v4 ∧ w.cell? ⟨b5, o5, none⟩ = some v5 ∧ w.cell? ⟨b6, o6, none⟩ = some v6 ∧ w.cell? ⟨b7, o7, none⟩ = some v7 ∧ w.cell? ⟨b8, o8, none⟩ = some v8 ∧ w.cell? ⟨b9, o9, none⟩ = some v9 ∧ w.cell? ⟨b10, o10, none⟩ = some v10 ∧ w.cell? ⟨b11, o11, none⟩ = some v11 ∧ w.cell? ⟨b12, o12, none⟩ = some v12 ∧ w.cell? ⟨b13, o13, none⟩ = some v13 ∧ w.cell? ⟨b14, o14, none⟩ = some v14 ∧ w.cell? ⟨b15, o15, none⟩ = some v15 ∧ w.cell? ⟨b16, o16, none⟩ = some v16 ∧ w.cell? ⟨b17, o17, none⟩ = some v17) : b0 < w.heap.size ∧ b1 < w.heap.size ∧ b2 < w.heap.size ∧ b3 < w.heap.size ∧ b4 < w.heap.size ∧ b5 < w.heap.size ∧ b6 < w.heap.size ∧ b7 < w.heap.size ∧ b8 < w.heap.size ∧ b9 < w.heap.size ∧ b10 < w.heap.size ∧ b11 < w.heap.size ∧ b12 < w.heap.size ∧ b13 < w.heap.size ∧ b14 < w.heap.size ∧ b15 < w.heap.size ∧ b16 < w.heap.size ∧ b17 < w.heap.size :=
  ⟨lt_of_cell h.1, lts17 h.2⟩
theorem keep19 {w w1 : World} {p0 p1 p2 p3 p4 p5 p6 p7 p8 p9 p10 p11 p12 p13 p14 p15 p16 p17 p18 : Addr} {v0 v1 v2 v3 v4 v5 v6 v7 v8 v9 v10 v11 v12 v13 v14 v15 v16 v17 v18 : Value} (hk : Keeps w w1) (h : w.cell? p0 = some v0 ∧ w.cell? p1 = some v1 ∧ w.cell? p2 = some v2 ∧ w.cell? p3 = some v3 ∧ w.cell? p4 = some v4 ∧ w.cell? p5 = some v5 ∧ w.cell? p6 = some v6 ∧ w.cell? p7 = some v7 ∧ w.cell? p8 = some v8 ∧ w.cell? p9 = some v9 ∧ w.cell? p10 = some v10 ∧ w.cell? p11 = some v11 ∧ w.cell? p12 = some v12 ∧ w.cell? p13 = some v13 ∧ w.cell? p14 = some v14 ∧ w.cell? p15 = some v15 ∧ w.cell? p16 = some v16 ∧ w.cell? p17 = some v17 ∧ w.cell? p18 = some v18) : w1.cell? p0 = some v0 ∧ w1.cell? p1 = some v1 ∧ w1.cell? p2 = some v2 ∧ w1.cell? p3 = some v3 ∧ w1.cell? p4 = some v4 ∧ w1.cell? p5 = some v5 ∧ w1.cell? p6 = some v6 ∧ w1.cell? p7 = some v7 ∧ w1.cell? p8 = some v8 ∧ w1.cell? p9 = some v9 ∧ w1.cell? p10 = some v10 ∧ w1.cell? p11 = some v11 ∧ w1.cell? p12 = some v12 ∧ w1.cell? p13 = some v13 ∧ w1.cell? p14 = some v14 ∧ w1.cell? p15 = some v15 ∧ w1.cell? p16 = some v16 ∧ w1.cell? p17 = some v17 ∧ w1.cell? p18 = some v18 :=
  ⟨keep1 hk h.1, keep18 hk h.2⟩
theorem lts19 {w : World} {b0 o0 b1 o1 b2 o2 b3 o3 b4 o4 b5 o5 b6 o6 b7 o7 b8 o8 b9 o9 b10 o10 b11 o11 b12 o12 b13 o13 b14 o14 b15 o15 b16 o16 b17 o17 b18 o18 : Nat} {v0 v1 v2 v3 v4 v5 v6 v7 v8 v9 v10 v11 v12 v13 v14 v15 v16 v17 v18 : Value} (h : w.cell? ⟨b0, o0, none⟩ = some v0 ∧ w.cell? ⟨b1, o1, none⟩ = some v1 ∧ w.cell? ⟨b2, o2, none⟩ = some v2 ∧ w.cell? ⟨b3, o3, none⟩ = some v3 ∧ w.cell? ⟨b4, o4, none⟩ = some v4 ∧ w.cell? ⟨b5, o5, none⟩ = some v5 ∧ w.cell? ⟨b6, o6, none⟩ = some v6 ∧ w.cell? ⟨b7, o7, none⟩ = some v7 ∧ w.cell? ⟨b8, o8, none⟩ = some v8 ∧ w.cell? ⟨b9, o9, none⟩ = some v9 ∧ w.cell? ⟨b10, o10, none⟩ = some v10 ∧ w.cell? ⟨b11, o11, none⟩ = some v11 ∧ w.cell? ⟨b12, o12, none⟩ = some v12 ∧ w.cell? ⟨b13, o13, none⟩ = some v13 ∧ w.cell? ⟨b14, o14, none⟩ = some v14 ∧ w.cell? ⟨b15, o15, none⟩ = some v15 ∧ w.cell? ⟨b16, o16, none⟩ = some v16 ∧ w.cell? ⟨b17, o17, none⟩ = some v17 ∧ w.cell? ⟨b18, o18, none⟩ = some v18) : b0 < w.heap.size ∧ b1 < w.heap.size ∧ b2 < w.heap.size ∧ b3 < w.heap.size ∧ b4 < w.heap.size ∧ b5 < w.heap.size ∧ b6 < w.heap.size ∧ b7 < w.heap.size ∧ b8 < w.heap.size ∧ b9 < w.heap.size ∧ b10 < w.heap.size ∧ b11 < w.heap.size ∧ b12 < w.heap.size ∧ b13 < w.heap.size ∧ b14 < w.heap.size ∧ b15 < w.heap.size ∧ b16 < w.heap.size ∧ b17 < w.heap.size ∧ b18 < w.heap.size :=
  ⟨lt_of_cell h.1, lts18 h.2⟩
theorem keep20 {w w1 : World} {p0 p1 p2 p3 p4 p5 p6 p7 p8 p9 p10 p11 p12 p13 p14 p15 p16 p17 p18 p19 : Addr} {v0 v1 v2 v3 v4 v5 v6 v7 v8 v9 v10 v11 v12 v13 v14 v15 v16 v17 v18 v19 : Value} (hk : Keeps w w1) (h : w.cell? p0 = some v0 ∧ w.cell? p1 = some v1 ∧ w.cell? p2 = some v2 ∧ w.cell? p3 = some v3 ∧ w.cell? p4 = some v4 ∧ w.cell? p5 = some v5 ∧ w.cell? p6 = some v6 ∧ w.cell? p7 = some v7 ∧ w.cell? p8 = some v8 ∧ w.cell? p9 = some v9 ∧ w.cell? p10 = some v10 ∧ w.cell? p11 = some v11 ∧ w.cell? p12 = some v12 ∧ w.cell? p13 = some v13 ∧ w.cell? p14 = some v14 ∧ w.cell? p15 = some v15 ∧ w.cell? p16 = some v16 ∧ w.cell? p17 = some v17 ∧ w.cell? p18 = some v18 ∧ w.cell? p19 = some v19) : w1.cell? p0 = some v0 ∧ w1.cell? p1 = some v1 ∧ w1.cell? p2 = some v2 ∧ w1.cell? p3 = some v3 ∧ w1.cell? p4 = some v4 ∧ w1.cell? p5 = some v5 ∧ w1.cell? p6 = some v6 ∧ w1.cell? p7 = some v7 ∧ w1.cell? p8 = some v8 ∧ w1.cell? p9 = some v9 ∧ w1.cell? p10 = some v10 ∧ w1.cell? p11 = some v11 ∧ w1.cell? p12 = some v12 ∧ w1.cell? p13 = some v13 ∧ w1.cell? p14 = some v14 ∧ w1.cell? p15 = some v15 ∧ w1.cell? p16 = some v16 ∧ w1.cell? p17 = some v17 ∧ w1.cell? p18 = some v18 ∧ w1.cell? p19 = some v19 :=
  ⟨keep1 hk h.1, keep19 hk h.2⟩
theorem lts20 {w : World} {b0 o0 b1 o1 b2 o2 b3 o3 b4 o4 b5 o5 b6 o6 b7 o7 b8 o8 b9 o9 b10 o10 b11 o11 b12 o12 b13 o13 b14 o14 b15 o15 b16 o16 b17 o17 b18 o18 b19 o19 : Nat} {v0 v1 v2 v3 v4 v5 v6 v7 v8 v9 v10 v11 v12 v13 v14 v15 v16 v17 v18 v19 : Value} (h : w.cell? ⟨b0, o0, none⟩ = some v0 ∧ w.cell? ⟨b1, o1, none⟩ = some v1 ∧ w.cell? ⟨b2, o2, none⟩ = some v2 ∧ w.cell? ⟨b3, o3, none⟩ = some v3 ∧ w.cell? ⟨b4, o4, none⟩ = some v4 ∧ w.cell? ⟨b5, o5, none⟩ = some v5 ∧ w.cell? ⟨b6, o6, none⟩ = some v6 ∧ w.cell? ⟨b7, o7, none⟩ = some v7 ∧ w.cell? ⟨b8, o8, none⟩ = some v8 ∧ w.cell? ⟨b9, o9, none⟩ = some v9 ∧ w.cell? ⟨b10, o10, none⟩ = some v10 ∧ w.cell? ⟨b11, o11, none⟩ = some v11 ∧ w.cell? ⟨b12, o12, none⟩ = some v12 ∧ w.cell? ⟨b13, o13, none⟩ = some v13 ∧ w.cell? ⟨b14, o14, none⟩ = some v14 ∧ w.cell? ⟨b15, o15, none⟩ = some v15 ∧ w.cell? ⟨b16, o16, none⟩ = some v16 ∧ w.cell? ⟨b17, o17, none⟩ = some v17 ∧ w.cell? ⟨b18, o18, none⟩ = some v18 ∧ w.cell? ⟨b19, o19, none⟩ = some v19) : b0 < w.heap.size ∧ b1 < w.heap.size ∧ b2 < w.heap.size ∧ b3 < w.heap.size ∧ b4 < w.heap.size ∧ b5 < w.heap.size ∧ b6 < w.heap.size ∧ b7 < w.heap.size ∧ b8 < w.heap.size ∧ b9 < w.heap.size ∧ b10 < w.heap.size ∧ b11 < w.heap.size ∧ b12 < w.heap.size ∧ b13 < w.heap.size ∧ b14 < w.heap.size ∧ b15 < w.heap.size ∧ b16 < w.heap.size ∧ b17 < w.heap.size ∧ b18 < w.heap.size ∧ b19 < w.heap.size :=
  ⟨lt_of_cell h.1, lts19 h.2⟩
theorem keep21 {w w1 : World} {p0 p1 p2 p3 p4 p5 p6 p7 p8 p9 p10 p11 p12 p13 p14 p15 p16 p17 p18 p19 p20 : Addr} {v0 v1 v2 v3 v4 v5 v6 v7 v8 v9 v10 v11 v12 v13 v14 v15 v16 v17 v18 v19 v20 : Value} (hk : Keeps w w1) (h : w.cell? p0 = some v0 ∧ w.cell? p1 = some v1 ∧ w.cell? p2 = some v2 ∧ w.cell? p3 = some v3 ∧ w.cell? p4 = some v4 ∧ w.cell? p5 = some v5 ∧ w.cell? p6 = some v6 ∧ w.cell? p7 = some v7 ∧ w.cell? p8 = some v8 ∧ w.cell? p9 = some v9 ∧ w.cell? p10 = some v10 ∧ w.cell? p11 = some v11 ∧ w.cell? p12 = some v12 ∧ w.cell? p13 = some v13 ∧ w.cell? p14 = some v14 ∧ w.cell? p15 = some v15 ∧ w.cell? p16 = some v16 ∧ w.cell? p17 = some v17 ∧ w.cell? p18 = some v18 ∧ w.cell? p19 = some v19 ∧ w.cell? p20 = some v20) : w1.cell? p0 = some v0 ∧ w1.cell? p1 = some v1 ∧ w1.cell? p2 = some v2 ∧ w1.cell? p3 = some v3 ∧ w1.cell? p4 = some v4 ∧ w1.cell? p5 = some v5 ∧ w1.cell? p6 = some v6 ∧ w1.cell? p7 = some v7 ∧ w1.cell? p8 = some v8 ∧ w1.cell? p9 = some v9 ∧ w1.cell? p10 = some v10 ∧ w1.cell? p11 = some v11 ∧ w1.cell? p12 = some v12 ∧ w1.cell? p13 = some v13 ∧ w1.cell? p14 = some v14 ∧ w1.cell? p15 = some v15 ∧ w1.cell? p16 = some v16 ∧ w1.cell? p17 = some v17 ∧ w1.cell? p18 = some v18 ∧ w1.cell? p19 = some v19 ∧ w1.cell? p20 = some v20 :=
  ⟨keep1 hk h.1, keep20 hk h.2⟩
theorem lts21 {w : World} {b0 o0 b1 o1 b2 o2 b3 o3 b4 o4 b5 o5 b6 o6 b7 o7 b8 o8 b9 o9 b10 o10 b11 o11 b12 o12 b13 o13 b14 o14 b15 o15 b16 o16 b17 o17 b18 o18 b19 o19 b20 o20 : Nat} {v0 v1 v2 v3 v4 v5 v6 v7 v8 v9 v10 v11 v12 v13 v14 v15 v16 v17 v18 v19 v20 : Value} (h : w.cell? ⟨b0, o0, none⟩ = some v0 ∧ w.cell? ⟨b1, o1, none⟩ = some v1 ∧ w.cell? ⟨b2, o2, none⟩ = some v2 ∧ w.cell? ⟨b3, o3, none⟩ = some v3 ∧ w.cell? ⟨b4, o4, none⟩ = some v4 ∧ w.cell? ⟨b5, o5, none⟩ = some v5 ∧ w.cell? ⟨b6, o6, none⟩ = some v6 ∧ w.cell? ⟨b7, o7, none⟩ = some v7 ∧ w.cell? ⟨b8, o8, none⟩ = some v8 ∧ w.cell? ⟨b9, o9, none⟩ = some v9 ∧ w.cell? ⟨b10, o10, none⟩ = some v10 ∧ w.cell? ⟨b11, o11, none⟩ = some v11 ∧ w.cell? ⟨b12, o12, none⟩ = some v12 ∧ w.cell? ⟨b13, o13, none⟩ = some v13 ∧ w.cell? ⟨b14, o14, none⟩ = some v14 ∧ w.cell? ⟨b15, o15, none⟩ = some v15 ∧ w.cell? ⟨b16, o16, none⟩ = some v16 ∧ w.cell? ⟨b17, o17, none⟩ = some v17 ∧ w.cell? ⟨b18, o18, none⟩ = some v18 ∧ w.cell? ⟨b19, o19, none⟩ = some v19 ∧ w.cell? ⟨b20, o20, none⟩ = some v20) : b0 < w.heap.size ∧ b1 < w.heap.size ∧ b2 < w.heap.size ∧ b3 < w.heap.size ∧ b4 < w.heap.size ∧ b5 < w.heap.size ∧ b6 < w.heap.size ∧ b7 < w.heap.size ∧ b8 < w.heap.size ∧ b9 < w.heap.size ∧ b10 < w.heap.size ∧ b11 < w.heap.size ∧ b12 < w.heap.size ∧ b13 < w.heap.size ∧ b14 < w.heap.size ∧ b15 < w.heap.size ∧ b16 < w.heap.size ∧ b17 < w.heap.size ∧ b18 < w.heap.size ∧ b19 < w.heap.size ∧ b20 < w.heap.size :=
  ⟨lt_of_cell h.1, lts20 h.2⟩
theorem keep22 {w w1 : World} {p0 p1 p2 p3 p4 p5 p6 p7 p8 p9 p10 p11 p12 p13 p14 p15 p16 p17 p18 p19 p20 p21 : Addr} {v0 v1 v2 v3 v4 v5 v6 v7 v8 v9 v10 v11 v12 v13 v14 v15 v16 v17 v18 v19 v20 v21 : Value} (hk : Keeps w w1) (h : w.cell? p0 = some v0 ∧ w.cell? p1 = some v1 ∧ w.cell? p2 = some v2 ∧ w.cell? p3 = some v3 ∧ w.cell? p4 = some v4 ∧ w.cell? p5 = some v5 ∧ w.cell? p6 = some v6 ∧ w.cell? p7 = some v7 ∧ w.cell? p8 = some v8 ∧ w.cell? p9 = some v9 ∧ w.cell? p10 = some v10 ∧ w.cell? p11 = some v11 ∧ w.cell? p12 = some v12 ∧ w.cell? p13 = some v13 ∧ w.cell? p14 = some v14 ∧ w.cell? p15 = some v15 ∧ w.cell? p16 = some v16 ∧ w.cell? p17 = some v17 ∧ w.cell? p18 = some v18 ∧ w.cell? p19 = some v19 ∧ w.cell? p20 = some v20 ∧ w.cell? p21 = some v21) : w1.cell? p0 = some v0 ∧ w1.cell? p1 = some v1 ∧ w1.cell? p2 = some v2 ∧ w1.cell? p3 = some v3 ∧ w1.cell? p4 = some v4 ∧ w1.cell? p5 = some v5 ∧ w1.cell? p6 = some v6 ∧ w1.cell? p7 = some v7 ∧ w1.cell? p8 = some v8 ∧ w1.cell? p9 = some v9 ∧ w1.cell? p10 = some v10 ∧ w1.cell? p11 = some v11 ∧ w1.cell? p12 = some v12 ∧ w1.cell? p13 = some v13 ∧ w1.cell? p14 = some v14 ∧ w1.cell? p15 = some v15 ∧ w1.cell? p16 = some v16 ∧ w1.cell? p17 = some v17 ∧ w1.cell? p18 = some v18 ∧ w1.cell? p19 = some v19 ∧ w1.cell? p20 = some v20 ∧ w1.cell? p21 = some v21 :=
  ⟨keep1 hk h.1, keep21 hk h.2⟩
theorem lts22 {w : World} {b0 o0 b1 o1 b2 o2 b3 o3 b4 o4 b5 o5 b6 o6 b7 o7 b8 o8 b9 o9 b10 o10 b11 o11 b12 o12 b13 o13 b14 o14 b15 o15 b16 o16 b17 o17 b18 o18 b19 o19 b20 o20 b21 o21 : Nat} {v0 v1 v2 v3 v4 v5 v6 v7 v8 v9 v10 v11 v12 v13 v14 v15 v16 v17 v18 v19 v20 v21 : Value} (h : w.cell? ⟨b0, o0, none⟩ = some v0 ∧ w.cell? ⟨b1, o1, none⟩ = some v1 ∧ w.cell? ⟨b2, o2, none⟩ = some v2 ∧ w.cell? ⟨b3, o3, none⟩ = some v3 ∧ w.cell? ⟨b4, o4, none⟩ = some v4 ∧ w.cell? ⟨b5, o5, none⟩ = some v5 ∧ w.cell? ⟨b6, o6, none⟩ = some v6 ∧ w.cell? ⟨b7, o7, none⟩ = some v7 ∧ w.cell? ⟨b8, o8, none⟩ = some v8 ∧ w.cell? ⟨b9, o9, none⟩ = some v9 ∧ w.cell? ⟨b10, o10, none⟩ = some v10 ∧ w.cell? ⟨b11, o11, none⟩ = some v11 ∧ w.cell? ⟨b12, o12, none⟩ = some v12 ∧ w.cell? ⟨b13, o13, none⟩ = some v13 ∧ w.cell? ⟨b14, o14, none⟩ = some v14 ∧ w.cell? ⟨b15, o15, none⟩ = some v15 ∧ w.cell? ⟨b16, o16, none⟩ = some v16 ∧ w.cell? ⟨b17, o17, none⟩ = some v17 ∧ w.cell? ⟨b18, o18, none⟩ = some v18 ∧ w.cell? ⟨b19, o19, none⟩ = some v19 ∧ w.cell? ⟨b20, o20, none⟩ = some v20 ∧ w.cell? ⟨b21, o21, none⟩ = some v21) : b0 < w.heap.size ∧ b1 < w.heap.size ∧ b2 < w.heap.size ∧ b3 < w.heap.size ∧ b4 < w.heap.size ∧ b5 < w.heap.size ∧ b6 < w.heap.size ∧ b7 < w.heap.size ∧ b8 < w.heap.size ∧ b9 < w.heap.size ∧ b10 < w.heap.size ∧ b11 < w.heap.size ∧ b12 < w.heap.size ∧ b13 < w.heap.size ∧ b14 < w.heap.size ∧ b15 < w.heap.size ∧ b16 < w.heap.size ∧ b17 < w.heap.size ∧ b18 < w.heap.size ∧ b19 < w.heap.size ∧ b20 < w.heap.size ∧ b21 < w.heap.size :=
  ⟨lt_of_cell h.1, lts21 h.2⟩
theorem keep23 {w w1 : World} {p0 p1 p2 p3 p4 p5 p6 p7 p8 p9 p10 p11 p12 p13 p14 p15 p16 p17 p18 p19 p20 p21 p22 : Addr} {v0 v1 v2 v3 v4 v5 v6 v7 v8 v9 v10 v11 v12 v13 v14 v15 v16 v17 v18 v19 v20 v21 v22 : Value} (hk : Keeps w w1) (h : w.cell? p0 = some v0 ∧ w.cell? p1 = some v1 ∧ w.cell? p2 = some v2 ∧ w.cell? p3 = some v3 ∧ w.cell? p4 = some v4 ∧ w.cell? p5 = some v5 ∧ w.cell? p6 = some v6 ∧ w.cell? p7 = some v7 ∧ w.cell? p8 = some v8 ∧ w.cell? p9 = some v9 ∧ w.cell? p10 = some v10 ∧ w.cell? p11 = some v11 ∧ w.cell? p12 = some v12 ∧ w.cell? p13 = some v13 ∧ w.cell? p14 = some v14 ∧ w.cell? p15 = some v15 ∧ w.cell? p16 = some v16 ∧ w.cell? p17 = some v17 ∧ w.cell? p18 = some v18 ∧ w.cell? p19 = some v19 ∧ w.cell? p20 = some v20 ∧ w.cell? p21 = some v21 ∧ w.cell? p22 = some v22) : w1.cell? p0 = some v0 ∧ w1.cell? p1 = some v1 ∧ w1.cell? p2 = some v2 ∧ w1.cell? p3 = some v3 ∧ w1.cell? p4 = some v4 ∧ w1.cell? p5 = some v5 ∧ w1.cell? p6 = some v6 ∧ w1.cell? p7 = some v7 ∧ w1.cell? p8 = some v8 ∧ w1.cell? p9 = some v9 ∧ w1.cell? p10 = some v10 ∧ w1.cell? p11 = some v11 ∧ w1.cell? p12 = some v12 ∧ w1.cell? p13 = some v13 ∧ w1.cell? p14 = some v14 ∧ w1.cell? p15 = some v15 ∧ w1.cell? p16 = some v16 ∧ w1.cell? p17 = some v17 ∧ w1.cell? p18 = some v18 ∧ w1.cell? p19 = some v19 ∧ w1.cell? p20 = some v20 ∧ w1.cell? p21 = some v21 ∧ w1.cell? p22 = some v22 :=
  ⟨keep1 hk h.1, keep22 hk h.2⟩
theorem lts23 {w : World} {b0 o0 b1 o1 b2 o2 b3 o3 b4 o4 b5 o5 b6 o6 b7 o7 b8 o8 b9 o9 b10 o10 b11 o11 b12 o12 b13 o13 b14 o14 b15 o15 b16 o16 b17 o17 b18 o18 b19 o19 b20 o20 b21 o21 b22 o22 : Nat} {v0 v1 v2 v3 v4 v5 v6 v7 v8 v9 v10 v11 v12 v13 v14 v15 v16 v17 v18 v19 v20 v21 v22 : Value} (h : w.cell? ⟨b0, o0, none⟩ = some v0 ∧ w.cell? ⟨b1, o1, none⟩ = some v1 ∧ w.cell? ⟨b2, o2, none⟩ = some v2 ∧ w.cell? ⟨b3, o3, none⟩ = some v3 ∧ w.cell? ⟨b4, o4, none⟩ = some v4 ∧ w.cell? ⟨b5, o5, none⟩ = some v5 ∧ w.cell? ⟨b6, o6, none⟩ = some v6 ∧ w.cell? ⟨b7, o7, none⟩ = some v7 ∧ w.cell? ⟨b8, o8, none⟩ = some v8 ∧ w.cell? ⟨b9, o9, none⟩ = some v9 ∧ w.cell? ⟨b10, o10, none⟩ = some v10 ∧ w.cell? ⟨b11, o11, none⟩ = some v11 ∧ w.cell? ⟨b12, o12, none⟩ = some v12 ∧ w.cell? ⟨b13, o13, none⟩ = some v13 ∧ w.cell? ⟨b14, o14, none⟩ = some v14 ∧ w.cell? ⟨b15, o15, none⟩ = some v15 ∧ w.cell? ⟨b16, o16, none⟩ = some v16 ∧ w.cell? ⟨b17, o17, none⟩ = some v17 ∧ w.cell? ⟨b18, o18, none⟩ = some v18 ∧ w.cell? ⟨b19, o19, none⟩ = some v19 ∧ w.cell? ⟨b20, o20, none⟩ = some v20 ∧ w.cell? ⟨b21, o21, none⟩ = some v21 ∧ w.cell? ⟨b22, o22, none⟩ = some v22) : b0 < w.heap.size ∧ b1 < w.heap.size ∧ b2 < w.heap.size ∧ b3 < w.heap.size ∧ b4 < w.heap.size ∧ b5 < w.heap.size ∧ b6 < w.heap.size ∧ b7 < w.heap.size ∧ b8 < w.heap.size ∧ b9 < w.heap.size ∧ b10 < w.heap.size ∧ b11 < w.heap.size ∧ b12 < w.heap.size ∧ b13 < w.heap.size ∧ b14 < w.heap.size ∧ b15 < w.heap.size ∧ b16 < w.heap.size ∧ b17 < w.heap.size ∧ b18 < w.heap.size ∧ b19 < w.heap.size ∧ b20 < w.heap.size ∧ b21 < w.heap.size ∧ b22 < w.heap.size :=
  ⟨lt_of_cell h.1, lts22 h.2⟩
theorem keep24 {w w1 : World} {p0 p1 p2 p3 p4 p5 p6 p7 p8 p9 p10 p11 p12 p13 p14 p15 p16 p17 p18 p19 p20 p21 p22 p23 : Addr} {v0 v1 v2 v3 v4 v5 v6 v7 v8 v9 v10 v11 v12 v13 v14 v15 v16 v17 v18 v19 v20 v21 v22 v23 : Value} (hk : Keeps w w1) (h : w.cell? p0 = some v0 ∧ w.cell? p1 = some v1 ∧ w.cell? p2 = some v2 ∧ w.cell? p3 = some v3 ∧ w.cell? p4 = some v4 ∧ w.cell? p5 = some v5 ∧ w.cell? p6 = some v6 ∧ w.cell? p7 = some v7 ∧ w.cell? p8 = some v8 ∧ w.cell? p9 = some v9 ∧ w.cell? p10 = some v10 ∧ w.cell? p11 = some v11 ∧ w.cell? p12 = some v12 ∧ w.cell? p13 = some v13 ∧ w.cell? p14 = some v14 ∧ w.cell? p15 = some v15 ∧ w.cell? p16 = some v16 ∧ w.cell? p17 = some v17 ∧ w.cell? p18 = some v18 ∧ w.cell? p19 = some v19 ∧ w.cell? p20 = some v20 ∧ w.cell? p21 = some v21 ∧ w.cell? p22 = some v22 ∧ w.cell? p23 = some v23) : w1.cell? p0 = some v0 ∧ w1.cell? p1 = some v1 ∧ w1.cell? p2 = some v2 ∧ w1.cell? p3 = some v3 ∧ w1.cell? p4 = some v4 ∧ w1.cell? p5 = some v5 ∧ w1.cell? p6 = some v6 ∧ w1.cell? p7 = some v7 ∧ w1.cell? p8 = some v8 ∧ w1.cell? p9 = some v9 ∧ w1.cell? p10 = some v10 ∧ w1.cell? p11 = some v11 ∧ w1.cell? p12 = some v12 ∧ w1.cell? p13 = some v13 ∧ w1.cell? p14 = some v14 ∧ w1.cell? p15 = some v15 ∧ w1.cell? p16 = some v16 ∧ w1.cell? p17 = some v17 ∧ w1.cell? p18 = some v18 ∧ w1.cell? p19 = some v19 ∧ w1.cell? p20 = some v20 ∧ w1.cell? p21 = some v21 ∧ w1.cell? p22 = some v22 ∧ w1.cell? p23 = some v23 :=
  ⟨keep1 hk h.1, keep23 hk h.2⟩
theorem lts24 {w : World} {b0 o0 b1 o1 b2 o2 b3 o3 b4 o4 b5 o5 b6 o6 b7 o7 b8 o8 b9 o9 b10 o10 b11 o11 b12 o12 b13 o13 b14 o14 b15 o15 b16 o16 b17 o17 b18 o18 b19 o19 b20 o20 b21 o21 b22 o22 b23 o23 : Nat} {v0 v1 v2 v3 v4 v5 v6 v7 v8 v9 v10 v11 v12 v13 v14 v15 v16 v17 v18 v19 v20 v21 v22 v23 : Value} (h : w.cell? ⟨b0, o0, none⟩ = some v0 ∧ w.cell? ⟨b1, o1, none⟩ = some v1 ∧ w.cell? ⟨b2, o2, none⟩ = some v2 ∧ w.cell? ⟨b3, o3, none⟩ = some v3 ∧ w.cell? ⟨b4, o4, none⟩ = some v4 ∧ w.cell? ⟨b5, o5, none⟩ = some v5 ∧ w.cell? ⟨b6, o6, none⟩ = some v6 ∧ w.cell? ⟨b7, o7, none⟩ = some v7 ∧ w.cell? ⟨b8, o8, none⟩ = some v8 ∧ w.cell? ⟨b9, o9, none⟩ = some v9 ∧ w.cell? ⟨b10, o10, none⟩ = some v10 ∧ w.cell? ⟨b11, o11, none⟩ = some v11 ∧ w.cell? ⟨b12, o12, none⟩ = some v12 ∧ w.cell? ⟨b13, o13, none⟩ = some v13 ∧ w.cell? ⟨b14, o14, none⟩ = some v14 ∧ w.cell? ⟨b15, o15, none⟩ = some v15 ∧ w.cell? ⟨b16, o16, none⟩ = some v16 ∧ w.cell? ⟨b17, o17, none⟩ = some v17 ∧ w.cell? ⟨b18, o18, none⟩ = some v18 ∧ w.cell? ⟨b19, o19, none⟩ = some v19 ∧ w.cell? ⟨b20, o20, none⟩ = some v20 ∧ w.cell? ⟨b21, o21, none⟩ = some v21 ∧ w.cell? ⟨b22, o22, none⟩ = some v22 ∧ w.cell? ⟨b23, o23, none⟩ = some v23) : b0 < w.heap.size ∧ b1 < w.heap.size ∧ b2 < w.heap.size ∧ b3 < w.heap.size ∧ b4 < w.heap.size ∧ b5 < w.heap.size ∧ b6 < w.heap.size ∧ b7 < w.heap.size ∧ b8 < w.heap.size ∧ b9 < w.heap.size ∧ b10 < w.heap.size ∧ b11 < w.heap.size ∧ b12 < w.heap.size ∧ b13 < w.heap.size ∧ b14 < w.heap.size ∧ b15 < w.heap.size ∧ b16 < w.heap.size ∧ b17 < w.heap.size ∧ b18 < w.heap.size ∧ b19 < w.heap.size ∧ b20 < w.heap.size ∧ b21 < w.heap.size ∧ b22 < w.heap.size ∧ b23 < w.heap.size :=
  ⟨lt_of_cell h.1, lts23 h.2⟩
theorem keep25 {w w1 : World} {p0 p1 p2 p3 p4 p5 p6 p7 p8 p9 p10 p11 p12 p13 p14 p15 p16 p17 p18 p19 p20 p21 p22 p23 p24 : Addr} {v0 v1 v2 v3 v4 v5 v6 v7 v8 v9 v10 v11 v12 v13 v14 v15 v16 v17 v18 v19 v20 v21 v22 v23 v24 : Value} (hk : Keeps w w1) (h : w.cell? p0 = some v0 ∧ w.cell? p1 = some v1 ∧ w.cell? p2 = some v2 ∧ w.cell? p3 = some v3 ∧ w.cell? p4 = some v4 ∧ w.cell? p5 = some v5 ∧ w.cell? p6 = some v6 ∧ w.cell? p7 = some v7 ∧ w.cell? p8 = some v8 ∧ w.cell? p9 = some v9 ∧ w.cell? p10 = some v10 ∧ w.cell? p11 = some v11 ∧ w.cell? p12 = some v12 ∧ w.cell? p13 = some v13 ∧ w.cell? p14 = some v14 ∧ w.cell? p15 = some v15 ∧ w.cell? p16 = some v16 ∧ w.cell? p17 = some v17 ∧ w.cell? p18 = some v18 ∧ w.cell? p19 = some v19 ∧ w.cell? p20 = some v20 ∧ w.cell? p21 = some v21 ∧ w.cell? p22 = some v22 ∧ w.cell? p23 = some v23 ∧ w.cell? p24 = some v24) : w1.cell? p0 = some v0 ∧ w1.cell? p1 = some v1 ∧ w1.cell? p2 = some v2 ∧ w1.cell? p3 = some v3 ∧ w1.cell? p4 = some v4 ∧ w1.cell? p5 = some v5 ∧ w1.cell? p6 = some v6 ∧ w1.cell? p7 = some v7 ∧ w1.cell? p8 = some v8 ∧ w1.cell? p9 = some v9 ∧ w1.cell? p10 = some v10 ∧ w1.cell? p11 = some v11 ∧ w1.cell? p12 = some v12 ∧ w1.cell? p13 = some v13 ∧ w1.cell? p14 = some v14 ∧ w1.cell? p15 = some v15 ∧ w1.cell? p16 = some v16 ∧ w1.cell? p17 = some v17 ∧ w1.cell? p18 = some v18 ∧ w1.cell? p19 = some v19 ∧ w1.cell? p20 = some v20 ∧ w1.cell? p21 = some v21 ∧ w1.cell? p22 = some v22 ∧ w1.cell? p23 = some v23 ∧ w1.cell? p24 = some v24 :=
  ⟨keep1 hk h.1, keep24 hk h.2⟩
theorem lts25 {w : World} {b0 o0 b1 o1 b2 o2 b3 o3 b4 o4 b5 o5 b6 o6 b7 o7 b8 o8 b9 o9 b10 o10 b11 o11 b12 o12 b13 o13 b14 o14 b15 o15 b16 o16 b17 o17 b18 o18 b19 o19 b20 o20 b21 o21 b22 o22 b23 o23 b24 o24 : Nat} {v0 v1 v2 v3 v4 v5 v6 v7 v8 v9 v10 v11 v12 v13 v14 v15 v16 v17 v18 v19 v20 v21 v22 v23 v24 : Value} (h : w.cell? ⟨b0, o0, none⟩ = some v0 ∧ w.cell? ⟨b1, o1, none⟩ = some v1 ∧ w.cell? ⟨b2, o2, none⟩ = some v2 ∧ w.cell? ⟨b3, o3, none⟩ = some v3 ∧ w.cell? ⟨b4, o4, none⟩ = some v4 ∧ w.cell? ⟨b5, o5, none⟩ = some v5 ∧ w.cell? ⟨b6, o6, none⟩ = some v6 ∧ w.cell? ⟨b7, o7, none⟩ = some v7 ∧ w.cell? ⟨b8, o8, none⟩ = some v8 ∧ w.cell? ⟨b9, o9, none⟩ = some v9 ∧ w.cell? ⟨b10, o10, none⟩ = some v10 ∧ w.cell? ⟨b11, o11, none⟩ = some v11 ∧ w.cell? ⟨b12, o12, none⟩ = some v12 ∧ w.cell? ⟨b13, o13, none⟩ = some v13 ∧ w.cell? ⟨b14, o14, none⟩ = some v14 ∧ w.cell? ⟨b15, o15, none⟩ = some v15 ∧ w.cell? ⟨b16, o16, none⟩ = some v16 ∧ w.cell? ⟨b17, o17, none⟩ = some v17 ∧ w.cell? ⟨b18, o18, none⟩ = some v18 ∧ w.cell? ⟨b19, o19, none⟩ = some v19 ∧ w.cell? ⟨b20, o20, none⟩ = some v20 ∧ w.cell? ⟨b21, o21, none⟩ = some v21 ∧ w.cell? ⟨b22, o22, none⟩ = some v22 ∧ w.cell? ⟨b23, o23, none⟩ = some v23 ∧ w.cell? ⟨b24, o24, none⟩ = some v24) : b0 < w.heap.size ∧ b1 < w.heap.size ∧ b2 < w.heap.size ∧ b3 < w.heap.size ∧ b4 < w.heap.size ∧ b5 < w.heap.size ∧ b6 < w.heap.size ∧ b7 < w.heap.size ∧ b8 < w.heap.size ∧ b9 < w.heap.size ∧ b10 < w.heap.size ∧ b11 < w.heap.size ∧ b12 < w.heap.size ∧ b13 < w.heap.size ∧ b14 < w.heap.size ∧ b15 < w.heap.size ∧ b16 < w.heap.size ∧ b17 < w.heap.size ∧ b18 < w.heap.size ∧ b19 < w.heap.size ∧ b20 < w.heap.size ∧ b21 < w.heap.size ∧ b22 < w.heap.size ∧ b23 < w.heap.size ∧ b24 < w.heap.size :=
  ⟨lt_of_cell h.1, lts24 h.2⟩
theorem keep26 {w w1 : World} {p0 p1 p2 p3 p4 p5 p6 p7 p8 p9 p10 p11 p12 p13 p14 p15 p16 p17 p18 p19 p20 p21 p22 p23 p24 p25 : Addr} {v0 v1 v2 v3 v4 v5 v6 v7 v8 v9 v10 v11 v12 v13 v14 v15 v16 v17 v18 v19 v20 v21 v22 v23 v24 v25 : Value} (hk : Keeps w w1) (h : w.cell? p0 = some v0 ∧ w.cell? p1 = some v1 ∧ w.cell? p2 = some v2 ∧ w.cell? p3 = some v3 ∧ w.cell? p4 = some v4 ∧ w.cell? p5 = some v5 ∧ w.cell? p6 = some v6 ∧ w.cell? p7 = some v7 ∧ w.cell? p8 = some v8 ∧ w.cell? p9 = some v9 ∧ w.cell? p10 = some v10 ∧ w.cell? p11 = some v11 ∧ w.cell? p12 = some v12 ∧ w.cell? p13 = some v13 ∧ w.cell? p14 = some v14 ∧ w.cell? p15 = some v15 ∧ w.cell? p16 = some v16 ∧ w.cell? p17 = some v17 ∧ w.cell? p18 = some v18 ∧ w.cell? p19 = some v19 ∧ w.cell? p20 = some v20 ∧ w.cell? p21 = some v21 ∧ w.cell? p22 = some v22 ∧ w.cell? p23 = some v23 ∧ w.cell? p24 = some v24 ∧ w.cell? p25 = some v25) : w1.cell? p0 = some v0 ∧ w1.cell? p1 = some v1 ∧ w1.cell? p2 = some v2 ∧ w1.cell? p3 = some v3 ∧ w1.cell? p4 = some v4 ∧ w1.cell? p5 = some v5 ∧ w1.cell? p6 = some v6 ∧ w1.cell? p7 = some v7 ∧ w1.cell? p8 = some v8 ∧ w1.cell? p9 = some v9 ∧ w1.cell? p10 = some v10 ∧ w1.cell? p11 = some v11 ∧ w1.cell? p12 = some v12 ∧ w1.cell? p13 = some v13 ∧ w1.cell? p14 = some v14 ∧ w1.cell? p15 = some v15 ∧ w1.cell? p16 = some v16 ∧ w1.cell? p17 = some v17 ∧ w1.cell? p18 = some v18 ∧ w1.cell? p19 = some v19 ∧ w1.cell? p20 = some v20 ∧ w1.cell? p21 = some v21 ∧ w1.cell? p22 = some v22 ∧ w1.cell? p23 = some v23 ∧ w1.cell? p24 = some v24 ∧ w1.cell? p25 = some v25 :=
  ⟨keep1 hk h.1, keep25 hk h.2⟩
theorem lts26 {w : World} {b0 o0 b1 o1 b2 o2 b3 o3 b4 o4 b5 o5 b6 o6 b7 o7 b8 o8 b9 o9 b10 o10 b11 o11 b12 o12 b13 o13 b14 o14 b15 o15 b16 o16 b17 o17 b18 o18 b19 o19 b20 o20 b21 o21 b22 o22 b23 o23 b24 o24 b25 o25 : Nat} {v0 v1 v2 v3 v4 v5 v6 v7 v8 v9 v10 v11 v12 v13 v14 v15 v16 v17 v18 v19 v20 v21 v22 v23 v24 v25 : Value} (h : w.cell? ⟨b0, o0, none⟩ = some v0 ∧ w.cell? ⟨b1, o1, none⟩ = some v1 ∧ w.cell? ⟨b2, o2, none⟩ = some v2 ∧ w.cell? ⟨b3, o3, none⟩ = some v3 ∧ w.cell? ⟨b4, o4, none⟩ = some v4 ∧ w.cell? ⟨b5, o5, none⟩ = some v5 ∧ w.cell? ⟨b6, o6, none⟩ = some v6 ∧ w.cell? ⟨b7, o7, none⟩ = some v7 ∧ w.cell? ⟨b8, o8, none⟩ = some v8 ∧ w.cell? ⟨b9, o9, none⟩ = some v9 ∧ w.cell? ⟨b10, o10, none⟩ = some v10 ∧ w.cell? ⟨b11, o11, none⟩ = some v11 ∧ w.cell? ⟨b12, o12, none⟩ = some v12 ∧ w.cell? ⟨b13, o13, none⟩ = some v13 ∧ w.cell? ⟨b14, o14, none⟩ = some v14 ∧ w.cell? ⟨b15, o15, none⟩ = some v15 ∧ w.cell? ⟨b16, o16, none⟩ = some v16 ∧ w.cell? ⟨b17, o17, none⟩ = some v17 ∧ w.cell? ⟨b18, o18, none⟩ = some v18 ∧ w.cell? ⟨b19, o19, none⟩ = some v19 ∧ w.cell? ⟨b20, o20, none⟩ = some v20 ∧ w.cell? ⟨b21, o21, none⟩ = some v21 ∧ w.cell? ⟨b22, o22, none⟩ = some v22 ∧ w.cell? ⟨b23, o23, none⟩ = some v23 ∧ w.cell? ⟨b24, o24, none⟩ = some v24 ∧ w.cell? ⟨b25, o25, none⟩ = some v25) : b0 < w.heap.size ∧ b1 < w.heap.size ∧ b2 < w.heap.size ∧ b3 < w.heap.size ∧ b4 < w.heap.size ∧ b5 < w.heap.size ∧ b6 < w.heap.size ∧ b7 < w.heap.size ∧ b8 < w.heap.size ∧ b9 < w.heap.size ∧ b10 < w.heap.size ∧ b11 < w.heap.size ∧ b12 < w.heap.size ∧ b13 < w.heap.size ∧ b14 < w.heap.size ∧ b15 < w.heap.size ∧ b16 < w.heap.size ∧ b17 < w.heap.size ∧ b18 < w.heap.size ∧ b19 < w.heap.size ∧ b20 < w.heap.size ∧ b21 < w.heap.size ∧ b22 < w.heap.size ∧ b23 < w.heap.size ∧ b24 < w.heap.size ∧ b25 < w.heap.size :=
  ⟨lt_of_cell h.1, lts25 h.2⟩
theorem keep27 {w w1 : World} {p0 p1 p2 p3 p4 p5 p6 p7 p8 p9 p10 p11 p12 p13 p14 p15 p16 p17 p18 p19 p20 p21 p22 p23 p24 p25 p26 : Addr} {v0 v1 v2 v3 v4 v5 v6 v7 v8 v9 v10 v11 v12 v13 v14 v15 v16 v17 v18 v19 v20 v21 v22 v23 v24 v25 v26 : Value} (hk : Keeps w w1) (h : w.cell? p0 = some v0 ∧ w.cell? p1 = some v1 ∧ w.cell? p2 = some v2 ∧ w.cell? p3 = some v3 ∧ w.cell? p4 = some v4 ∧ w.cell? p5 = some v5 ∧ w.cell? p6 = some v6 ∧ w.cell? p7 = some v7 ∧ w.cell? p8 = some v8 ∧ w.cell? p9 = some v9 ∧ w.cell? p10 = some v10 ∧ w.cell? p11 = some v11 ∧ w.cell? p12 = some v12 ∧ w.cell? p13 = some v13 ∧ w.cell? p14 = some v14 ∧ w.cell? p15 = some v15 ∧ w.cell? p16 = some v16 ∧ w.cell? p17 = some v17 ∧ w.cell? p18 = some v18 ∧ w.cell? p19 = some v19 ∧ w.cell? p20 = some v20 ∧ w.cell? p21 = some v21 ∧ w.cell? p22 = some v22 ∧ w.cell? p23 = some v23 ∧ w.cell? p24 = some v24 ∧ w.cell? p25 = some v25 ∧ w.cell? p26 = some v26) : w1.cell? p0 = some v0 ∧ w1.cell? p1 = some v1 ∧ w1.cell? p2 = some v2 ∧ w1.cell? p3 = some v3 ∧ w1.cell? p4 = some v4 ∧ w1.cell? p5 = some v5 ∧ w1.cell? p6 = some v6 ∧ w1.cell? p7 = some v7 ∧ w1.cell? p8 = some v8 ∧ w1.cell? p9 = some v9 ∧ w1.cell? p10 = some v10 ∧ w1.cell? p11 = some v11 ∧ w1.cell? p12 = some v12 ∧ w1.cell? p13 = some v13 ∧ w1.cell? p14 = some v14 ∧ w1.cell? p15 = some v15 ∧ w1.cell? p16 = some v16 ∧ w1.cell? p17 = some v17 ∧ w1.cell? p18 = some v18 ∧ w1.cell? p19 = some v19 ∧ w1.cell? p20 = some v20 ∧ w1.cell? p21 = some v21 ∧ w1.cell? p22 = some v22 ∧ w1.cell? p23 = some v23 ∧ w1.cell? p24 = some v24 ∧ w1.cell? p25 = some v25 ∧ w1.cell? p26 = some v26 :=
  ⟨keep1 hk h.1, keep26 hk h.2⟩
theorem lts27 {w : World} {b0 o0 b1 o1 b2 o2 b3 o3 b4 o4 b5 o5 b6 o6 b7 o7 b8 o8 b9 o9 b10 o10 b11 o11 b12 o12 b13 o13 b14 o14 b15 o15 b16 o16 b17 o17 b18 o18 b19 o19 b20 o20 b21 o21 b22 o22 b23 o23 b24 o24 b25 o25 b26 o26 : Nat} {v0 v1 v2 v3 v4 v5 v6 v7 v8 v9 v10 v11 v12 v13 v14 v15 v16 v17 v18 v19 v20 v21 v22 v23 v24 v25 v26 : Value} (h : w.cell? ⟨b0, o0, none⟩ = some v0 ∧ w.cell? ⟨b1, o1, none⟩ = some v1 ∧ w.cell? ⟨b2, o2, none⟩ = some v2 ∧ w.cell? ⟨b3, o3, none⟩ = some v3 ∧ w.cell? ⟨b4, o4, none⟩ = some v4 ∧ w.cell? ⟨b5, o5, none⟩ = some v5 ∧ w.cell? ⟨b6, o6, none⟩ = some v6 ∧ w.cell? ⟨b7, o7, none⟩ = some v7 ∧ w.cell? ⟨b8, o8, none⟩ = some v8 ∧ w.cell? ⟨b9, o9, none⟩ = some v9 ∧ w.cell? ⟨b10, o10, none⟩ = some v10 ∧ w.cell? ⟨b11, o11, none⟩ = some v11 ∧ w.cell? ⟨b12, o12, none⟩ = some v12 ∧ w.cell? ⟨b13, o13, none⟩ = some v13 ∧ w.cell? ⟨b14, o14, none⟩ = some v14 ∧ w.cell? ⟨b15, o15, none⟩ = some v15 ∧ w.cell? ⟨b16, o16, none⟩ = some v16 ∧ w.cell? ⟨b17, o17, none⟩ = some v17 ∧ w.cell? ⟨b18, o18, none⟩ = some v18 ∧ w.cell? ⟨b19, o19, none⟩ = some v19 ∧ w.cell? ⟨b20, o20, none⟩ = some v20 ∧ w.cell? ⟨b21, o21, none⟩ = some v21 ∧ w.cell? ⟨b22, o22, none⟩ = some v22 ∧ w.cell? ⟨b23, o23, none⟩ = some v23 ∧ w.cell? ⟨b24, o24, none⟩ = some v24 ∧ w.cell? ⟨b25, o25, none⟩ = some v25 ∧ w.cell? ⟨b26, o26, none⟩ = some v26) : b0 < w.heap.size ∧ b1 < w.heap.size ∧ b2 < w.heap.size ∧ b3 < w.heap.size ∧ b4 < w.heap.size ∧ b5 < w.heap.size ∧ b6 < w.heap.size ∧ b7 < w.heap.size ∧ b8 < w.heap.size ∧ b9 < w.heap.size ∧ b10 < w.heap.size ∧ b11 < w.heap.size ∧ b12 < w.heap.size ∧ b13 < w.heap.size ∧ b14 < w.heap.size ∧ b15 < w.heap.size ∧ b16 < w.heap.size ∧ b17 < w.heap.size ∧ b18 < w.heap.size ∧ b19 < w.heap.size ∧ b20 < w.heap.size ∧ b21 < w.heap.size ∧ b22 < w.heap.size ∧ b23 < w.heap.size ∧ b24 < w.heap.size ∧ b25 < w.heap.size ∧ b26 < w.heap.size :=
  ⟨lt_of_cell h.1, lts26 h.2⟩
theorem keep28 {w w1 : World} {p0 p1 p2 p3 p4 p5 p6 p7 p8 p9 p10 p11 p12 p13 p14 p15 p16 p17 p18 p19 p20 p21 p22 p23 p24 p25 p26 p27 : Addr} {v0 v1 v2 v3 v4 v5 v6 v7 v8 v9 v10 v11 v12 v13 v14 v15 v16 v17 v18 v19 v20 v21 v22 v23 v24 v25 v26 v27 : Value} (hk : Keeps w w1) (h : w.cell? p0 = some v0 ∧ w.cell? p1 = some v1 ∧ w.cell? p2 = some v2 ∧ w.cell? p3 = some v3 ∧ w.cell? p4 = some v4 ∧ w.cell? p5 = some v5 ∧ w.cell? p6 = some v6 ∧ w.cell? p7 = some v7 ∧ w.cell? p8 = some v8 ∧ w.cell? p9 = some v9 ∧ w.cell? p10 = some v10 ∧ w.cell? p11 = some v11 ∧ w.cell? p12 = some v12 ∧ w.cell? p13 = some v13 ∧ w.cell? p14 = some v14 ∧ w.cell? p15 = some v15 ∧ w.cell? p16 = some v16 ∧ w.cell? p17 = some v17 ∧ w.cell? p18 = some v18 ∧ w.cell? p19 = some v19 ∧ w.cell? p20 = some v20 ∧ w.cell? p21 = some v21 ∧ w.cell? p22 = some v22 ∧ w.cell? p23 = some v23 ∧ w.cell? p24 = some v24 ∧ w.cell? p25 = some v25 ∧ w.cell? p26 = some v26 ∧ w.cell? p27 = some v27) : w1.cell? p0 = some v0 ∧ w1.cell? p1 = some v1 ∧ w1.cell? p2 = some v2 ∧ w1.cell? p3 = some v3 ∧ w1.cell? p4 = some v4 ∧ w1.cell? p5 = some v5 ∧ w1.cell? p6 = some v6 ∧ w1.cell? p7 = some v7 ∧ w1.cell? p8 = some v8 ∧ w1.cell? p9 = some v9 ∧ w1.cell? p10 = some v10 ∧ w1.cell? p11 = some v11 ∧ w1.cell? p12 = some v12 ∧ w1.cell? p13 = some v13 ∧ w1.cell? p14 = some v14 ∧ w1.cell? p15 = some v15 ∧ w1.cell? p16 = some v16 ∧ w1.cell? p17 = some v17 ∧ w1.cell? p18 = some v18 ∧ w1.cell? p19 = some v19 ∧ w1.cell? p20 = some v20 ∧ w1.cell? p21 = some v21 ∧ w1.cell? p22 = some v22 ∧ w1.cell? p23 = some v23 ∧ w1.cell? p24 = some v24 ∧ w1.cell? p25 = some v25 ∧ w1.cell? p26 = some v26 ∧ w1.cell? p27 = some v27 :=
  ⟨keep1 hk h.1, keep27 hk h.2⟩
theorem lts28 {w : World} {b0 o0 b1 o1 b2 o2 b3 o3 b4 o4 b5 o5 b6 o6 b7 o7 b8 o8 b9 o9 b10 o10 b11 o11 b12 o12 b13 o13 b14 o14 b15 o15 b16 o16 b17 o17 b18 o18 b19 o19 b20 o20 b21 o21 b22 o22 b23 o23 b24 o24 b25 o25 b26 o26 b27 o27 : Nat} {v0 v1 v2 v3 v4 v5 v6 v7 v8 v9 v10 v11 v12 v13 v14 v15 v16 v17 v18 v19 v20 v21 v22 v23 v24 v25 v26 v27 : Value} (h : w.cell? ⟨b0, o0, none⟩ = some v0 ∧ w.cell? ⟨b1, o1, none⟩ = some v1 ∧ w.cell? ⟨b2, o2, none⟩ = some v2 ∧ w.cell? ⟨b3, o3, none⟩ = some v3 ∧ w.cell? ⟨b4, o4, none⟩ = some v4 ∧ w.cell? ⟨b5, o5, none⟩ = some v5 ∧ w.cell? ⟨b6, o6, none⟩ = some v6 ∧ w.cell? ⟨b7, o7, none⟩ = some v7 ∧ w.cell? ⟨b8, o8, none⟩ = some v8 ∧ w.cell? ⟨b9, o9, none⟩ = some v9 ∧ w.cell? ⟨b10, o10, none⟩ = some v10 ∧ w.cell? ⟨b11, o11, none⟩ = some v11 ∧ w.cell? ⟨b12, o12, none⟩ = some v12 ∧ w.cell? ⟨b13, o13, none⟩ = some v13 ∧ w.cell? ⟨b14, o14, none⟩ = some v14 ∧ w.cell? ⟨b15, o15, none⟩ = some v15 ∧ w.cell? ⟨b16, o16, none⟩ = some v16 ∧ w.cell? ⟨b17, o17, none⟩ = some v17 ∧ w.cell? ⟨b18, o18, none⟩ = some v18 ∧ w.cell? ⟨b19, o19, none⟩ = some v19 ∧ w.cell? ⟨b20, o20, none⟩ = some v20 ∧ w.cell? ⟨b21, o21, none⟩ = some v21 ∧ w.cell? ⟨b22, o22, none⟩ = some v22 ∧ w.cell? ⟨b23, o23, none⟩ = some v23 ∧ w.cell? ⟨b24, o24, none⟩ = some v24 ∧ w.cell? ⟨b25, o25, none⟩ = some v25 ∧ w.cell? ⟨b26, o26, none⟩ = some v26 ∧ w.cell? ⟨b27, o27, none⟩ = some v27) : b0 < w.heap.size ∧ b1 < w.heap.size ∧ b2 < w.heap.size ∧ b3 < w.heap.size ∧ b4 < w.heap.size ∧ b5 < w.heap.size ∧ b6 < w.heap.size ∧ b7 < w.heap.size ∧ b8 < w.heap.size ∧ b9 < w.heap.size ∧ b10 < w.heap.size ∧ b11 < w.heap.size ∧ b12 < w.heap.size ∧ b13 < w.heap.size ∧ b14 < w.heap.size ∧ b15 < w.heap.size ∧ b16 < w.heap.size ∧ b17 < w.heap.size ∧ b18 < w.heap.size ∧ b19 < w.heap.size ∧ b20 < w.heap.size ∧ b21 < w.heap.size ∧ b22 < w.heap.size ∧ b23 < w.heap.size ∧ b24 < w.heap.size ∧ b25 < w.heap.size ∧ b26 < w.heap.size ∧ b27 < w.heap.size :=
  ⟨lt_of_cell h.1, lts27 h.2⟩
theorem keep29 {w w1 : World} {p0 p1 p2 p3 p4 p5 p6 p7 p8 p9 p10 p11 p12 p13 p14 p15 p16 p17 p18 p19 p20 p21 p22 p23 p24 p25 p26 p27 p28 : Addr} {v0 v1 v2 v3 v4 v5 v6 v7 v8 v9 v10 v11 v12 v13 v14 v15 v16 v17 v18 v19 v20 v21 v22 v23 v24 v25 v26 v27 v28 : Value} (hk : Keeps w w1) (h : w.cell? p0 = some v0 ∧ w.cell? p1 = some v1 ∧ w.cell? p2 = some v2 ∧ w.cell? p3 = some v3 ∧ w.cell? p4 = some v4 ∧ w.cell? p5 = some v5 ∧ w.cell? p6 = some v6 ∧ w.cell? p7 = some v7 ∧ w.cell? p8 = some v8 ∧ w.cell? p9 = some v9 ∧ w.cell? p10 = some v10 ∧ w.cell? p11 = some v11 ∧ w.cell? p12 = some v12 ∧ w.cell? p13 = some v13 ∧ w.cell? p14 = some v14 ∧ w.cell? p15 = some v15 ∧ w.cell? p16 = some v16 ∧ w.cell? p17 = some v17 ∧ w.cell? p18 = some v18 ∧ w.cell? p19 = some v19 ∧ w.cell? p20 = some v20 ∧ w.cell? p21 = some v21 ∧ w.cell? p22 = some v22 ∧ w.cell? p23 = some v23 ∧ w.cell? p24 = some v24 ∧ w.cell? p25 = some v25 ∧ w.cell? p26 = some v26 ∧ w.cell? p27 = some v27 ∧ w.cell? p28 = some v28) : w1.cell? p0 = some v0 ∧ w1.cell? p1 = some v1 ∧ w1.cell? p2 = some v2 ∧ w1.cell? p3 = some v3 ∧ w1.cell? p4 = some v4 ∧ w1.cell? p5 = some v5 ∧ w1.cell? p6 = some v6 ∧ w1.cell? p7 = some v7 ∧ w1.cell? p8 = some v8 ∧ w1.cell? p9 = some v9 ∧ w1.cell? p10 = some v10 ∧ w1.cell? p11 = some v11 ∧ w1.cell? p12 = some v12 ∧ w1.cell? p13 = some v13 ∧ w1.cell? p14 = some v14 ∧ w1.cell? p15 = some v15 ∧ w1.cell? p16 = some v16 ∧ w1.cell? p17 = some v17 ∧ w1.cell? p18 = some v18 ∧ w1.cell? p19 = some v19 ∧ w1.cell? p20 = some v20 ∧ w1.cell? p21 = some v21 ∧ w1.cell? p22 = some v22 ∧ w1.cell? p23 = some v23 ∧ w1.cell? p24 = some v24 ∧ w1.cell? p25 = some v25 ∧ w1.cell? p26 = some v26 ∧ w1.cell? p27 = some v27 ∧ w1.cell? p28 = some v28 :=
  ⟨keep1 hk h.1, keep28 hk h.2⟩
theorem lts29 {w : World} {b0 o0 b1 o1 b2 o2 b3 o3 b4 o4 b5 o5 b6 o6 b7 o7 b8 o8 b9 o9 b10 o10 b11 o11 b12 o12 b13 o13 b14 o14 b15 o15 b16 o16 b17 o17 b18 o18 b19 o19 b20 o20 b21 o21 b22 o22 b23 o23 b24 o24 b25 o25 b26 o26 b27 o27 b28 o28 : Nat} {v0 v1 v2 v3 v4 v5 v6 v7 v8 v9 v10 v11 v12 v13 v14 v15 v16 v17 v18 v19 v20 v21 v22 v23 v24 v25 v26 v27 v28 : Value} (h : w.cell? ⟨b0, o0, none⟩ = some v0 ∧ w.cell? ⟨b1, o1, none⟩ = some v1 ∧ w.cell? ⟨b2, o2, none⟩ = some v2 ∧ w.cell? ⟨b3, o3, none⟩ = some v3 ∧ w.cell? ⟨b4, o4, none⟩ = some v4 ∧ w.cell? ⟨b5, o5, none⟩ = some v5 ∧ w.cell? ⟨b6, o6, none⟩ = some v6 ∧ w.cell? ⟨b7, o7, none⟩ = some v7 ∧ w.cell? ⟨b8, o8, none⟩ = some v8 ∧ w.cell? ⟨b9, o9, none⟩ = some v9 ∧ w.cell? ⟨b10, o10, none⟩ = some v10 ∧ w.cell? ⟨b11, o11, none⟩ = some v11 ∧ w.cell? ⟨b12, o12, none⟩ = some v12 ∧ w.cell? ⟨b13, o13, none⟩ = some v13 ∧ w.cell? ⟨b14, o14, none⟩ = some v14 ∧ w.cell? ⟨b15, o15, none⟩ = some v15 ∧ w.cell? ⟨b16, o16, none⟩ = some v16 ∧ w.cell? ⟨b17, o17, none⟩ = some v17 ∧ w.cell? ⟨b18, o18, none⟩ = some v18 ∧ w.cell? ⟨b19, o19, none⟩ = some v19 ∧ w.cell? ⟨b20, o20, none⟩ = some v20 ∧ w.cell? ⟨b21, o21, none⟩ = some v21 ∧ w.cell? ⟨b22, o22, none⟩ = some v22 ∧ w.cell? ⟨b23, o23, none⟩ = some v23 ∧ w.cell? ⟨b24, o24, none⟩ = some v24 ∧ w.cell? ⟨b25, o25, none⟩ = some v25 ∧ w.cell? ⟨b26, o26, none⟩ = some v26 ∧ w.cell? ⟨b27, o27, none⟩ = some v27 ∧ w.cell? ⟨b28, o28, none⟩ = some v28) : b0 < w.heap.size ∧ b1 < w.heap.size ∧ b2 < w.heap.size ∧ b3 < w.heap.size ∧ b4 < w.heap.size ∧ b5 < w.heap.size ∧ b6 < w.heap.size ∧ b7 < w.heap.size ∧ b8 < w.heap.size ∧ b9 < w.heap.size ∧ b10 < w.heap.size ∧ b11 < w.heap.size ∧ b12 < w.heap.size ∧ b13 < w.heap.size ∧ b14 < w.heap.size ∧ b15 < w.heap.size ∧ b16 < w.heap.size ∧ b17 < w.heap.size ∧ b18 < w.heap.size ∧ b19 < w.heap.size ∧ b20 < w.heap.size ∧ b21 < w.heap.size ∧ b22 < w.heap.size ∧ b23 < w.heap.size ∧ b24 < w.heap.size ∧ b25 < w.heap.size ∧ b26 < w.heap.size ∧ b27 < w.heap.size ∧ b28 < w.heap.size :=
  ⟨lt_of_cell h.1, lts28 h.2⟩
theorem keep30 {w w1 : World} {p0 p1 p2 p3 p4 p5 p6 p7 p8 p9 p10 p11 p12 p13 p14 p15 p16 p17 p18 p19 p20 p21 p22 p23 p24 p25 p26 p27 p28 p29 : Addr} {v0 v1 v2 v3 v4 v5 v6 v7 v8 v9 v10 v11 v12 v13 v14 v15 v16 v17 v18 v19 v20 v21 v22 v23 v24 v25 v26 v27 v28 v29 : Value} (hk : Keeps w w1) (h : w.cell? p0 = some v0 ∧ w.cell? p1 = some v1 ∧ w.cell? p2 = some v2 ∧ w.cell? p3 = some v3 ∧ w.cell? p4 = some v4 ∧ w.cell? p5 = some v5 ∧ w.cell? p6 = some v6 ∧ w.cell? p7 = some v7 ∧ w.cell? p8 = some v8 ∧ w.cell? p9 = some v9 ∧ w.cell? p10 = some v10 ∧ w.cell? p11 = some v11 ∧ w.cell? p12 = some v12 ∧ w.cell? p13 = some v13 ∧ w.cell? p14 = some v14 ∧ w.cell? p15 = some v15 ∧ w.cell? p16 = some v16 ∧ w.cell? p17 = some v17 ∧ w.cell? p18 = some v18 ∧ w.cell? p19 = some v19 ∧ w.cell? p20 = some v20 ∧ w.cell? p21 = some v21 ∧ w.cell? p22 = some v22 ∧ w.cell? p23 = some v23 ∧ w.cell? p24 = some v24 ∧ w.cell? p25 = some v25 ∧ w.cell? p26 = some v26 ∧ w.cell? p27 = some v27 ∧ w.cell? p28 = some v28 ∧ w.cell? p29 = some v29) : w1.cell? p0 = some v0 ∧ w1.cell? p1 = some v1 ∧ w1.cell? p2 = some v2 ∧ w1.cell? p3 = some v3 ∧ w1.cell? p4 = some v4 ∧ w1.cell? p5 = some v5 ∧ w1.cell? p6 = some v6 ∧ w1.cell? p7 = some v7 ∧ w1.cell? p8 = some v8 ∧ w1.cell? p9 = some v9 ∧ w1.cell? p10 = some v10 ∧ w1.cell? p11 = some v11 ∧ w1.cell? p12 = some v12 ∧ w1.cell? p13 = some v13 ∧ w1.cell? p14 = some v14 ∧ w1.cell? p15 = some v15 ∧ w1.cell? p16 = some v16 ∧ w1.cell? p17 = some v17 ∧ w1.cell? p18 = some v18 ∧ w1.cell? p19 = some v19 ∧ w1.cell? p20 = some v20 ∧ w1.cell? p21 = some v21 ∧ w1.cell? p22 = some v22 ∧ w1.cell? p23 = some v23 ∧ w1.cell? p24 = some v24 ∧ w1.cell? p25 = some v25 ∧ w1.cell? p26 = some v26 ∧ w1.cell? p27 = some v27 ∧ w1.cell? p28 = some v28 ∧ w1.cell? p29 = some v29 :=
  ⟨keep1 hk h.1, keep29 hk h.2⟩
theorem lts30 {w : World} {b0 o0 b1 o1 b2 o2 b3 o3 b4 o4 b5 o5 b6 o6 b7 o7 b8 o8 b9 o9 b10 o10 b11 o11 b12 o12 b13 o13 b14 o14 b15 o15 b16 o16 b17 o17 b18 o18 b19 o19 b20 o20 b21 o21 b22 o22 b23 o23 b24 o24 b25 o25 b26 o26 b27 o27 b28 o28 b29 o29 : Nat} {v0 v1 v2 v3 v4 v5 v6 v7 v8 v9 v10 v11 v12 v13 v14 v15 v16 v17 v18 v19 v20 v21 v22 v23 v24 v25 v26 v27 v28 v29 : Value} (h : w.cell? ⟨b0, o0, none⟩ = some v0 ∧ w.cell? ⟨b1, o1, none⟩ = some v1 ∧ w.cell? ⟨b2, o2, none⟩ = some v2 ∧ w.cell? ⟨b3, o3, none⟩ = some v3 ∧ w.cell? ⟨b4, o4, none⟩ = some v4 ∧ w.cell? ⟨b5, o5, none⟩ = some v5 ∧ w.cell? ⟨b6, o6, none⟩ = some v6 ∧ w.cell? ⟨b7, o7, none⟩ = some v7 ∧ w.cell? ⟨b8, o8, none⟩ = some v8 ∧ w.cell? ⟨b9, o9, none⟩ = some v9 ∧ w.cell? ⟨b10, o10, none⟩ = some v10 ∧ w.cell? ⟨b11, o11, none⟩ = some v11 ∧ w.cell? ⟨b12, o12, none⟩ = some v12 ∧ w.cell? ⟨b13, o13, none⟩ = some v13 ∧ w.cell? ⟨b14, o14, none⟩ = some v14 ∧ w.cell? ⟨b15, o15, none⟩ = some v15 ∧ w.cell? ⟨b16, o16, none⟩ = some v16 ∧ w.cell? ⟨b17, o17, none⟩ = some v17 ∧ w.cell? ⟨b18, o18, none⟩ = some v18 ∧ w.cell? ⟨b19, o19, none⟩ = some v19 ∧ w.cell? ⟨b20, o20, none⟩ = some v20 ∧ w.cell? ⟨b21, o21, none⟩ = some v21 ∧ w.cell? ⟨b22, o22, none⟩ = some v22 ∧ w.cell? ⟨b23, o23, none⟩ = some v23 ∧ w.cell? ⟨b24, o24, none⟩ = some v24 ∧ w.cell? ⟨b25, o25, none⟩ = some v25 ∧ w.cell? ⟨b26, o26, none⟩ = some v26 ∧ w.cell? ⟨b27, o27, none⟩ = some v27 ∧ w.cell? ⟨b28, o28, none⟩ = some v28 ∧ w.cell? ⟨b29, o29, none⟩ = some v29) : b0 < w.heap.size ∧ b1 < w.heap.size ∧ b2 < w.heap.size ∧ b3 < w.heap.size ∧ b4 < w.heap.size ∧ b5 < w.heap.size ∧ b6 < w.heap.size ∧ b7 < w.heap.size ∧ b8 < w.heap.size ∧ b9 < w.heap.size ∧ b10 < w.heap.size ∧ b11 < w.heap.size ∧ b12 < w.heap.size ∧ b13 < w.heap.size ∧ b14 < w.heap.size ∧ b15 < w.heap.size ∧ b16 < w.heap.size ∧ b17 < w.heap.size ∧ b18 < w.heap.size ∧ b19 < w.heap.size ∧ b20 < w.heap.size ∧ b21 < w.heap.size ∧ b22 < w.heap.size ∧ b23 < w.heap.size ∧ b24 < w.heap.size ∧ b25 < w.heap.size ∧ b26 < w.heap.size ∧ b27 < w.heap.size ∧ b28 < w.heap.size ∧ b29 < w.heap.size :=
  ⟨lt_of_cell h.1, lts29 h.2⟩
theorem keep31 {w w1 : World} {p0 p1 p2 p3 p4 p5 p6 p7 p8 p9 p10 p11 p12 p13 p14 p15 p16 p17 p18 p19 p20 p21 p22 p23 p24 p25 p26 p27 p28 p29 p30 : Addr} {v0 v1 v2 v3 v4 v5 v6 v7 v8 v9 v10 v11 v12 v13 v14 v15 v16 v17 v18 v19 v20 v21 v22 v23 v24 v25 v26 v27 v28 v29 v30 : Value} (hk : Keeps w w1) (h : w.cell? p0 = some v0 ∧ w.cell? p1 = some v1 ∧ w.cell? p2 = some v2 ∧ w.cell? p3 = some v3 ∧ w.cell? p4 = some v4 ∧ w.cell? p5 = some v5 ∧ w.cell? p6 = some v6 ∧ w.cell? p7 = some v7 ∧ w.cell? p8 = some v8 ∧ w.cell? p9 = some v9 ∧ w.cell? p10 = some v10 ∧ w.cell? p11 = some v11 ∧ w.cell? p12 = some v12 ∧ w.cell? p13 = some v13 ∧ w.cell? p14 = some v14 ∧ w.cell? p15 = some v15 ∧ w.cell? p16 = some v16 ∧ w.cell? p17 = some v17 ∧ w.cell? p18 = some v18 ∧ w.cell? p19 = some v19 ∧ w.cell? p20 = some v20 ∧ w.cell? p21 = some v21 ∧ w.cell? p22 = some v22 ∧ w.cell? p23 = some v23 ∧ w.cell? p24 = some v24 ∧ w.cell? p25 = some v25 ∧ w.cell? p26 = some v26 ∧ w.cell? p27 = some v27 ∧ w.cell? p28 = some v28 ∧ w.cell? p29 = some v29 ∧ w.cell? p30 = some v30) : w1.cell? p0 = some v0 ∧ w1.cell? p1 = some v1 ∧ w1.cell? p2 = some v2 ∧ w1.cell? p3 = some v3 ∧ w1.cell? p4 = some v4 ∧ w1.cell? p5 = some v5 ∧ w1.cell? p6 = some v6 ∧ w1.cell? p7 = some v7 ∧ w1.cell? p8 = some v8 ∧ w1.cell? p9 = some v9 ∧ w1.cell? p10 = some v10 ∧ w1.cell? p11 = some v11 ∧ w1.cell? p12 = some v12 ∧ w1.cell? p13 = some v13 ∧ w1.cell? p14 = some v14 ∧ w1.cell? p15 = some v15 ∧ w1.cell? p16 = some v16 ∧ w1.cell? p17 = some v17 ∧ w1.cell? p18 = some v18 ∧ w1.cell? p19 = some v19 ∧ w1.cell? p20 = some v20 ∧ w1.cell? p21 = some v21 ∧ w1.cell? p22 = some v22 ∧ w1.cell? p23 = some v23 ∧ w1.cell? p24 = some v24 ∧ w1.cell? p25 = some v25 ∧ w1.cell? p26 = some v26 ∧ w1.cell? p27 = some v27 ∧ w1.cell? p28 = some v28 ∧ w1.cell? p29 = some v29 ∧ w1.cell? p30 = some v30 :=
  ⟨keep1 hk h.1, keep30 hk h.2⟩
theorem lts31 {w : World} {b0 o0 b1 o1 b2 o2 b3 o3 b4 o4 b5 o5 b6 o6 b7 o7 b8 o8 b9 o9 b10 o10 b11 o11 b12 o12 b13 o13 b14 o14 b15 o15 b16 o16 b17 o17 b18 o18 b19 o19 b20 o20 b21 o21 b22 o22 b23 o23 b24 o24 b25 o25 b26 o26 b27 o27 b28 o28 b29 o29 b30 o30 : Nat} {v0 v1 v2 v3 v4 v5 v6 v7 v8 v9 v10 v11 v12 v13 v14 v15 v16 v17 v18 v19 v20 v21 v22 v23 v24 v25 v26 v27 v28 v29 v30 : Value} (h : w.cell? ⟨b0, o0, none⟩ = some v0 ∧ w.cell? ⟨b1, o1, none⟩ = some v1 ∧ w.cell? ⟨b2, o2, none⟩ = some v2 ∧ w.cell? ⟨b3, o3, none⟩ = some v3 ∧ w.cell? ⟨b4, o4, none⟩ = some v4 ∧ w.cell? ⟨b5, o5, none⟩ = some v5 ∧ w.cell? ⟨b6, o6, none⟩ = some v6 ∧ w.cell? ⟨b7, o7, none⟩ = some v7 ∧ w.cell? ⟨b8, o8, none⟩ = some v8 ∧ w.cell? ⟨b9, o9, none⟩ = some v9 ∧ w.cell? ⟨b10, o10, none⟩ = some v10 ∧ w.cell? ⟨b11, o11, none⟩ = some v11 ∧ w.cell? ⟨b12, o12, none⟩ = some v12 ∧ w.cell? ⟨b13, o13, none⟩ = some v13 ∧ w.cell? ⟨b14, o14, none⟩ = some v14 ∧ w.cell? ⟨b15, o15, none⟩ = some v15 ∧ w.cell? ⟨b16, o16, none⟩ = some v16 ∧ w.cell? ⟨b17, o17, none⟩ = some v17 ∧ w.cell? ⟨b18, o18, none⟩ = some v18 ∧ w.cell? ⟨b19, o19, none⟩ = some v19 ∧ w.cell? ⟨b20, o20, none⟩ = some v20 ∧ w.cell? ⟨b21, o21, none⟩ = some v21 ∧ w.cell? ⟨b22, o22, none⟩ = some v22 ∧ w.cell? ⟨b23, o23, none⟩ = some v23 ∧ w.cell? ⟨b24, o24, none⟩ = some v24 ∧ w.cell? ⟨b25, o25, none⟩ = some v25 ∧ w.cell? ⟨b26, o26, none⟩ = some v26 ∧ w.cell? ⟨b27, o27, none⟩ = some v27 ∧ w.cell? ⟨b28, o28, none⟩ = some v28 ∧ w.cell? ⟨b29, o29, none⟩ = some v29 ∧ w.cell? ⟨b30, o30, none⟩ = some v30) : b0 < w.heap.size ∧ b1 < w.heap.size ∧ b2 < w.heap.size ∧ b3 < w.heap.size ∧ b4 < w.heap.size ∧ b5 < w.heap.size ∧ b6 < w.heap.size ∧ b7 < w.heap.size ∧ b8 < w.heap.size ∧ b9 < w.heap.size ∧ b10 < w.heap.size ∧ b11 < w.heap.size ∧ b12 < w.heap.size ∧ b13 < w.heap.size ∧ b14 < w.heap.size ∧ b15 < w.heap.size ∧ b16 < w.heap.size ∧ b17 < w.heap.size ∧ b18 < w.heap.size ∧ b19 < w.heap.size ∧ b20 < w.heap.size ∧ b21 < w.heap.size ∧ b22 < w.heap.size ∧ b23 < w.heap.size ∧ b24 < w.heap.size ∧ b25 < w.heap.size ∧ b26 < w.heap.size ∧ b27 < w.heap.size ∧ b28 < w.heap.size ∧ b29 < w.heap.size ∧ b30 < w.heap.size :=
  ⟨lt_of_cell h.1, lts30 h.2⟩
theorem keep32 {w w1 : World} {p0 p1 p2 p3 p4 p5 p6 p7 p8 p9 p10 p11 p12 p13 p14 p15 p16 p17 p18 p19 p20 p21 p22 p23 p24 p25 p26 p27 p28 p29 p30 p31 : Addr} {v0 v1 v2 v3 v4 v5 v6 v7 v8 v9 v10 v11 v12 v13 v14 v15 v16 v17 v18 v19 v20 v21 v22 v23 v24 v25 v26 v27 v28 v29 v30 v31 : Value} (hk : Keeps w w1) (h : w.cell? p0 = some v0 ∧ w.cell? p1 = some v1 ∧ w.cell? p2 = some v2 ∧ w.cell? p3 = some v3 ∧ w.cell? p4 = some v4 ∧ w.cell? p5 = some v5 ∧ w.cell? p6 = some v6 ∧ w.cell? p7 = some v7 ∧ w.cell? p8 = some v8 ∧ w.cell? p9 = some v9 ∧ w.cell? p10 = some v10 ∧ w.cell? p11 = some v11 ∧ w.cell? p12 = some v12 ∧ w.cell? p13 = some v13 ∧ w.cell? p14 = some v14 ∧ w.cell? p15 = some v15 ∧ w.cell? p16 = some v16 ∧ w.cell? p17 = some v17 ∧ w.cell? p18 = some v18 ∧ w.cell? p19 = some v19 ∧ w.cell? p20 = some v20 ∧ w.cell? p21 = some v21 ∧ w.cell? p22 = some v22 ∧ w.cell? p23 = some v23 ∧ w.cell? p24 = some v24 ∧ w.cell? p25 = some v25 ∧ w.cell? p26 = some v26 ∧ w.cell? p27 = some v27 ∧ w.cell? p28 = some v28 ∧ w.cell? p29 = some v29 ∧ w.cell? p30 = some v30 ∧ w.cell? p31 = some v31) : w1.cell? p0 = some v0 ∧ w1.cell? p1 = some v1 ∧ w1.cell? p2 = some v2 ∧ w1.cell? p3 = some v3 ∧ w1.cell? p4 = some v4 ∧ w1.cell? p5 = some v5 ∧ w1.cell? p6 = some v6 ∧ w1.cell? p7 = some v7 ∧ w1.cell? p8 = some v8 ∧ w1.cell? p9 = some v9 ∧ w1.cell? p10 = some v10 ∧ w1.cell? p11 = some v11 ∧ w1.cell? p12 = some v12 ∧ w1.cell? p13 = some v13 ∧ w1.cell? p14 = some v14 ∧ w1.cell? p15 = some v15 ∧ w1.cell? p16 = some v16 ∧ w1.cell? p17 = some v17 ∧ w1.cell? p18 = some v18 ∧ w1.cell? p19 = some v19 ∧ w1.cell? p20 = some v20 ∧ w1.cell? p21 = some v21 ∧ w1.cell? p22 = some v22 ∧ w1.cell? p23 = some v23 ∧ w1.cell? p24 = some v24 ∧ w1.cell? p25 = some v25 ∧ w1.cell? p26 = some v26 ∧ w1.cell? p27 = some v27 ∧ w1.cell? p28 = some v28 ∧ w1.cell? p29 = some v29 ∧ w1.cell? p30 = some v30 ∧ w1.cell? p31 = some v31 :=
  ⟨keep1 hk h.1, keep31 hk h.2⟩
theorem lts32 {w : World} {b0 o0 b1 o1 b2 o2 b3 o3 b4 o4 b5 o5 b6 o6 b7 o7 b8 o8 b9 o9 b10 o10 b11 o11 b12 o12 b13 o13 b14 o14 b15 o15 b16 o16 b17 o17 b18 o18 b19 o19 b20 o20 b21 o21 b22 o22 b23 o23 b24 o24 b25 o25 b26 o26 b27 o27 b28 o28 b29 o29 b30 o30 b31 o31 : Nat} {v0 v1 v2 v3 v4 v5 v6 v7 v8 v9 v10 v11 v12 v13 v14 v15 v16 v17 v18 v19 v20 v21 v22 v23 v24 v25 v26 v27 v28 v29 v30 v31 : Value} (h : w.cell? ⟨b0, o0, none⟩ = some v0 ∧ w.cell? ⟨b1, o1, none⟩ = some v1 ∧ w.cell? ⟨b2, o2, none⟩ = some v2 ∧ w.cell? ⟨b3, o3, none⟩ = some v3 ∧ w.cell? ⟨b4, o4, none⟩ = some v4 ∧ w.cell? ⟨b5, o5, none⟩ = some v5 ∧ w.cell? ⟨b6, o6, none⟩ = some v6 ∧ w.cell? ⟨b7, o7, none⟩ = some v7 ∧ w.cell? ⟨b8, o8, none⟩ = some v8 ∧ w.cell? ⟨b9, o9, none⟩ = some v9 ∧ w.cell? ⟨b10, o10, none⟩ = some v10 ∧ w.cell? ⟨b11, o11, none⟩ = some v11 ∧ w.cell? ⟨b12, o12, none⟩ = some v12 ∧ w.cell? ⟨b13, o13, none⟩ = some v13 ∧ w.cell? ⟨b14, o14, none⟩ = some v14 ∧ w.cell? ⟨b15, o15, none⟩ = some v15 ∧ w.cell? ⟨b16, o16, none⟩ = some v16 ∧ w.cell? ⟨b17, o17, none⟩ = some v17 ∧ w.cell? ⟨b18, o18, none⟩ = some v18 ∧ w.cell? ⟨b19, o19, none⟩ = some v19 ∧ w.cell? ⟨b20, o20, none⟩ = some v20 ∧ w.cell? ⟨b21, o21, none⟩ = some v21 ∧ w.cell? ⟨b22, o22, none⟩ = some v22 ∧ w.cell? ⟨b23, o23, none⟩ = some v23 ∧ w.cell? ⟨b24, o24, none⟩ = some v24 ∧ w.cell? ⟨b25, o25, none⟩ = some v25 ∧ w.cell? ⟨b26, o26, none⟩ = some v26 ∧ w.cell? ⟨b27, o27, none⟩ = some v27 ∧ w.cell? ⟨b28, o28, none⟩ = some v28 ∧ w.cell? ⟨b29, o29, none⟩ = some v29 ∧ w.cell? ⟨b30, o30, none⟩ = some v30 ∧ w.cell? ⟨b31, o31, none⟩ = some v31) : b0 < w.heap.size ∧ b1 < w.heap.size ∧ b2 < w.heap.size ∧ b3 < w.heap.size ∧ b4 < w.heap.size ∧ b5 < w.heap.size ∧ b6 < w.heap.size ∧ b7 < w.heap.size ∧ b8 < w.heap.size ∧ b9 < w.heap.size ∧ b10 < w.heap.size ∧ b11 < w.heap.size ∧ b12 < w.heap.size ∧ b13 < w.heap.size ∧ b14 < w.heap.size ∧ b15 < w.heap.size ∧ b16 < w.heap.size ∧ b17 < w.heap.size ∧ b18 < w.heap.size ∧ b19 < w.heap.size ∧ b20 < w.heap.size ∧ b21 < w.heap.size ∧ b22 < w.heap.size ∧ b23 < w.heap.size ∧ b24 < w.heap.size ∧ b25 < w.heap.size ∧ b26 < w.heap.size ∧ b27 < w.heap.size ∧ b28 < w.heap.size ∧ b29 < w.heap.size ∧ b30 < w.heap.size ∧ b31 < w.heap.size :=
  ⟨lt_of_cell h.1, lts31 h.2⟩
end Go.Proofs.Ytohchhgheeolpaa

/- Regions that draw their order, walked by hand: the condition on the world may be made stronger on the way. For every program. -/
namespace Go.Proofs.Ytohchhgheeolpaa

theorem wpAnyH_more {P : Program} {md : Region.Mode} {ops : Array Oper} {Q : Exit → Act → World → Prop} {S S' : World → Prop} (hs : ∀ w, S' w → S w) :
    ∀ {n : Nat} {l : Array Bool} {a : Act} {w : World}, wpAnyH P md ops Q S' n l a w → wpAnyH P md ops Q S n l a w := by
  intro n
  induction n with
  | zero => exact fun h => h
  | succ n ih => exact fun h => ⟨h.1, fun i hi => wpOp_mono (fun a' w' h' => ⟨hs _ h'.1, ih h'.2⟩) (h.2 i hi)⟩

end Go.Proofs.Ytohchhgheeolpaa

/- A slice into a block of a known element type, from base on: wherever it begins. For every program. -/
namespace Go.Proofs.Ytohchhgheeolpaa
open Go.RowKit

def Piece (w : World) (base : Nat) (e : TypeId) (v : Value) (l : List Value) : Prop :=
  (∃ a0 cap, v = .slice a0 0 cap ∧ l = [] ∧ cap ≤ maxLen ∧ (a0 = none → cap = 0)) ∨
  ∃ g off cap cs fr, v = .slice (some ⟨g, off, none⟩) l.length cap ∧ 0 < l.length ∧ base ≤ g ∧ l.length ≤ cap ∧ cap ≤ maxLen ∧ w.heap[g]? = some (.cells cs e fr) ∧ ∀ i x, l[i]? = some x → cs[off + i]? = some x

section
variable {w w' : World} {base : Nat} {e : TypeId} {v : Value} {l : List Value}
theorem cell_of_heap {g off : Nat} {cs : Array Value} {fr : Nat × Nat} (h : w.heap[g]? = some (.cells cs e fr)) : w.cell? ⟨g, off, none⟩ = cs[off]? := cell_of_row w g off cs e fr h
theorem Piece.row (h : Piece w base e v l) : Row w v l := by
  rcases h with h | ⟨g, off, cap, cs, fr, hv, h0, h1, h2, h3, h4, h5⟩
  · exact .inl h
  · exact .inr ⟨g, off, cap, hv, h2, h3, fun i x hx => by rw [cell_of_heap h4]; exact h5 i x hx⟩
theorem Own.raise {base' : Nat} (h : Own w base e v l) (hb : ∀ x, v.ownBlock = some x → base' ≤ x) : Own w base' e v l := by
  refine ⟨h.1, ?_⟩
  rcases h.2 with h0 | ⟨g, cap, cur, rfl, _, rest⟩
  · exact .inl h0
  · exact .inr ⟨g, cap, cur, rfl, hb g (by simp [Value.ownBlock]), rest⟩
theorem Piece.nil (w : World) (base : Nat) (e : TypeId) : Piece w base e (.slice none 0 0) [] := .inl ⟨none, 0, rfl, rfl, Nat.zero_le _, fun _ => rfl⟩
theorem Own.piece (h : Own w base e v l) : Piece w base e v l := by
  have hrow := h.row
  rcases h.2 with ⟨rfl, h9⟩ | ⟨g, cap, cur, rfl, h1, h2, h3, h4, h5, h6⟩
  · exact .inl ⟨none, 0, rfl, List.eq_nil_of_length_eq_zero h9, Nat.zero_le _, fun _ => rfl⟩
  · by_cases hl : l = []
    · subst hl
      exact .inl ⟨some ⟨g, 0, none⟩, cap, rfl, rfl, h4, fun h => by cases h⟩
    · have hp : 0 < l.length := List.length_pos_iff.2 hl
      refine .inr ⟨g, 0, cap, cur, (0, 0), rfl, hp, h1, h3, h4, h2, fun i x hx => ?_⟩
      have hi := (List.getElem?_eq_some_iff.1 hx).1
      have ht : cur.toList.take l.length = l := by simpa using h6
      have : (cur.toList.take l.length)[i]? = some x := by rw [ht]; exact hx
      rw [List.getElem?_take, if_pos hi] at this
      simpa using this
theorem Piece.keeps (h : Piece w base e v l) (k : Keeps w w') : Piece w' base e v l := by
  rcases h with h | ⟨g, off, cap, cs, fr, hv, h0, h1, h2, h3, h4, h5⟩
  · exact .inl h
  · exact .inr ⟨g, off, cap, cs, fr, hv, h0, h1, h2, h3, by rw [k.block (Array.getElem?_eq_some_iff.1 h4).1]; exact h4, h5⟩
theorem Piece.lower {base' : Nat} (h : Piece w base e v l) (hb : base' ≤ base) : Piece w base' e v l := by
  rcases h with h | ⟨g, off, cap, cs, fr, hv, h0, h1, h2, h3, h4, h5⟩
  · exact .inl h
  · exact .inr ⟨g, off, cap, cs, fr, hv, h0, Nat.le_trans hb h1, h2, h3, h4, h5⟩
/-- a call that writes blocks of S alone, none of them of this element type -/
theorem Piece.modsT {S : Nat → Prop} (h : Piece w base e v l) (k : Mods S w w') (hn : ∀ x, S x → ∀ cs fr, w.heap[x]? ≠ some (.cells cs e fr)) : Piece w' base e v l := by
  rcases h with h | ⟨g, off, cap, cs, fr, hv, h0, h1, h2, h3, h4, h5⟩
  · exact .inl h
  · exact .inr ⟨g, off, cap, cs, fr, hv, h0, h1, h2, h3, k.heap h4 (fun hs => hn g hs cs fr h4), h5⟩
/-- a call that writes blocks of S alone, none from base on -/
theorem Piece.modsB {S : Nat → Prop} (h : Piece w base e v l) (k : Mods S w w') (hn : ∀ x, S x → base ≤ x → False) : Piece w' base e v l := by
  rcases h with h | ⟨g, off, cap, cs, fr, hv, h0, h1, h2, h3, h4, h5⟩
  · exact .inl h
  · exact .inr ⟨g, off, cap, cs, fr, hv, h0, h1, h2, h3, k.heap h4 (fun hs => hn g hs h1), h5⟩
theorem Piece.form (h : Piece w base e v l) : ∃ p cap, v = .slice p l.length cap ∧ l.length ≤ cap ∧ cap ≤ 9223372036854775807 := by
  obtain ⟨p, cap, hv, h1, h2⟩ := h.row.form
  exact ⟨p, cap, hv, h1, by simpa [maxLen] using h2⟩
/-- v[lo:n:n] of a slice that has n elements -/
theorem Piece.cutN {p : Option Addr} {n cap lo : Nat} (h : Piece w base e (.slice p n cap) l) (hn : n = l.length) (hlo : lo ≤ n) : Piece w base e (cutv p lo n n) (l.drop lo) := by
  subst hn
  rcases h with ⟨a0, cap', hv, rfl, h3, h4⟩ | ⟨g, off, cap', cs, fr, hv, h0, h1, h2, h3, h4, h5⟩
  · simp at hlo
    subst hlo
    simp only [Value.slice.injEq] at hv
    refine .inl ⟨p, 0, by simp [cutv], by simp, Nat.zero_le _, fun _ => rfl⟩
  · simp only [Value.slice.injEq] at hv
    obtain ⟨rfl, -, rfl⟩ := hv
    by_cases he : lo = l.length
    · subst he
      exact .inl ⟨some ⟨g, off, none⟩, 0, by simp [cutv], by simp, Nat.zero_le _, fun _ => rfl⟩
    · refine .inr ⟨g, off + lo, l.length - lo, cs, fr, ?_, by simp; omega, h1, by simp, by omega, h4, fun i x hx => ?_⟩
      · have : ¬ l.length = lo := fun e => he e.symm
        simp [cutv, this, Go.WideShapes.add_plain]
      · rw [Nat.add_assoc]
        exact h5 (lo + i) x (by simpa using hx)
end
end Go.Proofs.Ytohchhgheeolpaa

/- Arrays of numbers, compared. For every program. -/
namespace Go.Proofs.Ytohchhgheeolpaa
open Go.RowKit

theorem run_eq_ints {P : Program} {t e : TypeId} {n d : Nat} {i : TypeInfo} (ht : P.underlying t = some (.array n e)) (he : P.underlying e = some (.int .i64)) (hi : P.info? e = some i) (hc : P.cellsOf e = 1) (hp : P.plainKey e = true) (la lb : List Int) (hla : la.length = n) (hlb : lb.length = n) (w : World) :
    (Op.equalIn (d + 2) t (.agg (la.map (Value.int .i64)).toArray) (.agg (lb.map (Value.int .i64)).toArray)).run P w = .ok (decide (la = lb)) w := by
  have HI : ∀ (a b : Int) w, (Op.equalIn (d + 1) e (.int .i64 a) (.int .i64 b)).run P w = .ok (a == b) w := fun a b w => run_equalIn_int w d e .i64 .i64 a b he
  show (Op.equalIn ((d + 1) + 1) t _ _).run P w = _
  generalize d + 1 = D at *
  simp only [Op.equalIn, Sem.run_bind, run_underlying ht, Result.andThen_ok, run_sizeOf w hi, hc, Nat.mul_one]
  rw [Std.Legacy.Range.forIn_eq_forIn_range']
  have hL : ∀ (k m : Nat) , m + k = n → la.take m = lb.take m → ∀ w, ((forIn (m := Sem) (List.range' m k 1) ((none : Option Bool), ()) fun i __s => do
              let __do_lift ← part e (List.map (Value.int IntKind.i64) la).toArray i
              let __do_lift_1 ← part e (List.map (Value.int IntKind.i64) lb).toArray i
              let __do_lift ← Op.equalIn D e __do_lift __do_lift_1
              if (!__do_lift) = true then pure (ForInStep.done (some false, ())) else pure (ForInStep.yield (none, ()))).run P w) = .ok (if la = lb then none else some false, ()) w := by
    intro k
    induction k with
    | zero =>
      intro m hm h w
      have : la = lb := by rw [List.take_of_length_le (by omega), List.take_of_length_le (by omega)] at h; exact h
      rw [if_pos this]
      rfl
    | succ k ih =>
      intro m hm h w
      have ha : (List.map (Value.int IntKind.i64) la).toArray[m]? = some (.int .i64 (la[m]'(by omega))) := by simp
      have hb : (List.map (Value.int IntKind.i64) lb).toArray[m]? = some (.int .i64 (lb[m]'(by omega))) := by simp
      rw [List.range'_succ]
      simp only [List.forIn_cons, Sem.run_bind, run_part_plain w hp ha, run_part_plain w hp hb, HI, Result.andThen_ok]
      by_cases hx : (la[m]'(by omega)) = (lb[m]'(by omega))
      · have : ((la[m]'(by omega)) == (lb[m]'(by omega))) = true := by simpa using hx
        rw [this]
        simp only [Bool.not_true, Bool.false_eq_true, if_false, Sem.run_pure, Result.andThen_ok]
        exact ih (m + 1) (by omega) (by rw [List.take_succ_eq_append_getElem (by omega), List.take_succ_eq_append_getElem (by omega), h, hx]) w
      · have : ((la[m]'(by omega)) == (lb[m]'(by omega))) = false := by simpa using hx
        rw [this]
        have hne : la ≠ lb := fun h => by subst h; exact hx rfl
        simp only [Bool.not_false, if_true, Sem.run_pure, Result.andThen_ok]
        rw [if_neg hne]
  have := hL n 0 (by omega) rfl w
  simp only [Std.Legacy.Range.size] at *
  rw [show (n - 0 + 1 - 1) / 1 = n from by omega, this, Result.andThen_ok]
  by_cases h : la = lb
  · rw [if_pos h, decide_eq_true h]; rfl
  · rw [if_neg h, decide_eq_false h]; rfl
end Go.Proofs.Ytohchhgheeolpaa

/- Whole structs in memory: loads and stores of them in one step. For every program. -/
namespace Go.Proofs.Ytohchhgheeolpaa
open Go.RowKit

theorem setCells_keeps {W : World} {b : Nat} (hb : W.heap.size ≤ b) : ∀ (vs : List Value) (o : Nat) (w : World), Keeps W w → Keeps W (w.setCells b o vs)
  | [], _, _, h => h
  | v :: vs, o, w, h => setCells_keeps hb vs (o + 1) _ (h.setCell (p := ⟨b, o, none⟩) hb v)
theorem setCells_all {b : Nat} {t : TypeId} : ∀ (vs : List Value) (o : Nat) (w : World) (cs : Array Value), Blk w b t cs → ∃ ds, Blk (w.setCells b o vs) b t ds ∧ ds.size = cs.size ∧ ∀ j, ds[j]? = if o ≤ j ∧ j < o + vs.length ∧ j < cs.size then vs[j - o]? else cs[j]?
  | [], o, w, cs, h => ⟨cs, h, rfl, fun j => by rw [if_neg (by simp; omega)]⟩
  | v :: vs, o, w, cs, h => by
    obtain ⟨ds, hB, hs, hj⟩ := setCells_all vs (o + 1) _ _ (h.set_ o v)
    rw [Array.size_setIfInBounds] at hs
    refine ⟨ds, hB, hs, fun j => ?_⟩
    rw [hj, Array.getElem?_setIfInBounds, Array.size_setIfInBounds, List.length_cons]
    by_cases h1 : j < o
    · rw [if_neg (by omega), if_neg (by omega), if_neg (by omega)]
    · by_cases h2 : o = j
      · subst h2
        rw [if_neg (by omega), if_pos rfl]
        by_cases h3 : o < cs.size
        · rw [if_pos h3, if_pos (by omega)]; simp
        · rw [if_neg h3, if_neg (by omega), Array.getElem?_eq_none (by omega)]
      · by_cases h3 : j < o + 1 + vs.length ∧ j < cs.size
        · rw [if_pos (by omega), if_pos (by omega)]
          rw [show j - o = (j - (o + 1)) + 1 from by omega, List.getElem?_cons_succ]
        · rw [if_neg (by omega), if_neg (by omega), if_neg (by omega)]
theorem setCells_new {b : Nat} {t : TypeId} {cs ds : Array Value} {w : World} (h : Blk w b t cs) (hs : cs.size = ds.size) : Blk (w.setCells b 0 ds.toList) b t ds := by
  obtain ⟨d, hB, hs', hj⟩ := setCells_all ds.toList 0 w cs h
  have : d = ds := by
    apply Array.ext_getElem?
    intro j
    rw [hj, Nat.sub_zero, Array.length_toList]
    by_cases hl : j < ds.size
    · rw [if_pos (by omega)]; simp
    · rw [if_neg (by omega), Array.getElem?_eq_none (by omega), Array.getElem?_eq_none (by omega)]
  rwa [this] at hB

theorem Blk.range {w : World} {b : Nat} {t : TypeId} {cs : Array Value} (h : Blk w b t cs) : w.rangeAt b 0 cs.toList := fun j v hv => by
  rw [h.cell, Nat.zero_add]
  simpa using hv
theorem Blk.there {w : World} {b : Nat} {t : TypeId} {cs ds : Array Value} (h : Blk w b t cs) (hs : ds.size = cs.size) : w.there b 0 ds.size := fun j hj => ⟨by rw [h.cell, Nat.zero_add, Array.getElem?_eq_getElem (by omega)]; rfl, h.frozen _⟩


theorem setCells_mods {b : Nat} : ∀ (vs : List Value) (o : Nat) (W w : World), Mods (· = b) W w → Mods (· = b) W (w.setCells b o vs)
  | [], _, _, _, h => h
  | v :: vs, o, W, w, h => setCells_mods vs (o + 1) W _ (h.setCell (p := ⟨b, o, none⟩) (fun _ => rfl) v)

/-- a struct's (or array's) type of so many cells -/
structure Mids (P : Program) (t : TypeId) (n : Nat) : Prop where
  u : ∃ d, P.underlying t = some d ∧ d.isRow = true
  i : (P.info? t).map (·.size) = some n
section
variable {P : Program} {t t' : TypeId} {b : Nat} {cs ds : Array Value} {w : World}
theorem ld_run (m : Mids P t cs.size) (h : Blk w b t' cs) : (loadVar t ⟨b, 0, none⟩).run P w = .ok (.agg cs) w := by
  obtain ⟨d, hd, hr⟩ := m.u
  have := run_loadVar_mid (P := P) w b 0 t cs.toList d h.range hd hr (by rw [m.i, Array.length_toList])
  rwa [Array.toArray_toList] at this
theorem wpList_ld {ops : Array Oper} {rest : List Oper} {op : Oper} {a : Act} {Q : Exit → Act → World → Prop} (hgd : op.guard = none) (m : Mids P t cs.size) (h : Blk w b t' cs) (x : Operand) (ho : op.op = .load t x) (hx : a.eval x = .pointer (some ⟨b, 0, none⟩))
    (k : wpList P ops Q rest (a.put op.dst (.agg cs)) w) : wpList P ops Q (op :: rest) a w := by
  obtain ⟨d, hd, hr⟩ := m.u
  refine wpList_load_mid hgd t x ho b 0 hx cs.toList d h.range hd hr (by rw [m.i, Array.length_toList]) ?_
  rw [Array.toArray_toList]
  exact k
theorem wpList_ldR {ops : Array Oper} {rest : List Oper} {op : Oper} {a : Act} {Q : Exit → Act → World → Prop} {o : Nat} {l : List Value} (hgd : op.guard = none) (m : Mids P t l.length) (h : w.rangeAt b o l) (x : Operand) (ho : op.op = .load t x) (hx : a.eval x = .pointer (some ⟨b, o, none⟩))
    (k : wpList P ops Q rest (a.put op.dst (.agg l.toArray)) w) : wpList P ops Q (op :: rest) a w := by
  obtain ⟨d, hd, hr⟩ := m.u
  exact wpList_load_mid hgd t x ho b o hx l d h hd hr m.i k
theorem wpList_st {ops : Array Oper} {rest : List Oper} {op : Oper} {a : Act} {Q : Exit → Act → World → Prop} (hgd : op.guard = none) (m : Mids P t ds.size) (h : Blk w b t' cs) (hs : cs.size = ds.size) (h1 : ds.all (·.oneCell') = true) (x y : Operand) (ho : op.op = .store t x y) (hdst : op.dst = none)
    (hx : a.eval x = .pointer (some ⟨b, 0, none⟩)) (hy : a.eval y = .agg ds) (k : ∀ w', Blk w' b t' ds → Mods (· = b) w w' → wpList P ops Q rest a w') : wpList P ops Q (op :: rest) a w := by
  refine wpList_store_mid hgd t x y ho b 0 ds hx hy (h.there hs.symm) m.i h1 ?_
  rw [hdst]
  exact k _ (setCells_new h hs) (setCells_mods _ _ _ _ (Mods.refl _ _))
theorem step_st {ops : Array Oper} {op : Oper} {a : Act} {K : Act → World → Prop} {Q : Exit → Act → World → Prop} {E : Prop} (hgd : op.guard = none) (m : Mids P t ds.size) (h : Blk w b t' cs) (hs : cs.size = ds.size) (h1 : ds.all (·.oneCell') = true) (x y : Operand) (ho : op.op = .store t x y) (hdst : op.dst = none)
    (hx : a.eval x = .pointer (some ⟨b, 0, none⟩)) (hy : a.eval y = .agg ds) (k : ∀ w', Blk w' b t' ds → Mods (· = b) w w' → K a w') : if Region.wanted op (yielded ops a.tmps) = true then Oper.wp P op a w K Q else E := by
  have hw : Region.wanted op (yielded ops a.tmps) = true := by simp [Region.wanted, hgd]
  rw [if_pos hw]
  refine wp_store_mid t x y ho b 0 ds hx hy (h.there hs.symm) m.i h1 ?_
  rw [hdst]
  exact k _ (setCells_new h hs) (setCells_mods _ _ _ _ (Mods.refl _ _))
/-- in a region that draws -/
theorem yieldsIf_ld {ops : Array Oper} {S : World → Prop} {op : Oper} {a : Act} (hw : Region.wanted op (yielded ops a.tmps) = true) (m : Mids P t cs.size) (hS : ∀ w, S w → Blk w b t' cs) (x : Operand) (ho : op.op = .load t x) (hx : a.eval x = .pointer (some ⟨b, 0, none⟩)) : YieldsIf P ops S op (.agg cs) a := by
  obtain ⟨d, hd, hr⟩ := m.u
  have := yieldsIf_load_mid (P := P) hw t x ho b 0 hx cs.toList d (fun w h => (hS w h).range) hd hr (by rw [m.i, Array.length_toList])
  rwa [Array.toArray_toList] at this
theorem yieldsIf_ldR {ops : Array Oper} {S : World → Prop} {op : Oper} {a : Act} {o : Nat} {l : List Value} (hw : Region.wanted op (yielded ops a.tmps) = true) (m : Mids P t l.length) (hS : ∀ w, S w → w.rangeAt b o l) (x : Operand) (ho : op.op = .load t x) (hx : a.eval x = .pointer (some ⟨b, o, none⟩)) : YieldsIf P ops S op (.agg l.toArray) a := by
  obtain ⟨d, hd, hr⟩ := m.u
  exact yieldsIf_load_mid (P := P) hw t x ho b o hx l d hS hd hr m.i
end
end Go.Proofs.Ytohchhgheeolpaa

/- Several texts in one: Heap, Piece, MboxMap, OctetSink, OctetSource, OctetTakes, StrFix. -/
import Derived.Test.YtcleakjjefmmbaaGreatK01
import Derived.Lib.AppendStr
import Derived.Laws.Rows
import Derived.Laws.BytesArg
import Derived.Lib.ConvBytes
import Derived.Test.YtcleakjjefmmbaaGreatK00
import Derived.Maps.OwnSet
import Derived.Maps.OwnOps
import Derived.Lib.SliceRun
import Derived.Test.YtcleakjjefmmbaaGreatRows
/- Blocks that are known whole; append, with where the row lies behind it; strings of bytes. For every program. -/
namespace Go.Proofs.YtcleakjjefmmbaaGreat
open Go.RowKit

/-- block g is these cells of type t, and none is frozen -/
def Blk (w : World) (g : Nat) (t : TypeId) (cs : Array Value) : Prop := w.heap[g]? = some (.cells cs t (0, 0))
section
variable {w w' : World} {g : Nat} {t : TypeId} {cs : Array Value}
theorem Blk.lt (h : Blk w g t cs) : g < w.heap.size := (Array.getElem?_eq_some_iff.1 h).1
theorem Blk.cell (h : Blk w g t cs) (i : Nat) : w.cell? ⟨g, i, none⟩ = cs[i]? := cell_of_row w g i cs t (0, 0) h
theorem Blk.frozen (h : Blk w g t cs) (i : Nat) : w.frozen? ⟨g, i, none⟩ = false := by
 unfold Blk at h
 simp [World.frozen?, h]
theorem Blk.new (w : World) (t : TypeId) (cs : Array Value) {b : Nat} (hb : b = w.heap.size) : Blk (w.alloc (.cells cs t)) b t cs := by
 subst hb
 show (w.heap.push _)[w.heap.size]? = _
 simp
theorem Blk.keeps (h : Blk w g t cs) (k : Keeps w w') : Blk w' g t cs := (k.block h.lt).trans h
theorem Blk.drew (h : Blk w g t cs) : Blk w.drew g t cs := h
theorem Blk.drewN (h : Blk w g t cs) (n : Nat) : Blk (w.drewN n) g t cs := h
theorem Blk.alloc (h : Blk w g t cs) (o : Obj) : Blk (w.alloc o) g t cs := h.keeps ((Keeps.refl _).alloc o)
theorem Blk.set_ (h : Blk w g t cs) (i : Nat) (u : Value) : Blk (w.setCell ⟨g, i, none⟩ u) g t (cs.setIfInBounds i u) := by
 unfold Blk at h ⊢
 simp [World.setCell, Array.getElem?_modify, h]
theorem Blk.far (h : Blk w g t cs) {p : Addr} (hp : g ≠ p.block) (u : Value) : Blk (w.setCell p u) g t cs := (Below.heap_setCell w p u g hp).trans h
theorem Blk.grown {row : Option Nat} (h : Blk w g t cs) (hb : w.grownBy w' row) (hg : row ≠ some g) : Blk w' g t cs := (hb.block g h.lt (fun e => hg e.symm)).trans h
theorem Blk.mods {S : Nat → Prop} (h : Blk w g t cs) (k : Mods S w w') (hn : ¬ S g) : Blk w' g t cs := k.heap h hn
theorem Own.blk_ne {base : Nat} {e : TypeId} {v : Value} {l : List Value} (h : Own w base e v l) (hg : Blk w g t cs) (hne : e ≠ t) : v.ownBlock ≠ some g := by
 rcases h.2 with ⟨rfl, _⟩ | ⟨g', cap, cur, rfl, _, hh, _⟩
 ·simp [Value.ownBlock]
 ·intro he
  have : g' = g := by simpa [Value.ownBlock] using he
  subst this
  unfold Blk at hg
  rw [hg] at hh
  simp only [Option.some.injEq, Obj.cells.injEq] at hh
  exact hne hh.2.1.symm
end

/-- v' lies where v lay, or in a block that is new in w -/
def Fresh (w : World) (v v' : Value) : Prop := ∀ x, v'.ownBlock = some x → v.ownBlock = some x ∨ w.heap.size ≤ x
theorem Fresh.refl (w : World) (v : Value) : Fresh w v v := fun _ h => .inl h
theorem Fresh.trans {w w' : World} {a b c : Value} (h : Fresh w a b) (k : Fresh w' b c) (hs : w.heap.size ≤ w'.heap.size) : Fresh w a c := fun x hx => by
 rcases k x hx with h1 | h1
 ·exact h x h1
 ·exact .inr (Nat.le_trans hs h1)
theorem Fresh.back {w w' : World} {a b : Value} (k : Fresh w' a b) (hs : w.heap.size ≤ w'.heap.size) : Fresh w a b := fun x hx => (k x hx).imp id (Nat.le_trans hs)

/-- append(s, x...), one-cell elements, with where the row lies -/
theorem wpList_app1 {P : Program} {w : World} {ops : Array Oper} {rest : List Oper} {o : Oper} {a : Act} {Q : Exit → Act → World → Prop} {t e : TypeId} {bytes base : Nat} (he : ElemOk P t e bytes) (hgd : o.guard = none) (s x : Operand)
  (ho : o.op = .call { callee := .builtin .append, args := #[s, x], argTypes := #[t, t] })
  (v xv : Value) (xs news : List Value) (hs : a.eval s = v) (hx : a.eval x = xv) (hown : Own w base e v xs) (hrow : Row w xv news) (h1 : ∀ u ∈ news, u.oneCell' = true)
  (hb : (xs.length + news.length) * bytes ≤ 70368744177664) (hbytes : 0 < bytes) (hbase : base ≤ w.heap.size)
  (h : ∀ v' w', Own w' base e v' (xs ++ news) → w.grownBy w' v.ownBlock → Fresh w v v' → wpList P ops Q rest (a.put o.dst v') w') : wpList P ops Q (o :: rest) a w :=
 wpList_apps he.s (by omega) hgd s x ho v xv xs.length news.length xs news hs hx hown hrow.s h1 hb hbytes hbase fun v' w' h2 h3 h4 => h v' w' (by unfold Own; rw [List.length_append]; exact h2) h3 h4

/-- a string's bytes -/
def bstr (l : List UInt8) : ByteArray := ⟨l.toArray⟩
theorem bstr_list (s : ByteArray) : bstr s.data.toList = s := by cases s; simp [bstr]
theorem bstr_size (l : List UInt8) : (bstr l).size = l.length := by simp [bstr, ByteArray.size]
theorem bstr_toList (l : List UInt8) : (bstr l).toList = l := by simp [bstr]
theorem strCells_u8v (s : ByteArray) : Lib.strCells s = s.data.toList.map u8v := by simp [Lib.strCells, u8v]

theorem run_app_str {P : Program} (w : World) {t u e : TypeId} {base : Nat} (ty : TypeId) (ht : P.underlying t = some (.slice e)) (hu : P.underlying u = some .string) (hi : (P.info? e).map (fun i => (i.zero, i.size, i.bytes)) = some (some (.int .u8 0), 1, 1))
  (v : Value) (xs : List Value) (hown : Own w base e v xs) (s : ByteArray) (hb : xs.length + s.size ≤ 70368744177664) (hbase : base ≤ w.heap.size) :
  ∃ v' w', (Builtin.append_ #[t, u] ty #[v, .string s]).run P w = .ok v' w' ∧ Own w' base e v' (xs ++ s.data.toList.map u8v) ∧ w.grownBy w' v.ownBlock ∧ Fresh w v v' := by
 obtain ⟨i, hi', hz, hs, hby⟩ := info_parts hi
 have hml : xs.length + s.size ≤ maxLen := by unfold maxLen; omega
 obtain ⟨v', w', hr, ho, hg, hnil⟩ := Lib.run_append_own_string (P := P) w base t u ty e i ht hu hi' hz hs hby v xs.length xs hown s hml (by omega) hbase
 have hlen : (s.data.toList.map u8v).length = s.size := by rw [List.length_map, Array.length_toList]; rfl
 refine ⟨v', w', hr, ?_, hg, ?_⟩
 ·unfold Own
  rw [List.length_append, hlen, ← strCells_u8v]
  exact ho
 rcases hown.2 with ⟨rfl, hx0⟩ | ⟨g, cap, cur, rfl, hbg, hgg, hnc, hcm, hcs, htake⟩
 ·have hx : xs = [] := List.eq_nil_of_length_eq_zero hx0
  subst hx
  obtain ⟨v2, w2, hr2, ho2, _, _⟩ := Lib.run_append_own_string (P := P) w w.heap.size t u ty e i ht hu hi' hz hs hby (.slice none 0 0) 0 [] (World.ownsRow_nil w _ e 1) s hml (by simp at hb; omega) (Nat.le_refl _)
  rw [List.length_nil] at *
  rw [hr] at hr2
  simp only [Result.ok.injEq] at hr2
  obtain ⟨rfl, rfl⟩ := hr2
  intro x hx
  right
  rcases ho2.2 with ⟨rfl, _⟩ | ⟨g, _, _, rfl, hb, _⟩
  ·simp [Value.ownBlock] at hx
  ·simp [Value.ownBlock] at hx; omega
 ·by_cases hroom : xs.length + s.size ≤ cap
  ·have hcs' : cur.size = cap := by simpa using hcs
   have hr2 := Lib.run_append_room_string (P := P) w t u ty e i ht hu hi' hs g xs.length cap cur hgg s hroom (by omega)
   rw [hr] at hr2
   simp only [Result.ok.injEq] at hr2
   obtain ⟨rfl, _⟩ := hr2
   intro x hx
   left
   simpa [Value.ownBlock] using hx
  ·have holds : ∀ j u, xs[j]? = some u → w.cell? ((⟨g, 0, none⟩ : Addr).add j) = some u := World.ownsRow.cells (h := hown) (g := g) rfl
   have hr2 := Lib.run_append_grow_string (P := P) w t u ty e i (.int .u8 0) ht hu hi' hz ⟨g, 0, none⟩ xs.length cap xs (by rw [hs]; simp) holds s (by omega) (by unfold maxLen at hml; omega) (by rw [hby]; exact growslice_fits (by omega) (by omega))
   rw [hr] at hr2
   simp only [Result.ok.injEq] at hr2
   obtain ⟨rfl, _⟩ := hr2
   intro x hx
   right
   simp [Value.ownBlock] at hx
   omega

theorem wpList_appstr {P : Program} {w : World} {ops : Array Oper} {rest : List Oper} {o : Oper} {a : Act} {Q : Exit → Act → World → Prop} {t u e : TypeId} {base : Nat} (ht : P.underlying t = some (.slice e)) (hu : P.underlying u = some .string) (hi : (P.info? e).map (fun i => (i.zero, i.size, i.bytes)) = some (some (.int .u8 0), 1, 1)) (hgd : o.guard = none) (s x : Operand)
  (ho : o.op = .call { callee := .builtin .append, args := #[s, x], argTypes := #[t, u] })
  (v : Value) (xs : List Value) (sx : ByteArray) (hs : a.eval s = v) (hx : a.eval x = .string sx) (hown : Own w base e v xs)
  (hb : xs.length + sx.size ≤ 70368744177664) (hbase : base ≤ w.heap.size)
  (h : ∀ v' w', Own w' base e v' (xs ++ sx.data.toList.map u8v) → w.grownBy w' v.ownBlock → Fresh w v v' → wpList P ops Q rest (a.put o.dst v') w') : wpList P ops Q (o :: rest) a w := by
 refine wpList_plain hgd fun K hK => ?_
 obtain ⟨v', w', hr, h2, h3, h4⟩ := run_app_str (P := P) w o.type ht hu hi v xs hown sx hb hbase
 unfold Oper.wp execOp
 simp only [ho, resolve, invoke, builtin, Sem.run_bind, Sem.run_pure, Result.andThen_ok, List.map_toArray, List.map_cons, List.map_nil, hs, hx, hr]
 exact hK _ _ (h v' w' h2 h3 h4)

/-- string(v) of a slice that reads as bytes -/
theorem Row.str {P : Program} {w : World} {v : Value} {l : List UInt8} {t e u : TypeId} (ht : P.underlying t = some (.slice e)) (he : P.underlying e = some (.int .u8)) (hu : P.underlying u = some .string) (h : Row w v (l.map u8v)) :
  (convert t u v).run P w = .ok (.string (bstr l)) w := by
 rcases h with ⟨a0, cap', rfl, hl0, -, h0⟩ | ⟨b, off, cap', rfl, h1, h2, hcell⟩
 ·have : l = [] := by simpa using hl0
  subst this
  cases a0 with
  |none => exact run_convert_bytes_nil w t e ht he 0 cap' u hu
  |some ad =>
   rw [run_convert_bytes_string w t u e _ 0 cap' ht he hu, run_bytesToString w _ 0 cap' [] (by simpa using run_loadCells_list (P := P) w ad [] (by simp))]
   rfl
 ·have := run_convert_bytes_arg (P := P) w t e ht he b off (l.map u8v).length cap' (l.map fun x => (x.toNat : Int)) (by simp) (fun i hi => by
   have hi' : i < l.length := by simpa using hi
   rw [hcell i (u8v l[i]) (by simp [hi'])]
   simp [u8v, List.getD, hi']) u hu
  rw [this]
  congr 2
  unfold strOfNums bstr
  congr 2
  rw [List.map_map]
  conv => rhs; rw [← List.map_id l]
  exact List.map_congr_left fun x _ => by simp

/-- []byte(s) -/
theorem str_bytes {P : Program} (w : World) {t e u : TypeId} (ht : P.underlying t = some (.slice e)) (he : P.underlying e = some (.int .u8)) (hu : P.underlying u = some .string) (s : ByteArray) (hs : s.size ≤ maxLen) :
  ∃ c w', (convert u t (.string s)).run P w = .ok (.slice (some ⟨w.heap.size, 0, none⟩) s.size c) w' ∧ Row w' (.slice (some ⟨w.heap.size, 0, none⟩) s.size c) (s.data.toList.map u8v) ∧ Keeps w w' := by
 refine ⟨_, _, Lib.run_convert_string_bytes w u t e s hu ht he, ?_, ?_⟩
 ·refine .inr ⟨w.heap.size, 0, grownCap w s.size 0 e, by simp, by simpa using grownCap_ge w s.size 0 e, grownCap_le_maxLen w s.size 0 e hs, fun i x hx => ?_⟩
  have hi : i < s.size := by
   have := (List.getElem?_eq_some_iff.1 hx).1
   simpa using this
  rw [Nat.zero_add, Lib.bytesWorld_cell w e s i hi]
  rw [List.getElem?_map] at hx
  have hl : i < s.data.toList.length := by simpa using hi
  rw [List.getElem?_eq_getElem hl] at hx
  simp only [Option.map_some, Option.some.injEq, u8v] at hx
  rw [← hx, List.getD_eq_getElem?_getD, List.getElem?_eq_getElem hl]
  rfl
 ·exact ⟨rfl, rfl, rfl, by rw [Lib.bytesWorld_size]; omega, fun k hk => Lib.bytesWorld_at_old w e s k hk⟩
end Go.Proofs.YtcleakjjefmmbaaGreat

/- A slice into a block of a known element type, from base on: wherever it begins. For every program. -/
namespace Go.Proofs.YtcleakjjefmmbaaGreat
open Go.RowKit

def Piece (w : World) (base : Nat) (e : TypeId) (v : Value) (l : List Value) : Prop :=
 (∃ a0 cap, v = .slice a0 0 cap ∧ l = [] ∧ cap ≤ maxLen ∧ (a0 = none → cap = 0)) ∨
 ∃ g off cap cs fr, v = .slice (some ⟨g, off, none⟩) l.length cap ∧ 0 < l.length ∧ base ≤ g ∧ l.length ≤ cap ∧ cap ≤ maxLen ∧ w.heap[g]? = some (.cells cs e fr) ∧ ∀ i x, l[i]? = some x → cs[off + i]? = some x

section
variable {w w' : World} {base : Nat} {e : TypeId} {v : Value} {l : List Value}
theorem cell_of_heap {g off : Nat} {cs : Array Value} {fr : Nat × Nat} (h : w.heap[g]? = some (.cells cs e fr)) : w.cell? ⟨g, off, none⟩ = cs[off]? := cell_of_row w g off cs e fr h
theorem Piece.row (h : Piece w base e v l) : Row w v l := by
 rcases h with h | ⟨g, off, cap, cs, fr, hv, h0, h1, h2, h3, h4, h5⟩
 ·exact .inl h
 ·exact .inr ⟨g, off, cap, hv, h2, h3, fun i x hx => by rw [cell_of_heap h4]; exact h5 i x hx⟩
theorem Own.raise {base' : Nat} (h : Own w base e v l) (hb : ∀ x, v.ownBlock = some x → base' ≤ x) : Own w base' e v l := by
 refine ⟨h.1, ?_⟩
 rcases h.2 with h0 | ⟨g, cap, cur, rfl, _, rest⟩
 ·exact .inl h0
 ·exact .inr ⟨g, cap, cur, rfl, hb g (by simp [Value.ownBlock]), rest⟩
theorem Piece.nil (w : World) (base : Nat) (e : TypeId) : Piece w base e (.slice none 0 0) [] := .inl ⟨none, 0, rfl, rfl, Nat.zero_le _, fun _ => rfl⟩
theorem Own.piece (h : Own w base e v l) : Piece w base e v l := by
 have hrow := h.row
 rcases h.2 with ⟨rfl, h9⟩ | ⟨g, cap, cur, rfl, h1, h2, h3, h4, h5, h6⟩
 ·exact .inl ⟨none, 0, rfl, List.eq_nil_of_length_eq_zero h9, Nat.zero_le _, fun _ => rfl⟩
 ·by_cases hl : l = []
  ·subst hl
   exact .inl ⟨some ⟨g, 0, none⟩, cap, rfl, rfl, h4, fun h => by cases h⟩
  ·have hp : 0 < l.length := List.length_pos_iff.2 hl
   refine .inr ⟨g, 0, cap, cur, (0, 0), rfl, hp, h1, h3, h4, h2, fun i x hx => ?_⟩
   have hi := (List.getElem?_eq_some_iff.1 hx).1
   have ht : cur.toList.take l.length = l := by simpa using h6
   have : (cur.toList.take l.length)[i]? = some x := by rw [ht]; exact hx
   rw [List.getElem?_take, if_pos hi] at this
   simpa using this
theorem Piece.keeps (h : Piece w base e v l) (k : Keeps w w') : Piece w' base e v l := by
 rcases h with h | ⟨g, off, cap, cs, fr, hv, h0, h1, h2, h3, h4, h5⟩
 ·exact .inl h
 ·exact .inr ⟨g, off, cap, cs, fr, hv, h0, h1, h2, h3, by rw [k.block (Array.getElem?_eq_some_iff.1 h4).1]; exact h4, h5⟩
theorem Piece.lower {base' : Nat} (h : Piece w base e v l) (hb : base' ≤ base) : Piece w base' e v l := by
 rcases h with h | ⟨g, off, cap, cs, fr, hv, h0, h1, h2, h3, h4, h5⟩
 ·exact .inl h
 ·exact .inr ⟨g, off, cap, cs, fr, hv, h0, Nat.le_trans hb h1, h2, h3, h4, h5⟩
/-- a call that writes blocks of S alone, none of them of this element type -/
theorem Piece.modsT {S : Nat → Prop} (h : Piece w base e v l) (k : Mods S w w') (hn : ∀ x, S x → ∀ cs fr, w.heap[x]? ≠ some (.cells cs e fr)) : Piece w' base e v l := by
 rcases h with h | ⟨g, off, cap, cs, fr, hv, h0, h1, h2, h3, h4, h5⟩
 ·exact .inl h
 ·exact .inr ⟨g, off, cap, cs, fr, hv, h0, h1, h2, h3, k.heap h4 (fun hs => hn g hs cs fr h4), h5⟩
/-- a call that writes blocks of S alone, none from base on -/
theorem Piece.modsB {S : Nat → Prop} (h : Piece w base e v l) (k : Mods S w w') (hn : ∀ x, S x → base ≤ x → False) : Piece w' base e v l := by
 rcases h with h | ⟨g, off, cap, cs, fr, hv, h0, h1, h2, h3, h4, h5⟩
 ·exact .inl h
 ·exact .inr ⟨g, off, cap, cs, fr, hv, h0, h1, h2, h3, k.heap h4 (fun hs => hn g hs h1), h5⟩
theorem Piece.form (h : Piece w base e v l) : ∃ p cap, v = .slice p l.length cap ∧ l.length ≤ cap ∧ cap ≤ 9223372036854775807 := by
 obtain ⟨p, cap, hv, h1, h2⟩ := h.row.form
 exact ⟨p, cap, hv, h1, by simpa [maxLen] using h2⟩
/-- v[lo:n:n] of a slice that has n elements -/
theorem Piece.cutN {p : Option Addr} {n cap lo : Nat} (h : Piece w base e (.slice p n cap) l) (hn : n = l.length) (hlo : lo ≤ n) : Piece w base e (cutv p lo n n) (l.drop lo) := by
 subst hn
 rcases h with ⟨a0, cap', hv, rfl, h3, h4⟩ | ⟨g, off, cap', cs, fr, hv, h0, h1, h2, h3, h4, h5⟩
 ·simp at hlo
  subst hlo
  simp only [Value.slice.injEq] at hv
  refine .inl ⟨p, 0, by simp [cutv], by simp, Nat.zero_le _, fun _ => rfl⟩
 ·simp only [Value.slice.injEq] at hv
  obtain ⟨rfl, -, rfl⟩ := hv
  by_cases he : lo = l.length
  ·subst he
   exact .inl ⟨some ⟨g, off, none⟩, 0, by simp [cutv], by simp, Nat.zero_le _, fun _ => rfl⟩
  ·refine .inr ⟨g, off + lo, l.length - lo, cs, fr, ?_, by simp; omega, h1, by simp, by omega, h4, fun i x hx => ?_⟩
   ·have : ¬ l.length = lo := fun e => he e.symm
    simp [cutv, this, Go.WideShapes.add_plain]
   ·rw [Nat.add_assoc]
    exact h5 (lo + i) x (by simpa using hx)
end
end Go.Proofs.YtcleakjjefmmbaaGreat

/- Mailboxes' maps: entries and origins, by the kit's laws on maps. -/
namespace Go.Proofs.YtcleakjjefmmbaaGreat
open Go.RowKit
namespace Mbx
open Rcd Go.Maps

def intD (n : Int) : DataW Unit := .lit (.int .i64 n)
def intElem : Value → Option (DataW Unit × List MemPlace)
 | .int .i64 a => some (intD a, [])
 | _ => none
theorem intElem_inv {v : Value} {n : Int} {ps : List MemPlace} (h : intElem v = some (intD n, ps)) : v = .int .i64 n := by
 unfold intElem at h
 split at h
 ·simp only [Option.some.injEq, Prod.mk.injEq] at h
  have := h.1
  simp [intD] at this
  subst this
  rfl
 ·cases h
/-- a map read as a function on numbers -/
def Reads {α : Type} (D : DataW Unit) (f : Int → Option α) (enc : α → DataW Unit) : Prop := IsMap D ∧ ∀ x : Int, has D (.int .i64 x) = (f x).isSome ∧ ∀ v, f x = some v → ∀ z, D.atKey (.int .i64 x) z = enc v
theorem reads_new {α : Type} (enc : α → DataW Unit) : Reads (.map []) (fun _ => none) enc := ⟨isMap_empty, fun _ => ⟨rfl, fun _ h => by cases h⟩⟩
theorem isKeyInt (x : Int) : WideAt.IsKeyLit (.int .i64 x) := by simp [WideAt.IsKeyLit]
theorem Reads.put {α : Type} {D : DataW Unit} {f : Int → Option α} {enc : α → DataW Unit} (h : Reads D f enc) (k : Int) (v : α) : Reads (D.put (.int .i64 k) (enc v)) (upd f k v) enc := by
 refine ⟨h.1.put _ _, fun x => ?_⟩
 by_cases hx : x = k
 ·subst hx
  rw [has_put_same h.1 (isKeyInt x), upd_same]
  exact ⟨rfl, fun u hu z => by cases hu; exact atKey_put_same h.1 (isKeyInt x) _ _⟩
 ·have hne : (Lit.int .i64 x) ≠ .int .i64 k := by simp [hx]
  rw [has_put_other hne, upd_other _ _ hx]
  exact ⟨(h.2 x).1, fun u hu z => by rw [atKey_put_other hne]; exact (h.2 x).2 u hu z⟩
theorem Reads.at_ {α : Type} {D : DataW Unit} {f : Int → Option α} {enc : α → DataW Unit} (h : Reads D f enc) (x : Int) (z : α) : D.atKey (.int .i64 x) (enc z) = enc ((f x).getD z) := by
 cases e : f x with
 |some v => exact (h.2 x).2 v e _
 |none => exact atKey_of_not_has (by rw [(h.2 x).1, e]; rfl) _
end Mbx
end Go.Proofs.YtcleakjjefmmbaaGreat

/- The sink: what it holds, and what each call makes of it. bytes.Clone. -/
namespace Go.Proofs.YtcleakjjefmmbaaGreat
open Go.RowKit
namespace Oct

theorem _root_.Go.Proofs.YtcleakjjefmmbaaGreat.Own.sl {w : World} {base : Nat} {e : TypeId} {v : Value} {l : List Value} (h : Own w base e v l) : ∃ p n cap, v = .slice p n cap := by
 obtain ⟨p, cap, rfl, -⟩ := h.row.form
 exact ⟨_, _, _, rfl⟩
theorem str9 : Tryz.prog.underlying 9 = some .string := Tryz.underlying9

set_option maxHeartbeats 400000 in
theorem clone_any (v : Value) (l : List UInt8) (w : World) (hr : Row w v (l.map u8v)) (hl : l.length ≤ 35184372088832) : Calls Tryz.prog 228 #[v] w (RetS w l) := by
 obtain ⟨p, cap, rfl, hc1, hc2⟩ := hr.formB
 have HR := Lib.hid hr
 clear hr
 have en := fun (w : World) (a : Option Addr) (n c : Nat) => Lib.run_eql_slice_nil (P := Tryz.prog) w 53 5 a n c 0 0 Tryz.underlying53
 cases p with
 |none =>
  have HE : Hid (RetS w l (.returned (.slice none 0 0)) w) := Lib.hid (by
   have : l = [] := by
    rcases HR.out with ⟨a0, cap', -, hl0, -, -⟩ | ⟨b, off, cap', hv, -⟩
    ·simpa using hl0
    ·simp at hv
   subst this
   exact ⟨_, rfl, Own.nil _ _ _, Keeps.refl _⟩)
  go_enter Tryz.func228, Tryz.ntmps228
  go_wp2
  go_ret
  exact HE.out
 |some ad =>
  go_enter Tryz.func228, Tryz.ntmps228
  go_wp2_with (at_builtin; refine wpList_app1 (base := w.heap.size) u8ok rfl _ _ rfl (.slice (some ⟨w.heap.size, 0, none⟩) 0 0) _ [] (l.map u8v) rfl rfl (Own.empty w.heap.size rfl (Nat.le_refl _)) (HR.out.keeps ((Keeps.refl _).alloc _)) (oneCell_map_u8 _) (by simp; omega) (by omega) (by simp) ?_; intro v' w2 ho2 hg2 hf2)
  go_ret
  exact ⟨_, rfl, by simpa using ho2, ((Keeps.refl _).alloc _).grown hg2 (by intro k hk; simp [Value.ownBlock] at hk; omega)⟩

/-- the blocks of a sink at g with slice v -/
def Fr (g : Nat) (v : Value) (x : Nat) : Prop := x = g ∨ v.ownBlock = some x

structure SinkAt (w : World) (g : Nat) (v : Value) (l : List UInt8) : Prop where
 blk : Blk w g 284 #[v]
 own : Own w 0 5 v (l.map u8v)

theorem SinkAt.keeps {w w' : World} {g : Nat} {v : Value} {l : List UInt8} (h : SinkAt w g v l) (k : Keeps w w') : SinkAt w' g v l := ⟨h.blk.keeps k, h.own.keeps k⟩
theorem SinkAt.mods {w w' : World} {g : Nat} {v : Value} {l : List UInt8} {S : Nat → Prop} (h : SinkAt w g v l) (k : Mods S w w') (hn : ∀ x, Fr g v x → ¬ S x) : SinkAt w' g v l := ⟨h.blk.mods k (hn g (.inl rfl)), h.own.mods k fun x hx => hn x (.inr hx)⟩
theorem SinkAt.ne {w : World} {g : Nat} {v : Value} {l : List UInt8} (h : SinkAt w g v l) : v.ownBlock ≠ some g := h.own.blk_ne h.blk (by decide)
theorem SinkAt.lt {w : World} {g : Nat} {v : Value} {l : List UInt8} (h : SinkAt w g v l) : ∀ x, Fr g v x → x < w.heap.size := fun x hx => hx.elim (fun e => e ▸ h.blk.lt) (fun e => h.own.block_lt x e)

/-- the call answers r; the sink holds l' then, and no other old block is changed -/
def SinkDid (W : World) (g : Nat) (v : Value) (l' : List UInt8) (r : Ending) (e : Ending) (w' : World) : Prop :=
 ∃ v', e = r ∧ SinkAt w' g v' l' ∧ Mods (Fr g v) W w' ∧ Fresh W v v'

theorem sink_stored {w w2 : World} {g : Nat} {v v' : Value} {l l' : List UInt8} (h : SinkAt w g v l) (hg : w.grownBy w2 v.ownBlock) (ho : Own w2 0 5 v' (l'.map u8v)) :
  SinkAt (w2.setCell ⟨g, 0, none⟩ v') g v' l' ∧ Mods (Fr g v) w (w2.setCell ⟨g, 0, none⟩ v') := by
 have hb : Blk w2 g 284 #[v] := h.blk.grown hg h.ne
 have hne : v'.ownBlock ≠ some g := ho.blk_ne hb (by decide)
 refine ⟨⟨by simpa using hb.set_ 0 v', ho.setCell _ hne⟩, ?_⟩
 exact ((Mods.refl _ w).grown hg (fun k hk _ => .inr hk)).setCell (fun _ => .inl rfl) _

/-- a new sink -/
def NewSinkDid (W : World) (e : Ending) (w' : World) : Prop := ∃ g, e = .returned (.pointer (some ⟨g, 0, none⟩)) ∧ W.heap.size ≤ g ∧ SinkAt w' g (.slice none 0 0) [] ∧ Keeps W w'

theorem newSink_any (w : World) : Calls Tryz.prog 180 #[] w (NewSinkDid w) := by
 have HE : Hid (NewSinkDid w (.returned (.pointer (some ⟨w.heap.size, 0, none⟩))) (w.alloc (.cells #[.slice none 0 0] 284))) :=
  Lib.hid ⟨w.heap.size, rfl, Nat.le_refl _, ⟨Blk.new _ _ _ rfl, Own.nil _ _ _⟩, (Keeps.refl _).alloc _⟩
 go_enter Tryz.func180, Tryz.ntmps180
 go_wp2
 go_ret
 exact HE.out

set_option maxHeartbeats 400000 in
theorem sinkU_any (g : Nat) (v : Value) (l : List UInt8) (x : Nat) (hx : x < 18446744073709551616) (k : Int) (w : World) (h : SinkAt w g v l) (hl : l.length ≤ 35184372088832) :
  Calls Tryz.prog 181 #[.pointer (some ⟨g, 0, none⟩), .int .u64 (x : Int), .int .i64 k] w (SinkDid w g v (l ++ putL x k) (.returned (.bool (putB x k)))) := by
 have HS := Lib.hid h
 clear h
 go_enter Tryz.func181, Tryz.ntmps181
 go_wp2_with fail
 refine (put_any x hx k _).mono ?_
 rintro e w1 ⟨b, rfl, hown1, hK1⟩
 have hlen : (putL x k).length ≤ 8 := by unfold putL; split <;> simp [be_length, putB, okk] at * <;> omega
 have HS1 := Lib.hid (HS.out.keeps hK1)
 have hc : w1.cell? ⟨g, 0, none⟩ = some v := by have := HS1.out.blk.cell 0; simpa using this
 have hf : w1.frozen? ⟨g, 0, none⟩ = false := HS1.out.blk.frozen 0
 have HO := Lib.hid hown1
 clear hown1
 go_wp2_with (at_builtin; refine wpList_app1 (base := 0) u8ok rfl _ _ rfl v b (l.map u8v) ((putL x k).map u8v) rfl rfl HS1.out.own HO.out.row (oneCell_map_u8 _) (by simp; omega) (by omega) (Nat.zero_le _) ?_; intro v' w2 ho2 hg2 hf2; obtain ⟨p2, n2, cap2, rfl⟩ := ho2.sl; have hc2 : w2.cell? ⟨g, 0, none⟩ = some v := by { have := (HS1.out.blk.grown hg2 HS1.out.ne).cell 0; simpa using this }; have hfr2 : w2.frozen? ⟨g, 0, none⟩ = false := (HS1.out.blk.grown hg2 HS1.out.ne).frozen 0)
 rw [← List.map_append] at ho2
 have hst := sink_stored HS1.out hg2 ho2
 go_ret
 exact ⟨_, rfl, hst.1, (Mods.of_keeps hK1 : Mods (Fr g v) w w1).trans hst.2 (fun _ h _ => h), hf2.back hK1.size⟩

set_option maxHeartbeats 400000 in
theorem sinkRaw_any (g : Nat) (v : Value) (l : List UInt8) (u : Value) (m : List UInt8) (w : World) (h : SinkAt w g v l) (hr : Row w u (m.map u8v)) (hl : l.length + m.length ≤ 35184372088832) :
  Calls Tryz.prog 184 #[.pointer (some ⟨g, 0, none⟩), u] w (SinkDid w g v (l ++ m) (.returned (.tuple #[]))) := by
 have HS1 := Lib.hid h
 have hc : w.cell? ⟨g, 0, none⟩ = some v := by have := h.blk.cell 0; simpa using this
 have hf : w.frozen? ⟨g, 0, none⟩ = false := h.blk.frozen 0
 have HR := Lib.hid hr
 clear h hr
 go_enter Tryz.func184, Tryz.ntmps184
 go_wp2_with (at_builtin; refine wpList_app1 (base := 0) u8ok rfl _ _ rfl v u (l.map u8v) (m.map u8v) rfl rfl HS1.out.own HR.out (oneCell_map_u8 _) (by simp; omega) (by omega) (Nat.zero_le _) ?_; intro v' w2 ho2 hg2 hf2; obtain ⟨p2, n2, cap2, rfl⟩ := ho2.sl; have hc2 : w2.cell? ⟨g, 0, none⟩ = some v := by { have := (HS1.out.blk.grown hg2 HS1.out.ne).cell 0; simpa using this }; have hfr2 : w2.frozen? ⟨g, 0, none⟩ = false := (HS1.out.blk.grown hg2 HS1.out.ne).frozen 0)
 rw [← List.map_append] at ho2
 have hst := sink_stored HS1.out hg2 ho2
 go_end0
 exact ⟨_, rfl, hst.1, hst.2, hf2⟩

/-- a text's bytes -/
def textL (s : ByteArray) : List UInt8 := putL s.size 4 ++ s.data.toList

set_option maxHeartbeats 400000 in
theorem sinkText_any (g : Nat) (v : Value) (l : List UInt8) (s : ByteArray) (w : World) (h : SinkAt w g v l) (hl : l.length + s.size ≤ 35184372088000) :
  Calls Tryz.prog 186 #[.pointer (some ⟨g, 0, none⟩), .string s] w (SinkDid w g v (l ++ textL s) (.returned (.tuple #[]))) := by
 have HC := Lib.hid (sinkU_any g v l s.size (by omega) 4 w h (by omega))
 clear h
 go_enter Tryz.func186, Tryz.ntmps186
 go_wp2_with fail
 refine HC.out.mono ?_
 rintro e w1 ⟨v1, rfl, hS1, hM1, hF1⟩
 have hlen : (putL s.size 4).length ≤ 8 := by unfold putL; split <;> simp [be_length]
 have HS1 := Lib.hid hS1
 have hc : w1.cell? ⟨g, 0, none⟩ = some v1 := by have := hS1.blk.cell 0; simpa using this
 have hf : w1.frozen? ⟨g, 0, none⟩ = false := hS1.blk.frozen 0
 clear hS1 HC
 go_wp2_with (at_builtin; refine wpList_appstr (base := 0) Tryz.underlying53 str9 i22 rfl _ _ rfl v1 ((l ++ putL s.size 4).map u8v) s rfl rfl HS1.out.own (by simp; omega) (Nat.zero_le _) ?_; intro v' w2 ho2 hg2 hf2; obtain ⟨p2, n2, cap2, rfl⟩ := ho2.sl; have hc2 : w2.cell? ⟨g, 0, none⟩ = some v1 := by { have := (HS1.out.blk.grown hg2 HS1.out.ne).cell 0; simpa using this }; have hfr2 : w2.frozen? ⟨g, 0, none⟩ = false := (HS1.out.blk.grown hg2 HS1.out.ne).frozen 0)
 rw [← List.map_append] at ho2
 have hst := sink_stored HS1.out hg2 ho2
 go_end0
 exact ⟨_, rfl, by rw [textL, ← List.append_assoc]; exact hst.1, hM1.trans hst.2 (fun x h hx => h.elim .inl fun e => (hF1 x e).elim .inr fun h => by omega), hF1.trans hf2 hM1.size⟩

theorem sinkBytes_any (g : Nat) (v : Value) (l : List UInt8) (w : World) (h : SinkAt w g v l) (hl : l.length ≤ 35184372088832) :
  Calls Tryz.prog 183 #[.pointer (some ⟨g, 0, none⟩)] w (RetS w l) := by
 have hc : w.cell? ⟨g, 0, none⟩ = some v := by have := h.blk.cell 0; simpa using this
 have HC := Lib.hid (clone_any v l w h.own.row hl)
 clear h
 go_enter Tryz.func183, Tryz.ntmps183
 go_wp2_with fail
 refine HC.out.mono ?_
 rintro e w1 ⟨b, rfl, hown1, hK1⟩
 go_wp2_with fail
 go_ret
 exact ⟨_, rfl, hown1, hK1⟩

end Oct
end Go.Proofs.YtcleakjjefmmbaaGreat

/- The source: what it holds, and what each call takes of it. -/
namespace Go.Proofs.YtcleakjjefmmbaaGreat
open Go.RowKit
namespace Oct

/-- a source at g: its bytes l, the place, the error -/
structure SrcAt (w : World) (g : Nat) (v : Value) (l : List UInt8) (at' : Nat) (e : Int) : Prop where
 blk : Blk w g 302 #[v, .int .i64 (at' : Int), .int .i64 e]
 own : Own w 0 5 v (l.map u8v)
 le : at' ≤ l.length
 len : l.length ≤ 35184372088832

theorem SrcAt.keeps {w w' : World} {g : Nat} {v : Value} {l : List UInt8} {a : Nat} {e : Int} (h : SrcAt w g v l a e) (k : Keeps w w') : SrcAt w' g v l a e := ⟨h.blk.keeps k, h.own.keeps k, h.le, h.len⟩
theorem SrcAt.mods {w w' : World} {g : Nat} {v : Value} {l : List UInt8} {a : Nat} {e : Int} {S : Nat → Prop} (h : SrcAt w g v l a e) (k : Mods S w w') (hn : ∀ x, Fr g v x → ¬ S x) : SrcAt w' g v l a e := ⟨h.blk.mods k (hn g (.inl rfl)), h.own.mods k fun x hx => hn x (.inr hx), h.le, h.len⟩
theorem SrcAt.ne {w : World} {g : Nat} {v : Value} {l : List UInt8} {a : Nat} {e : Int} (h : SrcAt w g v l a e) : v.ownBlock ≠ some g := h.own.blk_ne h.blk (by decide)
theorem SrcAt.cells {w : World} {g : Nat} {v : Value} {l : List UInt8} {a : Nat} {e : Int} (h : SrcAt w g v l a e) : w.cell? ⟨g, 0, none⟩ = some v ∧ w.cell? ⟨g, 1, none⟩ = some (.int .i64 (a : Int)) ∧ w.cell? ⟨g, 2, none⟩ = some (.int .i64 e) :=
 ⟨by have := h.blk.cell 0; simpa using this, by have := h.blk.cell 1; simpa using this, by have := h.blk.cell 2; simpa using this⟩
theorem SrcAt.free {w : World} {g : Nat} {v : Value} {l : List UInt8} {a : Nat} {e : Int} (h : SrcAt w g v l a e) : w.frozen? ⟨g, 0, none⟩ = false ∧ w.frozen? ⟨g, 1, none⟩ = false ∧ w.frozen? ⟨g, 2, none⟩ = false :=
 ⟨h.blk.frozen 0, h.blk.frozen 1, h.blk.frozen 2⟩
theorem SrcAt.setE {w : World} {g : Nat} {v : Value} {l : List UInt8} {a : Nat} {e : Int} (h : SrcAt w g v l a e) (e' : Int) : SrcAt (w.setCell ⟨g, 2, none⟩ (.int .i64 e')) g v l a e' :=
 ⟨by simpa using h.blk.set_ 2 (.int .i64 e'), h.own.setCell _ h.ne, h.le, h.len⟩
theorem SrcAt.setA {w : World} {g : Nat} {v : Value} {l : List UInt8} {a : Nat} {e : Int} (h : SrcAt w g v l a e) (a' : Nat) (ha : a' ≤ l.length) : SrcAt (w.setCell ⟨g, 1, none⟩ (.int .i64 (a' : Int))) g v l a' e :=
 ⟨by simpa using h.blk.set_ 1 (.int .i64 (a' : Int)), h.own.setCell _ h.ne, ha, h.len⟩

def NewSourceDid (W : World) (l : List UInt8) (e : Ending) (w' : World) : Prop := ∃ g v, e = .returned (.pointer (some ⟨g, 0, none⟩)) ∧ W.heap.size ≤ g ∧ SrcAt w' g v l 0 0 ∧ (∀ x, v.ownBlock = some x → W.heap.size ≤ x) ∧ Keeps W w'

theorem newSource_any (v : Value) (l : List UInt8) (w : World) (hr : Row w v (l.map u8v)) (hl : l.length ≤ 35184372088832) : Calls Tryz.prog 201 #[v] w (NewSourceDid w l) := by
 have HC := Lib.hid (clone_any v l w hr hl)
 clear hr
 go_enter Tryz.func201, Tryz.ntmps201
 go_wp2_with fail
 refine HC.out.mono ?_
 rintro e w1 ⟨b, rfl, hown1, hK1⟩
 have HO := Lib.hid hown1
 obtain ⟨p2, n2, cap2, rfl⟩ := hown1.sl
 clear hown1
 go_wp2
 go_ret
 exact ⟨_, _, rfl, hK1.size, ⟨Blk.new _ _ _ rfl, (HO.out.alloc _).lower (Nat.zero_le _), Nat.zero_le _, hl⟩, HO.out.base, hK1.alloc _⟩

/-- the call changes the source's block alone -/
def SrcDid (W : World) (g : Nat) (v : Value) (l : List UInt8) (a : Nat) (er : Int) (r : Ending) (e : Ending) (w' : World) : Prop :=
 e = r ∧ SrcAt w' g v l a er ∧ Mods (· = g) W w'

def failE (is : Bool) (ne er : Int) : Int := if is && er == 0 then ne else er
def failB (is : Bool) (ne er : Int) : Bool := is && ne != 0 || er != 0
def doneE (er : Int) (a n : Nat) : Int := if er = 0 ∧ a < n then 3 else er
theorem fail_any (g : Nat) (v : Value) (l : List UInt8) (a : Nat) (er : Int) (is : Bool) (ne : Int) (w : World) (h : SrcAt w g v l a er) :
  Calls Tryz.prog 247 #[.pointer (some ⟨g, 0, none⟩), .bool is, .int .i64 ne] w (SrcDid w g v l a (failE is ne er) (.returned (.bool (failB is ne er)))) := by
 obtain ⟨hc0, hc1, hc2⟩ := h.cells
 obtain ⟨hf0, hf1, hf2⟩ := h.free
 cases is
 ·have HE : Hid (SrcDid w g v l a (failE false ne er) (.returned (.bool (failB false ne er))) (.returned (.bool (er != 0))) w) := Lib.hid ⟨by simp [failB], by simpa [failE] using h, Mods.refl _ _⟩
  clear h
  go_enter Tryz.func247, Tryz.ntmps247
  go_wp2
  go_ret
  exact HE.out
 ·by_cases he : er = 0
  ·subst he
   have HE : Hid (SrcDid w g v l a (failE true ne 0) (.returned (.bool (failB true ne 0))) (.returned (.bool (ne != 0))) (w.setCell ⟨g, 2, none⟩ (.int .i64 ne))) := Lib.hid ⟨by simp [failB], by simpa [failE] using h.setE ne, Mods.setCell (p := ⟨g, 2, none⟩) (Mods.refl (· = g) w) (fun _ => rfl) _⟩
   clear h
   go_enter Tryz.func247, Tryz.ntmps247
   go_wp2
   go_ret
   exact HE.out
  ·have he1 : (er == 0) = false := by simp [he]
   have HE : Hid (SrcDid w g v l a (failE true ne er) (.returned (.bool (failB true ne er))) (.returned (.bool (er != 0))) w) := Lib.hid ⟨by simp [failB, he], by simpa [failE, he] using h, Mods.refl _ _⟩
   clear h he
   go_enter Tryz.func247, Tryz.ntmps247
   go_wp2
   go_ret
   exact HE.out

def QuietI (W : World) (n : Int) (e : Ending) (w' : World) : Prop := e = .returned (.int .i64 n) ∧ Keeps W w'

set_option maxHeartbeats 400000 in
theorem left_any (g : Nat) (v : Value) (l : List UInt8) (a : Nat) (er : Int) (w : World) (h : SrcAt w g v l a er) :
  Calls Tryz.prog 248 #[.pointer (some ⟨g, 0, none⟩)] w (QuietI w ((l.length : Int) - a)) := by
 obtain ⟨hc0, hc1, hc2⟩ := h.cells
 have hle := h.le
 obtain ⟨p, cap, rfl, h1, h2⟩ := h.own.row.formB
 clear h
 go_enter Tryz.func248, Tryz.ntmps248
 go_wp2
 go_quiet (fail)
 go_wp2
 go_ret
 exact ⟨rfl, (Keeps.refl _).drewN _⟩

theorem err_any (g : Nat) (v : Value) (l : List UInt8) (a : Nat) (er : Int) (w : World) (h : SrcAt w g v l a er) :
  Calls Tryz.prog 205 #[.pointer (some ⟨g, 0, none⟩)] w fun e w' => e = .returned (.int .i64 er) ∧ w = w' := by
 obtain ⟨hc0, hc1, hc2⟩ := h.cells
 clear h
 go_enter Tryz.func205, Tryz.ntmps205
 go_wp2
 go_ret
 exact ⟨rfl, rfl⟩

theorem done_any (g : Nat) (v : Value) (l : List UInt8) (a : Nat) (er : Int) (w : World) (h : SrcAt w g v l a er) :
  Calls Tryz.prog 206 #[.pointer (some ⟨g, 0, none⟩)] w (QuietI w (doneE er a l.length)) := by
 obtain ⟨hc0, hc1, hc2⟩ := h.cells
 have HL := Lib.hid (left_any g v l a er w h)
 have hle := h.le
 have hlen := h.len
 by_cases he : er = 0
 ·subst he
  by_cases hlt : a < l.length
  ·have HE : Hid (doneE 0 a l.length = 3) := Lib.hid (by simp [doneE, hlt])
   clear h
   go_enter Tryz.func206, Tryz.ntmps206
   go_wp2_with (go_at_call 248; refine HL.out.mono ?_; rintro e w1 ⟨rfl, hK1⟩)
   go_ret
   exact ⟨retI HE.out.symm, hK1⟩
  ·have HE : Hid (doneE 0 a l.length = 0) := Lib.hid (by simp [doneE, hlt])
   clear h
   go_enter Tryz.func206, Tryz.ntmps206
   go_wp2_with (go_at_call 248; refine HL.out.mono ?_; rintro e w1 ⟨rfl, hK1⟩)
   go_ret
   exact ⟨retI HE.out.symm, hK1⟩
 ·have he1 : (er == 0) = false := by simp [he]
  have HE : Hid (doneE er a l.length = er) := Lib.hid (by simp [doneE, he])
  clear h he
  go_enter Tryz.func206, Tryz.ntmps206
  go_wp2
  go_ret
  exact ⟨retI HE.out.symm, Keeps.refl _⟩
end Oct
end Go.Proofs.YtcleakjjefmmbaaGreat

/- The source's U, I, Raw and Text. -/
namespace Go.Proofs.YtcleakjjefmmbaaGreat
open Go.RowKit
namespace Oct

theorem quiet_left {P : Program} {f : FuncId} {args : Array Value} {w : World} {n : Nat} {v : Value}
  (h : Calls P f args (w.drewN n) fun e w' => e = .returned v ∧ w.drewN n = w') : Calls P f args (w.drewN n) fun e w'' => e = .returned v ∧ ∃ m, w'' = w.drewN m :=
 h.mono fun _ _ ⟨he, hm⟩ => ⟨he, n, hm.symm⟩

def uE (n a : Nat) (er k : Int) : Int := if er ≠ 0 then er else if okk k = false then 1 else if (n : Int) - a < k then 2 else 0
def uA (n a : Nat) (er k : Int) : Nat := if uE n a er k = 0 then a + k.toNat else a
def uV (l : List UInt8) (a : Nat) (er k : Int) : Nat := if uE l.length a er k = 0 then getV l a k else 0

set_option maxHeartbeats 1000000 in
theorem srcU_any (g : Nat) (v : Value) (l : List UInt8) (a : Nat) (er k : Int) (w : World) (h : SrcAt w g v l a er) :
  Calls Tryz.prog 204 #[.pointer (some ⟨g, 0, none⟩), .int .i64 k] w (SrcDid w g v l (uA l.length a er k) (uE l.length a er k) (.returned (.int .u64 (uV l a er k : Nat)))) := by
 have HG := Lib.hid (good_any k w)
 by_cases he : er = 0
 ·subst he
  cases hk : okk k
  ·have hE : uE l.length a 0 k = 1 := by simp [uE, hk]
   have H : Hid (uE l.length a 0 k = 1 ∧ uA l.length a 0 k = a ∧ ((uV l a 0 k : Nat) : Int) = 0) := Lib.hid ⟨hE, by simp [uA, hE], by simp [uV, hE]⟩
   have HF := Lib.hid (fail_any g v l a 0 true 1 w h)
   rw [show failB true 1 0 = true from rfl, show failE true 1 0 = 1 from rfl] at HF
   rw [hk] at HG
   clear h hE hk
   go_enter Tryz.func204, Tryz.ntmps204
   go_wp2_with (first | (go_at_call 250; refine HG.out.mono ?_; rintro e w' ⟨rfl, rfl⟩) | (go_at_call 247; refine HF.out.mono ?_; rintro e w1 ⟨rfl, hS1, hM1⟩))
   go_ret
   exact ⟨retI H.out.2.2.symm, by rw [H.out.1, H.out.2.1]; exact hS1, hM1⟩
  ·have HF := Lib.hid (fail_any g v l a 0 false 1 w h)
   rw [show failB false 1 0 = false from rfl, show failE false 1 0 = 0 from rfl] at HF
   rw [hk] at HG
   have hle := h.le
   have hlen := h.len
   by_cases hlt : (l.length : Int) - a < k
   ·have hE : uE l.length a 0 k = 2 := by simp [uE, hk, hlt]
    have H : Hid (uE l.length a 0 k = 2 ∧ uA l.length a 0 k = a ∧ ((uV l a 0 k : Nat) : Int) = 0) := Lib.hid ⟨hE, by simp [uA, hE], by simp [uV, hE]⟩
    clear h hE hk
    go_enter Tryz.func204, Tryz.ntmps204
    go_wp2_with (go_at_call 250; refine HG.out.mono ?_; rintro e w' ⟨rfl, rfl⟩)
    refine HF.out.mono ?_
    rintro e w1 ⟨rfl, hS1, hM1⟩
    have HL := Lib.hid (left_any g v l a 0 w1 hS1)
    go_wp2_with fail
    refine HL.out.mono ?_
    rintro e w2 ⟨rfl, hK2⟩
    have HF2 := Lib.hid (fail_any g v l a 0 true 2 w2 (hS1.keeps hK2))
    rw [show failB true 2 0 = true from rfl, show failE true 2 0 = 2 from rfl] at HF2
    clear hS1 HL
    go_wp2_with fail
    refine HF2.out.mono ?_
    rintro e w3 ⟨rfl, hS3, hM3⟩
    go_wp2_with fail
    go_ret
    exact ⟨retI H.out.2.2.symm, by rw [H.out.1, H.out.2.1]; exact hS3, (hM1.then hK2).trans hM3 fun _ h _ => h⟩
   ·have hE : uE l.length a 0 k = 0 := by simp [uE, hk, hlt]
    obtain ⟨n, rfl, hn1, hn8⟩ := okk_nat hk
    have hgb : getB l a n = true := by simp [getB, hk]; omega
    have H : Hid (uE l.length a 0 n = 0 ∧ uA l.length a 0 n = a + n ∧ uV l a 0 n = getV l a n) := Lib.hid ⟨hE, by simp [uA, hE], by simp [uV, hE]⟩
    have HGB := Lib.hid hgb
    have hd : decide ((l.length : Int) - a < (n : Int)) = false := by simp; omega
    clear h hE hk hgb
    go_enter Tryz.func204, Tryz.ntmps204
    go_wp2_with (go_at_call 250; refine HG.out.mono ?_; rintro e w' ⟨rfl, rfl⟩)
    refine HF.out.mono ?_
    rintro e w1 ⟨rfl, hS1, hM1⟩
    have HL := Lib.hid (left_any g v l a 0 w1 hS1)
    go_wp2_with fail
    refine HL.out.mono ?_
    rintro e w2 ⟨rfl, hK2⟩
    have HF2 := Lib.hid (fail_any g v l a 0 false 2 w2 (hS1.keeps hK2))
    rw [show failB false 2 0 = false from rfl, show failE false 2 0 = 0 from rfl] at HF2
    clear hS1 HL
    go_wp2_with fail
    refine HF2.out.mono ?_
    rintro e w3 ⟨rfl, hS3, hM3⟩
    obtain ⟨hc0, hc1, hc2⟩ := hS3.cells
    obtain ⟨hf0, hf1, hf2⟩ := hS3.free
    obtain ⟨p, cap, rfl, hcap1, hcap2⟩ := hS3.own.row.formB
    have HGet := Lib.hid (fun w hr => get_any (.slice p l.length cap) l a n w hr)
    have HRow := Lib.hid hS3.own.row
    have HS3 := Lib.hid hS3
    rw [HGB.out] at HGet
    clear hS3
    go_wp2_with fail
    go_quiet ((go_at_call 246; exact quiet_left (HGet.out _ (HRow.out.keeps ((Keeps.refl _).drewN _)))))
    go_wp2_with fail
    go_ret
    have hS4 := (HS3.out.keeps ((Keeps.refl _).drewN nq)).setA (a + n) (by omega)
    refine ⟨retI (by rw [H.out.2.2]), by rw [H.out.1, H.out.2.1]; simpa using hS4, ?_⟩
    exact Mods.setCell (p := ⟨g, 1, none⟩) (((hM1.then hK2).trans hM3 fun _ h _ => h).then ((Keeps.refl _).drewN _)) (fun _ => rfl) _
 ·have hE : uE l.length a er k = er := by simp [uE, he]
  have H : Hid (uE l.length a er k = er ∧ uA l.length a er k = a ∧ ((uV l a er k : Nat) : Int) = 0) := Lib.hid ⟨hE, by simp [uA, hE, he], by simp [uV, hE, he]⟩
  have HF := Lib.hid (fail_any g v l a er (!okk k) 1 w h)
  rw [show failB (!okk k) 1 er = true from by simp [failB, he], show failE (!okk k) 1 er = er from by simp [failE, he]] at HF
  clear h hE he
  go_enter Tryz.func204, Tryz.ntmps204
  go_wp2_with (first | (go_at_call 250; refine HG.out.mono ?_; rintro e w' ⟨rfl, rfl⟩) | (go_at_call 247; refine HF.out.mono ?_; rintro e w1 ⟨rfl, hS1, hM1⟩))
  go_ret
  exact ⟨retI H.out.2.2.symm, by rw [H.out.1, H.out.2.1]; exact hS1, hM1⟩

end Oct
end Go.Proofs.YtcleakjjefmmbaaGreat

/- strings.HasPrefix, strings.HasSuffix. -/
namespace Go.Proofs.YtcleakjjefmmbaaGreat
open Go.RowKit
namespace Sx
abbrev Str := List UInt8
def preB (s p : Str) : Bool := decide (p.length ≤ s.length) && (s.take p.length == p)
def sufB (s p : Str) : Bool := decide (p.length ≤ s.length) && (s.drop (s.length - p.length) == p)
theorem cut_to (l : Str) (n : Nat) (hn : n ≤ l.length) (w : World) : (Instr.slice 9 (.string (bstr l)) none (some (.int .i64 (n : Int))) none).run Tryz.prog w = .ok (.string (bstr (l.take n))) w := by
 rw [run_slice_string_to_if w 9 (bstr l) .i64 (n : Int) Tryz.underlying9, if_pos (by rw [bstr_size]; omega)]
 congr 2
 apply ByteArray.ext
 simp [bstr, ByteArray.data_extract]
theorem cut_from (l : Str) (n : Nat) (hn : n ≤ l.length) (w : World) : (Instr.slice 9 (.string (bstr l)) (some (.int .i64 (n : Int))) none none).run Tryz.prog w = .ok (.string (bstr (l.drop n))) w := by
 rw [run_slice_string_from_if w 9 (bstr l) .i64 (n : Int) Tryz.underlying9, if_pos (by rw [bstr_size]; omega)]
 congr 2
 apply ByteArray.ext
 simp only [bstr, ByteArray.data_extract]
 apply Array.ext'
 simp
 rw [List.take_of_length_le]
 simp [ByteArray.size]
theorem pre0_any (s p : Str) (hs : s.length ≤ 1000000000000) (hp : p.length ≤ 1000000000000) (w : World) : Calls Tryz.prog 85 #[.string (bstr s), .string (bstr p)] w fun e w' => e = .returned (.bool (preB s p)) ∧ w = w' := by
 have hss := bstr_size s
 have hsp := bstr_size p
 by_cases hA : p.length ≤ s.length
 ·have hA' : (p.length : Int) ≤ (s.length : Int) := by omega
  have hcut := fun wz => cut_to s p.length hA wz
  have bt := bstr_toList (s.take p.length)
  have bp := bstr_toList p
  have HX := Lib.hid (show preB s p = (s.take p.length == p) from by unfold preB; rw [decide_eq_true hA]; rfl)
  go_enter Tryz.func85, Tryz.ntmps85
  go_wp2_with fail
  go_ret
  exact ⟨by rw [HX.out]; rfl, rfl⟩
 ·have hA' : decide ((p.length : Int) ≤ (s.length : Int)) = false := by simp; omega
  have HX := Lib.hid (show preB s p = false from by unfold preB; rw [decide_eq_false hA]; rfl)
  go_enter Tryz.func85, Tryz.ntmps85
  go_wp2_with fail
  go_ret
  exact ⟨by rw [HX.out]; rfl, rfl⟩
theorem pre_any (s p : Str) (hs : s.length ≤ 1000000000000) (hp : p.length ≤ 1000000000000) (w : World) : Calls Tryz.prog 41 #[.string (bstr s), .string (bstr p)] w fun e w' => e = .returned (.bool (preB s p)) ∧ w = w' := by
 have HC := Lib.hid (pre0_any s p hs hp w)
 go_enter Tryz.func41, Tryz.ntmps41
 go_wp2_with fail
 refine HC.out.mono ?_
 rintro e w2 ⟨rfl, rfl⟩
 go_wp2_with fail
 go_ret
 exact ⟨rfl, rfl⟩
theorem suf0_any (s p : Str) (hs : s.length ≤ 1000000000000) (hp : p.length ≤ 1000000000000) (w : World) : Calls Tryz.prog 153 #[.string (bstr s), .string (bstr p)] w fun e w' => e = .returned (.bool (sufB s p)) ∧ w = w' := by
 have hss := bstr_size s
 have hsp := bstr_size p
 by_cases hA : p.length ≤ s.length
 ·have hA' : (p.length : Int) ≤ (s.length : Int) := by omega
  have hcut := fun wz => cut_from s (s.length - p.length) (by omega) wz
  have bt := bstr_toList (s.drop (s.length - p.length))
  have bp := bstr_toList p
  have hw : IntKind.i64.wrap ((s.length : Int) - (p.length : Int)) = ((s.length - p.length : Nat) : Int) := by rw [IntKind.wrap_i64]; omega
  have HX := Lib.hid (show sufB s p = (s.drop (s.length - p.length) == p) from by unfold sufB; rw [decide_eq_true hA]; rfl)
  obtain ⟨q, hq⟩ : ∃ q, q = s.length - p.length := ⟨_, rfl⟩
  rw [← hq] at hcut bt hw HX
  clear hq
  go_enter Tryz.func153, Tryz.ntmps153
  go_wp2_with fail
  go_ret
  exact ⟨by rw [HX.out]; rfl, rfl⟩
 ·have hA' : decide ((p.length : Int) ≤ (s.length : Int)) = false := by simp; omega
  have HX := Lib.hid (show sufB s p = false from by unfold sufB; rw [decide_eq_false hA]; rfl)
  go_enter Tryz.func153, Tryz.ntmps153
  go_wp2_with fail
  go_ret
  exact ⟨by rw [HX.out]; rfl, rfl⟩
theorem suf_any (s p : Str) (hs : s.length ≤ 1000000000000) (hp : p.length ≤ 1000000000000) (w : World) : Calls Tryz.prog 82 #[.string (bstr s), .string (bstr p)] w fun e w' => e = .returned (.bool (sufB s p)) ∧ w = w' := by
 have HC := Lib.hid (suf0_any s p hs hp w)
 go_enter Tryz.func82, Tryz.ntmps82
 go_wp2_with fail
 refine HC.out.mono ?_
 rintro e w2 ⟨rfl, rfl⟩
 go_wp2_with fail
 go_ret
 exact ⟨rfl, rfl⟩
end Sx
end Go.Proofs.YtcleakjjefmmbaaGreat

/- Several texts in one: Heap, Piece, MboxMap. -/
import Derived.Test.YtklbemkafdccgaaGreatK01
import Derived.Lib.AppendStr
import Derived.Laws.Rows
import Derived.Laws.BytesArg
import Derived.Lib.ConvBytes
import Derived.Test.YtklbemkafdccgaaGreatK00
import Derived.Maps.OwnSet
import Derived.Maps.OwnOps
/- Blocks that are known whole; append, with where the row lies behind it; strings of bytes. For every program. -/
namespace Go.Proofs.YtklbemkafdccgaaGreat
open Go.RowKit

/-- block g is these cells of type t, and none is frozen -/
def Blk (w : World) (g : Nat) (t : TypeId) (cs : Array Value) : Prop := w.heap[g]? = some (.cells cs t (0, 0))
section
variable {w w' : World} {g : Nat} {t : TypeId} {cs : Array Value}
theorem Blk.lt (h : Blk w g t cs) : g < w.heap.size := (Array.getElem?_eq_some_iff.1 h).1
theorem Blk.cell (h : Blk w g t cs) (i : Nat) : w.cell? ⟨g, i, none⟩ = cs[i]? := cell_of_row w g i cs t (0, 0) h
theorem Blk.frozen (h : Blk w g t cs) (i : Nat) : w.frozen? ⟨g, i, none⟩ = false := by
 unfold Blk at h
 simp [World.frozen?, h]
theorem Blk.new (w : World) (t : TypeId) (cs : Array Value) {b : Nat} (hb : b = w.heap.size) : Blk (w.alloc (.cells cs t)) b t cs := by
 subst hb
 show (w.heap.push _)[w.heap.size]? = _
 simp
theorem Blk.keeps (h : Blk w g t cs) (k : Keeps w w') : Blk w' g t cs := (k.block h.lt).trans h
theorem Blk.drew (h : Blk w g t cs) : Blk w.drew g t cs := h
theorem Blk.drewN (h : Blk w g t cs) (n : Nat) : Blk (w.drewN n) g t cs := h
theorem Blk.alloc (h : Blk w g t cs) (o : Obj) : Blk (w.alloc o) g t cs := h.keeps ((Keeps.refl _).alloc o)
theorem Blk.set_ (h : Blk w g t cs) (i : Nat) (u : Value) : Blk (w.setCell ⟨g, i, none⟩ u) g t (cs.setIfInBounds i u) := by
 unfold Blk at h ⊢
 simp [World.setCell, Array.getElem?_modify, h]
theorem Blk.far (h : Blk w g t cs) {p : Addr} (hp : g ≠ p.block) (u : Value) : Blk (w.setCell p u) g t cs := (Below.heap_setCell w p u g hp).trans h
theorem Blk.grown {row : Option Nat} (h : Blk w g t cs) (hb : w.grownBy w' row) (hg : row ≠ some g) : Blk w' g t cs := (hb.block g h.lt (fun e => hg e.symm)).trans h
theorem Blk.mods {S : Nat → Prop} (h : Blk w g t cs) (k : Mods S w w') (hn : ¬ S g) : Blk w' g t cs := k.heap h hn
theorem Own.blk_ne {base : Nat} {e : TypeId} {v : Value} {l : List Value} (h : Own w base e v l) (hg : Blk w g t cs) (hne : e ≠ t) : v.ownBlock ≠ some g := by
 rcases h.2 with ⟨rfl, _⟩ | ⟨g', cap, cur, rfl, _, hh, _⟩
 ·simp [Value.ownBlock]
 ·intro he
  have : g' = g := by simpa [Value.ownBlock] using he
  subst this
  unfold Blk at hg
  rw [hg] at hh
  simp only [Option.some.injEq, Obj.cells.injEq] at hh
  exact hne hh.2.1.symm
end

/-- v' lies where v lay, or in a block that is new in w -/
def Fresh (w : World) (v v' : Value) : Prop := ∀ x, v'.ownBlock = some x → v.ownBlock = some x ∨ w.heap.size ≤ x
theorem Fresh.refl (w : World) (v : Value) : Fresh w v v := fun _ h => .inl h
theorem Fresh.trans {w w' : World} {a b c : Value} (h : Fresh w a b) (k : Fresh w' b c) (hs : w.heap.size ≤ w'.heap.size) : Fresh w a c := fun x hx => by
 rcases k x hx with h1 | h1
 ·exact h x h1
 ·exact .inr (Nat.le_trans hs h1)
theorem Fresh.back {w w' : World} {a b : Value} (k : Fresh w' a b) (hs : w.heap.size ≤ w'.heap.size) : Fresh w a b := fun x hx => (k x hx).imp id (Nat.le_trans hs)

/-- append(s, x...), one-cell elements, with where the row lies -/
theorem wpList_app1 {P : Program} {w : World} {ops : Array Oper} {rest : List Oper} {o : Oper} {a : Act} {Q : Exit → Act → World → Prop} {t e : TypeId} {bytes base : Nat} (he : ElemOk P t e bytes) (hgd : o.guard = none) (s x : Operand)
  (ho : o.op = .call { callee := .builtin .append, args := #[s, x], argTypes := #[t, t] })
  (v xv : Value) (xs news : List Value) (hs : a.eval s = v) (hx : a.eval x = xv) (hown : Own w base e v xs) (hrow : Row w xv news) (h1 : ∀ u ∈ news, u.oneCell' = true)
  (hb : (xs.length + news.length) * bytes ≤ 70368744177664) (hbytes : 0 < bytes) (hbase : base ≤ w.heap.size)
  (h : ∀ v' w', Own w' base e v' (xs ++ news) → w.grownBy w' v.ownBlock → Fresh w v v' → wpList P ops Q rest (a.put o.dst v') w') : wpList P ops Q (o :: rest) a w :=
 wpList_apps he.s (by omega) hgd s x ho v xv xs.length news.length xs news hs hx hown hrow.s h1 hb hbytes hbase fun v' w' h2 h3 h4 => h v' w' (by unfold Own; rw [List.length_append]; exact h2) h3 h4

/-- a string's bytes -/
def bstr (l : List UInt8) : ByteArray := ⟨l.toArray⟩
theorem bstr_list (s : ByteArray) : bstr s.data.toList = s := by cases s; simp [bstr]
theorem bstr_size (l : List UInt8) : (bstr l).size = l.length := by simp [bstr, ByteArray.size]
theorem bstr_toList (l : List UInt8) : (bstr l).toList = l := by simp [bstr]
theorem strCells_u8v (s : ByteArray) : Lib.strCells s = s.data.toList.map u8v := by simp [Lib.strCells, u8v]

theorem run_app_str {P : Program} (w : World) {t u e : TypeId} {base : Nat} (ty : TypeId) (ht : P.underlying t = some (.slice e)) (hu : P.underlying u = some .string) (hi : (P.info? e).map (fun i => (i.zero, i.size, i.bytes)) = some (some (.int .u8 0), 1, 1))
  (v : Value) (xs : List Value) (hown : Own w base e v xs) (s : ByteArray) (hb : xs.length + s.size ≤ 70368744177664) (hbase : base ≤ w.heap.size) :
  ∃ v' w', (Builtin.append_ #[t, u] ty #[v, .string s]).run P w = .ok v' w' ∧ Own w' base e v' (xs ++ s.data.toList.map u8v) ∧ w.grownBy w' v.ownBlock ∧ Fresh w v v' := by
 obtain ⟨i, hi', hz, hs, hby⟩ := info_parts hi
 have hml : xs.length + s.size ≤ maxLen := by unfold maxLen; omega
 obtain ⟨v', w', hr, ho, hg, hnil⟩ := Lib.run_append_own_string (P := P) w base t u ty e i ht hu hi' hz hs hby v xs.length xs hown s hml (by omega) hbase
 have hlen : (s.data.toList.map u8v).length = s.size := by rw [List.length_map, Array.length_toList]; rfl
 refine ⟨v', w', hr, ?_, hg, ?_⟩
 ·unfold Own
  rw [List.length_append, hlen, ← strCells_u8v]
  exact ho
 rcases hown.2 with ⟨rfl, hx0⟩ | ⟨g, cap, cur, rfl, hbg, hgg, hnc, hcm, hcs, htake⟩
 ·have hx : xs = [] := List.eq_nil_of_length_eq_zero hx0
  subst hx
  obtain ⟨v2, w2, hr2, ho2, _, _⟩ := Lib.run_append_own_string (P := P) w w.heap.size t u ty e i ht hu hi' hz hs hby (.slice none 0 0) 0 [] (World.ownsRow_nil w _ e 1) s hml (by simp at hb; omega) (Nat.le_refl _)
  rw [List.length_nil] at *
  rw [hr] at hr2
  simp only [Result.ok.injEq] at hr2
  obtain ⟨rfl, rfl⟩ := hr2
  intro x hx
  right
  rcases ho2.2 with ⟨rfl, _⟩ | ⟨g, _, _, rfl, hb, _⟩
  ·simp [Value.ownBlock] at hx
  ·simp [Value.ownBlock] at hx; omega
 ·by_cases hroom : xs.length + s.size ≤ cap
  ·have hcs' : cur.size = cap := by simpa using hcs
   have hr2 := Lib.run_append_room_string (P := P) w t u ty e i ht hu hi' hs g xs.length cap cur hgg s hroom (by omega)
   rw [hr] at hr2
   simp only [Result.ok.injEq] at hr2
   obtain ⟨rfl, _⟩ := hr2
   intro x hx
   left
   simpa [Value.ownBlock] using hx
  ·have holds : ∀ j u, xs[j]? = some u → w.cell? ((⟨g, 0, none⟩ : Addr).add j) = some u := World.ownsRow.cells (h := hown) (g := g) rfl
   have hr2 := Lib.run_append_grow_string (P := P) w t u ty e i (.int .u8 0) ht hu hi' hz ⟨g, 0, none⟩ xs.length cap xs (by rw [hs]; simp) holds s (by omega) (by unfold maxLen at hml; omega) (by rw [hby]; exact growslice_fits (by omega) (by omega))
   rw [hr] at hr2
   simp only [Result.ok.injEq] at hr2
   obtain ⟨rfl, _⟩ := hr2
   intro x hx
   right
   simp [Value.ownBlock] at hx
   omega

theorem wpList_appstr {P : Program} {w : World} {ops : Array Oper} {rest : List Oper} {o : Oper} {a : Act} {Q : Exit → Act → World → Prop} {t u e : TypeId} {base : Nat} (ht : P.underlying t = some (.slice e)) (hu : P.underlying u = some .string) (hi : (P.info? e).map (fun i => (i.zero, i.size, i.bytes)) = some (some (.int .u8 0), 1, 1)) (hgd : o.guard = none) (s x : Operand)
  (ho : o.op = .call { callee := .builtin .append, args := #[s, x], argTypes := #[t, u] })
  (v : Value) (xs : List Value) (sx : ByteArray) (hs : a.eval s = v) (hx : a.eval x = .string sx) (hown : Own w base e v xs)
  (hb : xs.length + sx.size ≤ 70368744177664) (hbase : base ≤ w.heap.size)
  (h : ∀ v' w', Own w' base e v' (xs ++ sx.data.toList.map u8v) → w.grownBy w' v.ownBlock → Fresh w v v' → wpList P ops Q rest (a.put o.dst v') w') : wpList P ops Q (o :: rest) a w := by
 refine wpList_plain hgd fun K hK => ?_
 obtain ⟨v', w', hr, h2, h3, h4⟩ := run_app_str (P := P) w o.type ht hu hi v xs hown sx hb hbase
 unfold Oper.wp execOp
 simp only [ho, resolve, invoke, builtin, Sem.run_bind, Sem.run_pure, Result.andThen_ok, List.map_toArray, List.map_cons, List.map_nil, hs, hx, hr]
 exact hK _ _ (h v' w' h2 h3 h4)

/-- string(v) of a slice that reads as bytes -/
theorem Row.str {P : Program} {w : World} {v : Value} {l : List UInt8} {t e u : TypeId} (ht : P.underlying t = some (.slice e)) (he : P.underlying e = some (.int .u8)) (hu : P.underlying u = some .string) (h : Row w v (l.map u8v)) :
  (convert t u v).run P w = .ok (.string (bstr l)) w := by
 rcases h with ⟨a0, cap', rfl, hl0, -, h0⟩ | ⟨b, off, cap', rfl, h1, h2, hcell⟩
 ·have : l = [] := by simpa using hl0
  subst this
  cases a0 with
  |none => exact run_convert_bytes_nil w t e ht he 0 cap' u hu
  |some ad =>
   rw [run_convert_bytes_string w t u e _ 0 cap' ht he hu, run_bytesToString w _ 0 cap' [] (by simpa using run_loadCells_list (P := P) w ad [] (by simp))]
   rfl
 ·have := run_convert_bytes_arg (P := P) w t e ht he b off (l.map u8v).length cap' (l.map fun x => (x.toNat : Int)) (by simp) (fun i hi => by
   have hi' : i < l.length := by simpa using hi
   rw [hcell i (u8v l[i]) (by simp [hi'])]
   simp [u8v, List.getD, hi']) u hu
  rw [this]
  congr 2
  unfold strOfNums bstr
  congr 2
  rw [List.map_map]
  conv => rhs; rw [← List.map_id l]
  exact List.map_congr_left fun x _ => by simp

/-- []byte(s) -/
theorem str_bytes {P : Program} (w : World) {t e u : TypeId} (ht : P.underlying t = some (.slice e)) (he : P.underlying e = some (.int .u8)) (hu : P.underlying u = some .string) (s : ByteArray) (hs : s.size ≤ maxLen) :
  ∃ c w', (convert u t (.string s)).run P w = .ok (.slice (some ⟨w.heap.size, 0, none⟩) s.size c) w' ∧ Row w' (.slice (some ⟨w.heap.size, 0, none⟩) s.size c) (s.data.toList.map u8v) ∧ Keeps w w' := by
 refine ⟨_, _, Lib.run_convert_string_bytes w u t e s hu ht he, ?_, ?_⟩
 ·refine .inr ⟨w.heap.size, 0, grownCap w s.size 0 e, by simp, by simpa using grownCap_ge w s.size 0 e, grownCap_le_maxLen w s.size 0 e hs, fun i x hx => ?_⟩
  have hi : i < s.size := by
   have := (List.getElem?_eq_some_iff.1 hx).1
   simpa using this
  rw [Nat.zero_add, Lib.bytesWorld_cell w e s i hi]
  rw [List.getElem?_map] at hx
  have hl : i < s.data.toList.length := by simpa using hi
  rw [List.getElem?_eq_getElem hl] at hx
  simp only [Option.map_some, Option.some.injEq, u8v] at hx
  rw [← hx, List.getD_eq_getElem?_getD, List.getElem?_eq_getElem hl]
  rfl
 ·exact ⟨rfl, rfl, rfl, by rw [Lib.bytesWorld_size]; omega, fun k hk => Lib.bytesWorld_at_old w e s k hk⟩
end Go.Proofs.YtklbemkafdccgaaGreat

/- A slice into a block of a known element type, from base on: wherever it begins. For every program. -/
namespace Go.Proofs.YtklbemkafdccgaaGreat
open Go.RowKit

def Piece (w : World) (base : Nat) (e : TypeId) (v : Value) (l : List Value) : Prop :=
 (∃ a0 cap, v = .slice a0 0 cap ∧ l = [] ∧ cap ≤ maxLen ∧ (a0 = none → cap = 0)) ∨
 ∃ g off cap cs fr, v = .slice (some ⟨g, off, none⟩) l.length cap ∧ 0 < l.length ∧ base ≤ g ∧ l.length ≤ cap ∧ cap ≤ maxLen ∧ w.heap[g]? = some (.cells cs e fr) ∧ ∀ i x, l[i]? = some x → cs[off + i]? = some x

section
variable {w w' : World} {base : Nat} {e : TypeId} {v : Value} {l : List Value}
theorem cell_of_heap {g off : Nat} {cs : Array Value} {fr : Nat × Nat} (h : w.heap[g]? = some (.cells cs e fr)) : w.cell? ⟨g, off, none⟩ = cs[off]? := cell_of_row w g off cs e fr h
theorem Piece.row (h : Piece w base e v l) : Row w v l := by
 rcases h with h | ⟨g, off, cap, cs, fr, hv, h0, h1, h2, h3, h4, h5⟩
 ·exact .inl h
 ·exact .inr ⟨g, off, cap, hv, h2, h3, fun i x hx => by rw [cell_of_heap h4]; exact h5 i x hx⟩
theorem Piece.nil (w : World) (base : Nat) (e : TypeId) : Piece w base e (.slice none 0 0) [] := .inl ⟨none, 0, rfl, rfl, Nat.zero_le _, fun _ => rfl⟩
theorem Own.piece (h : Own w base e v l) : Piece w base e v l := by
 have hrow := h.row
 rcases h.2 with ⟨rfl, h9⟩ | ⟨g, cap, cur, rfl, h1, h2, h3, h4, h5, h6⟩
 ·exact .inl ⟨none, 0, rfl, List.eq_nil_of_length_eq_zero h9, Nat.zero_le _, fun _ => rfl⟩
 ·by_cases hl : l = []
  ·subst hl
   exact .inl ⟨some ⟨g, 0, none⟩, cap, rfl, rfl, h4, fun h => by cases h⟩
  ·have hp : 0 < l.length := List.length_pos_iff.2 hl
   refine .inr ⟨g, 0, cap, cur, (0, 0), rfl, hp, h1, h3, h4, h2, fun i x hx => ?_⟩
   have hi := (List.getElem?_eq_some_iff.1 hx).1
   have ht : cur.toList.take l.length = l := by simpa using h6
   have : (cur.toList.take l.length)[i]? = some x := by rw [ht]; exact hx
   rw [List.getElem?_take, if_pos hi] at this
   simpa using this
theorem Piece.keeps (h : Piece w base e v l) (k : Keeps w w') : Piece w' base e v l := by
 rcases h with h | ⟨g, off, cap, cs, fr, hv, h0, h1, h2, h3, h4, h5⟩
 ·exact .inl h
 ·exact .inr ⟨g, off, cap, cs, fr, hv, h0, h1, h2, h3, by rw [k.block (Array.getElem?_eq_some_iff.1 h4).1]; exact h4, h5⟩
theorem Piece.lower {base' : Nat} (h : Piece w base e v l) (hb : base' ≤ base) : Piece w base' e v l := by
 rcases h with h | ⟨g, off, cap, cs, fr, hv, h0, h1, h2, h3, h4, h5⟩
 ·exact .inl h
 ·exact .inr ⟨g, off, cap, cs, fr, hv, h0, Nat.le_trans hb h1, h2, h3, h4, h5⟩
/-- a call that writes blocks of S alone, none of them of this element type -/
theorem Piece.modsT {S : Nat → Prop} (h : Piece w base e v l) (k : Mods S w w') (hn : ∀ x, S x → ∀ cs fr, w.heap[x]? ≠ some (.cells cs e fr)) : Piece w' base e v l := by
 rcases h with h | ⟨g, off, cap, cs, fr, hv, h0, h1, h2, h3, h4, h5⟩
 ·exact .inl h
 ·exact .inr ⟨g, off, cap, cs, fr, hv, h0, h1, h2, h3, k.heap h4 (fun hs => hn g hs cs fr h4), h5⟩
theorem Piece.form (h : Piece w base e v l) : ∃ p cap, v = .slice p l.length cap ∧ l.length ≤ cap ∧ cap ≤ 9223372036854775807 := by
 obtain ⟨p, cap, hv, h1, h2⟩ := h.row.form
 exact ⟨p, cap, hv, h1, by simpa [maxLen] using h2⟩
end
end Go.Proofs.YtklbemkafdccgaaGreat

/- Mailboxes' maps: entries and origins, by the kit's laws on maps. -/
namespace Go.Proofs.YtklbemkafdccgaaGreat
open Go.RowKit
namespace Mbx
open Rcd Go.Maps

def entV (e : Ent) : Value := .agg #[.int .i64 e.uid, .int .i64 e.time, .int .i64 e.flags, .int .i64 e.body, .int .i64 e.size, .int .i64 e.origin, .bool e.gone]
def entD (e : Ent) : DataW Unit := .agg [.lit (.int .i64 e.uid), .lit (.int .i64 e.time), .lit (.int .i64 e.flags), .lit (.int .i64 e.body), .lit (.int .i64 e.size), .lit (.int .i64 e.origin), .lit (.bool e.gone)]
def entOfL : List Value → Option Ent
 | [.int .i64 a, .int .i64 b, .int .i64 c, .int .i64 d, .int .i64 s, .int .i64 o, .bool g] => some ⟨a, b, c, d, s, o, g⟩
 | _ => none
def entElem (v : Value) : Option (DataW Unit × List MemPlace) :=
 match v with
 | .agg cs => (entOfL cs.toList).map fun e => (entD e, [])
 | _ => none
def zeroEnt : Ent := ⟨0, 0, 0, 0, 0, 0, false⟩
def intD (n : Int) : DataW Unit := .lit (.int .i64 n)
def intElem : Value → Option (DataW Unit × List MemPlace)
 | .int .i64 a => some (intD a, [])
 | _ => none
theorem intElem_inv {v : Value} {n : Int} {ps : List MemPlace} (h : intElem v = some (intD n, ps)) : v = .int .i64 n := by
 unfold intElem at h
 split at h
 ·simp only [Option.some.injEq, Prod.mk.injEq] at h
  have := h.1
  simp [intD] at this
  subst this
  rfl
 ·cases h
/-- a map read as a function on numbers -/
def Reads {α : Type} (D : DataW Unit) (f : Int → Option α) (enc : α → DataW Unit) : Prop := IsMap D ∧ ∀ x : Int, has D (.int .i64 x) = (f x).isSome ∧ ∀ v, f x = some v → ∀ z, D.atKey (.int .i64 x) z = enc v
theorem isKeyInt (x : Int) : WideAt.IsKeyLit (.int .i64 x) := by simp [WideAt.IsKeyLit]
theorem Reads.put {α : Type} {D : DataW Unit} {f : Int → Option α} {enc : α → DataW Unit} (h : Reads D f enc) (k : Int) (v : α) : Reads (D.put (.int .i64 k) (enc v)) (upd f k v) enc := by
 refine ⟨h.1.put _ _, fun x => ?_⟩
 by_cases hx : x = k
 ·subst hx
  rw [has_put_same h.1 (isKeyInt x), upd_same]
  exact ⟨rfl, fun u hu z => by cases hu; exact atKey_put_same h.1 (isKeyInt x) _ _⟩
 ·have hne : (Lit.int .i64 x) ≠ .int .i64 k := by simp [hx]
  rw [has_put_other hne, upd_other _ _ hx]
  exact ⟨(h.2 x).1, fun u hu z => by rw [atKey_put_other hne]; exact (h.2 x).2 u hu z⟩
theorem Reads.at_ {α : Type} {D : DataW Unit} {f : Int → Option α} {enc : α → DataW Unit} (h : Reads D f enc) (x : Int) (z : α) : D.atKey (.int .i64 x) (enc z) = enc ((f x).getD z) := by
 cases e : f x with
 |some v => exact (h.2 x).2 v e _
 |none => exact atKey_of_not_has (by rw [(h.2 x).1, e]; rfl) _
end Mbx
end Go.Proofs.YtklbemkafdccgaaGreat

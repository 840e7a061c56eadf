/- Several texts in one: Own, Mods, Octet, OctetRef, OctetGet, OctetTake, OctetPut. -/
import Derived.Test.YtcleakjjefmmbaaGreatK00
import Derived.Laws.AppendOwnNone
import Derived.Test.YtcleakjjefmmbaaGreatRows
import Derived.Laws.MakeOwn
/- Slices that a call itself makes by append: what they own, and one law for append. For every program. -/
namespace Go.Proofs.YtcleakjjefmmbaaGreat
open Go.RowKit

theorem Row.form {w : World} {v : Value} {l : List Value} (h : Row w v l) : ∃ p cap, v = .slice p l.length cap ∧ l.length ≤ cap ∧ cap ≤ maxLen := by
 rcases h with ⟨a0, cap, rfl, rfl, h, _⟩ | ⟨b, off, cap, rfl, h1, h2, _⟩
 ·exact ⟨_, _, rfl, Nat.zero_le _, h⟩
 ·exact ⟨_, _, rfl, h1, h2⟩

/-- v is nil, or a slice of the call's own (its block is from base on), with one-cell elements l. -/
def Own (w : World) (base : Nat) (e : TypeId) (v : Value) (l : List Value) : Prop := w.ownsRow base e 1 v l.length l

theorem Own.nil (w : World) (base : Nat) (e : TypeId) : Own w base e (.slice none 0 0) [] := World.ownsRow_nil w base e 1

theorem Own.row {w : World} {base : Nat} {e : TypeId} {v : Value} {l : List Value} (h : Own w base e v l) : Row w v l := by
 have h0 := h
 rcases h.2 with ⟨rfl, h9⟩ | ⟨g, cap, cur, rfl, h1, h2, h3, h4, h5, h6⟩
 ·exact .inl ⟨none, 0, rfl, List.eq_nil_of_length_eq_zero h9, Nat.zero_le _, fun _ => rfl⟩
 ·refine .inr ⟨g, 0, cap, rfl, h3, h4, fun i x hx => ?_⟩
  have := World.ownsRow.cells (h := h0) (g := g) rfl i x hx
  rw [Go.WideShapes.add_plain] at this
  exact this

theorem Own.kept {w w' : World} {base : Nat} {e : TypeId} {v : Value} {l : List Value} {row : Option Nat} (h : Own w base e v l) (hg : w.grownBy w' row) (hne : v.ownBlock = none ∨ v.ownBlock ≠ row) : Own w' base e v l := World.ownsRow.kept h hg hne

theorem Own.keeps {w w' : World} {base : Nat} {e : TypeId} {v : Value} {l : List Value} (h : Own w base e v l) (k : Keeps w w') : Own w' base e v l := by
 refine ⟨h.1, ?_⟩
 rcases h.2 with hn | ⟨g, cap, cur, rfl, hb, hgg, rest⟩
 ·exact .inl hn
 ·refine .inr ⟨g, cap, cur, rfl, hb, ?_, rest⟩
  rw [k.block (Array.getElem?_eq_some_iff.1 hgg).1]
  exact hgg

theorem Own.alloc {w : World} {base : Nat} {e : TypeId} {v : Value} {l : List Value} (h : Own w base e v l) (o : Obj) : Own (w.alloc o) base e v l := h.keeps ((Keeps.refl _).alloc _)
theorem Own.drew {w : World} {base : Nat} {e : TypeId} {v : Value} {l : List Value} (h : Own w base e v l) : Own w.drew base e v l := h.keeps ((Keeps.refl _).drew)
theorem Own.setCell {w : World} {base : Nat} {e : TypeId} {v : Value} {l : List Value} (h : Own w base e v l) {a : Addr} (u : Value) (ha : v.ownBlock ≠ some a.block) : Own (w.setCell a u) base e v l := by
 refine ⟨h.1, ?_⟩
 rcases h.2 with hn | ⟨g, cap, cur, rfl, hb, hgg, rest⟩
 ·exact .inl hn
 ·refine .inr ⟨g, cap, cur, rfl, hb, ?_, rest⟩
  rw [Below.heap_setCell]
  ·exact hgg
  ·intro e; exact ha (by simp [Value.ownBlock, e])

/-- its own block lies from base on -/
theorem Own.base {w : World} {base : Nat} {e : TypeId} {v : Value} {l : List Value} (h : Own w base e v l) : ∀ k, v.ownBlock = some k → base ≤ k := by
 intro k hk
 rcases h.2 with ⟨rfl, _⟩ | ⟨g, cap, cur, rfl, hb, _⟩
 ·simp [Value.ownBlock] at hk
 ·simp [Value.ownBlock] at hk
  omega

/-- what append must know of a slice type t with one-cell elements e of so many bytes -/
structure ElemOk (P : Program) (t e : TypeId) (bytes : Nat) : Prop where
 ht : P.underlying t = some (.slice e)
 hi : ∃ i z, P.info? e = some i ∧ i.zero = some z ∧ i.size = 1 ∧ i.bytes = bytes ∧ z.cells.size = 1

theorem elemOk {P : Program} {t e : TypeId} {bytes : Nat} {z : Value} (ht : P.underlying t = some (.slice e)) (hi : (P.info? e).map (fun i => (i.zero, i.size, i.bytes)) = some (some z, 1, bytes)) (hz : z.cells.size = 1) : ElemOk P t e bytes := by
 refine ⟨ht, ?_⟩
 cases h : P.info? e with
 |none => rw [h] at hi; cases hi
 |some i =>
  rw [h] at hi
  simp only [Option.map_some, Option.some.injEq, Prod.mk.injEq] at hi
  exact ⟨i, z, rfl, hi.1, hi.2.1, hi.2.2, hz⟩

theorem oneCell_map_u8 (l : List UInt8) : ∀ u ∈ l.map u8v, u.oneCell' = true := by
 intro u hu
 obtain ⟨x, _, rfl⟩ := List.mem_map.1 hu
 rfl
/-- the one new cell of 'append(s, x)' -/
theorem row_one {w : World} {b : Nat} {x : Value} {e : TypeId} (hb : b = w.heap.size) : Row (w.alloc (.cells #[x] e)) (.slice (some ⟨b, 0, none⟩) 1 1) [x] := row_alloc hb rfl rfl (by decide)
theorem row_mark {w : World} {b n : Nat} {cs : Array Value} {e : TypeId} {fr : Nat × Nat} {l : List Value} (hb : b = w.heap.size) (hl : cs.toList = l) (hn : n = l.length) (hm : n ≤ maxLen) : Row (w.alloc (.cells cs e fr)) (.slice (some ⟨b, 0, none⟩) n n) l := by
 subst hb hl hn
 exact .inr ⟨w.heap.size, 0, cs.size, by simp, by simp, by simpa using hm, fun i x hx => by rw [Nat.zero_add, cell_alloc_new]; simpa using hx⟩
theorem row_nil (w : World) : Row w (.slice none 0 0) [] := .inl ⟨none, 0, rfl, rfl, Nat.zero_le _, fun _ => rfl⟩
theorem Own.empty {w : World} {b : Nat} {e : TypeId} (base : Nat) (hb : b = w.heap.size) (h : base ≤ w.heap.size) : Own (w.alloc (.cells #[] e)) base e (.slice (some ⟨b, 0, none⟩) 0 0) [] := by
 subst hb
 refine ⟨by simp, .inr ⟨w.heap.size, 0, #[], rfl, h, ?_, Nat.le_refl _, Nat.zero_le _, by simp, by simp⟩⟩
 show (w.heap.push _)[w.heap.size]? = _
 simp
theorem Own.form {w : World} {base : Nat} {e : TypeId} {v : Value} {l : List Value} (h : Own w base e v l) (hl : 0 < l.length) : ∃ g cap, v = .slice (some ⟨g, 0, none⟩) l.length cap ∧ base ≤ g ∧ l.length ≤ cap ∧ cap ≤ maxLen := by
 rcases h.2 with ⟨_, h0⟩ | ⟨g, cap, _, hv, hb, _, h1, h2, _⟩
 ·omega
 ·exact ⟨g, cap, hv, hb, h1, h2⟩
theorem Own.cellAt {w : World} {base g cap : Nat} {e : TypeId} {l : List Value} {n : Nat} (h : Own w base e (.slice (some ⟨g, 0, none⟩) n cap) l) (j : Nat) (x : Value) (hj : l[j]? = some x) : w.cell? ⟨g, j, none⟩ = some x := by
 have hn : n = l.length := by
  rcases h.2 with ⟨h', _⟩ | ⟨g', cap', cur, h', _⟩
  ·simp at h'
  ·simp only [Value.slice.injEq] at h'
   exact h'.2.1
 subst hn
 rw [World.ownsRow.cellAt h j (by have := (List.getElem?_eq_some_iff.1 hj).1; omega)]
 exact hj
theorem Own.stored {w : World} {base g cap : Nat} {e : TypeId} {l : List Value} (h : Own w base e (.slice (some ⟨g, 0, none⟩) l.length cap) l) (j : Nat) (u : Value) : Own (w.setCell ⟨g, j, none⟩ u) base e (.slice (some ⟨g, 0, none⟩) l.length cap) (l.set j u) := by
 have := (World.ownsRow.stored h j u).1
 unfold Own
 rw [List.length_set]
 exact this
end Go.Proofs.YtcleakjjefmmbaaGreat

/- What a call changes of old memory: only blocks of a given set. For every program. -/
namespace Go.Proofs.YtcleakjjefmmbaaGreat
open Go.RowKit

structure Mods (S : Nat → Prop) (w w' : World) : Prop where
 os : w'.os = w.os
 tape : w'.tape = w.tape
 output : w'.output = w.output
 size : w.heap.size ≤ w'.heap.size
 block : ∀ k, k < w.heap.size → ¬ S k → w'.heap[k]? = w.heap[k]?

section
variable {S T : Nat → Prop} {a b c w w' W : World}
theorem Mods.refl (S : Nat → Prop) (w : World) : Mods S w w := ⟨rfl, rfl, rfl, Nat.le_refl _, fun _ _ _ => rfl⟩
theorem Mods.of_keeps (h : Keeps w w') : Mods S w w' := ⟨h.os, h.tape, h.output, h.size, fun k hk _ => h.block hk⟩
theorem Mods.mono (h : Mods S w w') (hS : ∀ k, S k → T k) : Mods T w w' := ⟨h.os, h.tape, h.output, h.size, fun k hk hn => h.block k hk fun hs => hn (hS k hs)⟩
theorem Mods.trans (h : Mods S a b) (k : Mods T b c) (hT : ∀ x, T x → x < a.heap.size → S x) : Mods S a c :=
 ⟨k.os.trans h.os, k.tape.trans h.tape, k.output.trans h.output, Nat.le_trans h.size k.size, fun x hx hn =>
  (k.block x (Nat.lt_of_lt_of_le hx h.size) fun ht => hn (hT x ht hx)).trans (h.block x hx hn)⟩
theorem Mods.keeps (h : Mods S w w') (hK : Keeps W w) (hS : ∀ x, S x → W.heap.size ≤ x) : Keeps W w' :=
 ⟨h.os.trans hK.os, h.tape.trans hK.tape, h.output.trans hK.output, Nat.le_trans hK.size h.size, fun x hx =>
  (h.block x (Nat.lt_of_lt_of_le hx hK.size) fun hs => by have := hS x hs; omega).trans (hK.block hx)⟩
theorem Mods.then (h : Mods S a b) (k : Keeps b c) : Mods S a c := h.trans (T := fun _ => False) (Mods.of_keeps k) (fun _ h => h.elim)
theorem Mods.alloc (h : Mods S a w) (o : Obj) : Mods S a (w.alloc o) := h.then ((Keeps.refl _).alloc o)
theorem Mods.drew (h : Mods S a w) : Mods S a w.drew := ⟨h.os, h.tape, h.output, h.size, h.block⟩
theorem Mods.setCell (h : Mods S a w) {p : Addr} (hp : p.block < a.heap.size → S p.block) (u : Value) : Mods S a (w.setCell p u) :=
 ⟨h.os, h.tape, h.output, by simpa [World.setCell] using h.size, fun x hx hn => by
  rw [Below.heap_setCell _ _ _ _ (fun e => hn (by rw [e]; exact hp (e ▸ hx)))]
  exact h.block x hx hn⟩
theorem Mods.grown {row : Option Nat} (h : Mods S a w) (hg : w.grownBy w' row) (hr : ∀ k, row = some k → k < a.heap.size → S k) : Mods S a w' :=
 ⟨hg.os.trans h.os, hg.tape.trans h.tape, hg.output.trans h.output, Nat.le_trans h.size hg.size, fun x hx hn =>
  (hg.block x (Nat.lt_of_lt_of_le hx h.size) fun e => hn (hr x e.symm hx)).trans (h.block x hx hn)⟩
theorem Mods.heap (h : Mods S w w') {k : Nat} {o : Obj} (hk : w.heap[k]? = some o) (hn : ¬ S k) : w'.heap[k]? = some o := by
 rw [h.block k (Array.getElem?_eq_some_iff.1 hk).1 hn]; exact hk
theorem Mods.cell (h : Mods S w w') {p : Addr} {v : Value} (hp : w.cell? p = some v) (hn : ¬ S p.block) : w'.cell? p = some v := by
 rw [World.cell?_of_block (h.block p.block (World.block_lt_of_cell? w p hp) hn)]; exact hp

theorem Own.mods {base : Nat} {e : TypeId} {v : Value} {l : List Value} (h : Own w base e v l) (k : Mods S w w') (hn : ∀ x, v.ownBlock = some x → ¬ S x) : Own w' base e v l := by
 refine ⟨h.1, ?_⟩
 rcases h.2 with h0 | ⟨g, cap, cur, rfl, hb, hgg, rest⟩
 ·exact .inl h0
 ·exact .inr ⟨g, cap, cur, rfl, hb, k.heap hgg (hn g rfl), rest⟩
theorem Own.block_lt {base : Nat} {e : TypeId} {v : Value} {l : List Value} (h : Own w base e v l) : ∀ x, v.ownBlock = some x → x < w.heap.size := by
 intro x hx
 rcases h.2 with ⟨rfl, _⟩ | ⟨g, cap, cur, rfl, hb, hgg, rest⟩
 ·simp [Value.ownBlock] at hx
 ·simp [Value.ownBlock] at hx
  subst hx
  exact (Array.getElem?_eq_some_iff.1 hgg).1
theorem Own.lower {base base' : Nat} {e : TypeId} {v : Value} {l : List Value} (h : Own w base e v l) (hb : base' ≤ base) : Own w base' e v l :=
 ⟨h.1, h.2.elim Or.inl (fun ⟨g, cap, cur, hv, hg, r⟩ => Or.inr ⟨g, cap, cur, hv, Nat.le_trans hb hg, r⟩)⟩
end

/-! ### append, with what becomes of the block: elements of any size -/
structure ElemOkS (P : Program) (t e : TypeId) (size bytes : Nat) : Prop where
 ht : P.underlying t = some (.slice e)
 hi : ∃ i z, P.info? e = some i ∧ i.zero = some z ∧ i.size = size ∧ i.bytes = bytes ∧ z.cells.size = size

theorem elemOkS {P : Program} {t e : TypeId} {size bytes : Nat} {z : Value} (ht : P.underlying t = some (.slice e)) (hi : (P.info? e).map (fun i => (i.zero, i.size, i.bytes)) = some (some z, size, bytes)) (hz : z.cells.size = size) : ElemOkS P t e size bytes := by
 refine ⟨ht, ?_⟩
 cases h : P.info? e with
 |none => rw [h] at hi; cases hi
 |some i =>
  rw [h] at hi
  simp only [Option.map_some, Option.some.injEq, Prod.mk.injEq] at hi
  exact ⟨i, z, rfl, hi.1, hi.2.1, hi.2.2, hz⟩
theorem ElemOk.s {P : Program} {t e : TypeId} {bytes : Nat} (h : ElemOk P t e bytes) : ElemOkS P t e 1 bytes := ⟨h.ht, h.hi⟩

/-- a slice of elements of so many cells each reads as these cells -/
def RowS (w : World) (size : Nat) (v : Value) (n : Nat) (xs : List Value) : Prop :=
 xs.length = n * size ∧
 ((∃ a0 cap, v = .slice a0 0 cap ∧ n = 0 ∧ cap ≤ maxLen ∧ (a0 = none → cap = 0)) ∨
  ∃ b off cap, v = .slice (some ⟨b, off, none⟩) n cap ∧ n ≤ cap ∧ cap ≤ maxLen ∧ ∀ i x, xs[i]? = some x → w.cell? ⟨b, off + i, none⟩ = some x)
theorem Row.s {w : World} {v : Value} {l : List Value} (h : Row w v l) : RowS w 1 v l.length l := by
 refine ⟨by simp, ?_⟩
 rcases h with ⟨a0, cap, h1, h2, h3, h4⟩ | h
 ·exact .inl ⟨a0, cap, h1, by rw [h2]; rfl, h3, h4⟩
 ·exact .inr h

theorem run_app {P : Program} (w : World) {t e : TypeId} {size bytes base : Nat} (ty : TypeId) (he : ElemOkS P t e size bytes) (hsz : 0 < size) (v : Value) (n : Nat) (xs : List Value) (hown : w.ownsRow base e size v n xs)
  (a : Addr) (m c : Nat) (news : List Value) (hl : news.length = m * size) (hnews : ∀ j u, news[j]? = some u → w.cell? (a.add j) = some u) (h1 : ∀ u ∈ news, u.oneCell' = true)
  (h63 : n + m ≤ maxLen) (hbytes : (n + m) * bytes ≤ 140737488355328) (hbase : base ≤ w.heap.size) :
  ∃ v' w', (Builtin.append_ #[t, t] ty #[v, .slice (some a) m c]).run P w = .ok v' w' ∧ w'.ownsRow base e size v' (n + m) (xs ++ news) ∧ w.grownBy w' v.ownBlock ∧
   (∀ x, v'.ownBlock = some x → v.ownBlock = some x ∨ w.heap.size ≤ x) := by
 obtain ⟨i, z, hi, hz, hs, hby, hzs⟩ := he.hi
 obtain ⟨v', w', hr, ho, hg, hnil⟩ := run_append_own w base t ty e i z size bytes he.ht hi hz hs hby hzs hsz v n xs hown a m c news hl hnews h1 h63 hbytes hbase
 refine ⟨v', w', hr, ho, hg, ?_⟩
 rcases hown.2 with ⟨rfl, rfl⟩ | ⟨g, cap, cur, rfl, hbg, hgg, hnc, hcm, hcs, htake⟩
 ·have hx : xs = [] := List.eq_nil_of_length_eq_zero (by simpa using hown.1)
  subst hx
  obtain ⟨v2, w2, hr2, ho2, _, _⟩ := run_append_own w w.heap.size t ty e i z size bytes he.ht hi hz hs hby hzs hsz (.slice none 0 0) 0 [] (World.ownsRow_nil w _ e size) a m c news hl hnews h1 h63 hbytes (Nat.le_refl _)
  rw [hr] at hr2
  simp only [Result.ok.injEq] at hr2
  obtain ⟨rfl, rfl⟩ := hr2
  intro x hx
  right
  rcases ho2.2 with ⟨rfl, _⟩ | ⟨g, _, _, rfl, hb, _⟩
  ·simp [Value.ownBlock] at hx
  ·simp [Value.ownBlock] at hx; omega
 ·subst hs
  by_cases hroom : n + m ≤ cap
  ·have hr2 := run_append_room (P := P) w t ty e i he.ht hi g n cap cur hgg a m c news hl hnews h1 hroom (by rw [hl, hcs, ← Nat.add_mul]; exact Nat.mul_le_mul_right _ hroom)
   rw [hr] at hr2
   simp only [Result.ok.injEq] at hr2
   obtain ⟨rfl, _⟩ := hr2
   intro x hx
   left
   simpa [Value.ownBlock] using hx
  ·have holds : ∀ j u, xs[j]? = some u → w.cell? ((⟨g, 0, none⟩ : Addr).add j) = some u := World.ownsRow.cells (h := hown) (g := g) rfl
   have hr2 := run_append_grow (P := P) w t ty e i z he.ht hi hz ⟨g, 0, none⟩ n cap xs hown.1 holds a m c news hl hnews (by omega) (by unfold maxLen at h63; omega) (growslice_fits (by omega) (by rw [hby]; exact hbytes))
   rw [hr] at hr2
   simp only [Result.ok.injEq] at hr2
   obtain ⟨rfl, _⟩ := hr2
   intro x hx
   right
   simp [Value.ownBlock] at hx
   omega

/-- append(s, x...): s nil or the call's own, elements of any size; x any slice that reads as news. -/
theorem wpList_apps {P : Program} {w : World} {ops : Array Oper} {rest : List Oper} {o : Oper} {a : Act} {Q : Exit → Act → World → Prop} {t e : TypeId} {size bytes base : Nat} (he : ElemOkS P t e size bytes) (hsz : 0 < size) (hgd : o.guard = none) (s x : Operand)
  (ho : o.op = .call { callee := .builtin .append, args := #[s, x], argTypes := #[t, t] })
  (v xv : Value) (n m : Nat) (xs news : List Value) (hs : a.eval s = v) (hx : a.eval x = xv) (hown : w.ownsRow base e size v n xs) (hrow : RowS w size xv m news) (h1 : ∀ u ∈ news, u.oneCell' = true)
  (hb : (n + m) * bytes ≤ 70368744177664) (hbytes : 0 < bytes) (hbase : base ≤ w.heap.size)
  (h : ∀ v' w', w'.ownsRow base e size v' (n + m) (xs ++ news) → w.grownBy w' v.ownBlock → (∀ x, v'.ownBlock = some x → v.ownBlock = some x ∨ w.heap.size ≤ x) → wpList P ops Q rest (a.put o.dst v') w') : wpList P ops Q (o :: rest) a w := by
 have h63 : n + m ≤ 70368744177664 := Nat.le_trans (Nat.le_mul_of_pos_right _ hbytes) hb
 have hml : n + m ≤ maxLen := by unfold maxLen; omega
 have go : ∀ (ad : Addr) (c : Nat), xv = .slice (some ad) m c → (∀ j u, news[j]? = some u → w.cell? (ad.add j) = some u) → wpList P ops Q (o :: rest) a w := by
  intro ad c hxv hn
  obtain ⟨v', w', hr, h2, h3, h4⟩ := run_app (P := P) w o.type he hsz v n xs hown ad m c news hrow.1 hn h1 hml (by omega) hbase
  refine wpList_plain hgd fun K hK => ?_
  have hx' : a.eval x = .slice (some ad) m c := by rw [hx, hxv]
  unfold Oper.wp execOp
  simp only [ho, resolve, invoke, builtin, Sem.run_bind, Sem.run_pure, Result.andThen_ok, List.map_toArray, List.map_cons, List.map_nil, hs, hx', hr]
  exact hK _ _ (h v' w' h2 h3 h4)
 rcases hrow.2 with ⟨a0, cap, rfl, rfl, hc, h0⟩ | ⟨b, off, cap, rfl, h2, h3, h4⟩
 ·have hnews : news = [] := List.eq_nil_of_length_eq_zero (by simpa using hrow.1)
  cases a0 with
  |none =>
   obtain rfl := h0 rfl
   obtain ⟨i, z, hi, hz, hs', hby, hzs⟩ := he.hi
   refine wpList_append_own_none hgd s x t ho base e i size he.ht hi v n xs hs hown hx ?_
   subst hnews
   exact h v w (by simpa using hown) ⟨rfl, rfl, rfl, Nat.le_refl _, fun _ _ _ => rfl⟩ (fun x hx => .inl hx)
  |some ad => exact go ad cap rfl (by subst hnews; simp)
 ·refine go ⟨b, off, none⟩ cap rfl fun j u hu => ?_
  rw [Go.WideShapes.add_plain]
  exact h4 j u hu
end Go.Proofs.YtcleakjjefmmbaaGreat

/- The functions of package octet on numbers compute the plain ones. -/
namespace Go.Proofs.YtcleakjjefmmbaaGreat
open Go.RowKit
namespace Oct

theorem or8' {a b : Nat} (ha : a < 72057594037927936) (hb : b < 256) : bits BinOp.or IntKind.u64 ((a : Int) * 256) (b : Int) = ((a * 256 + b : Nat) : Int) := by
 have := u64_or_nat (a * 256) b (by omega) (by omega)
 rw [or_byte a hb] at this
 rw [← this]
 rfl
theorem pow_le8 {j : Nat} (h : j ≤ 7) : 256 ^ j ≤ 72057594037927936 := by
 have := Nat.pow_le_pow_right (n := 256) (by omega) h
 simpa using this

theorem good_any (k : Int) (w : World) : Calls Tryz.prog 250 #[.int .i64 k] w fun e w' => e = .returned (.bool (okk k)) ∧ w = w' := by
 go_enter Tryz.func250, Tryz.ntmps250
 go_wp2
 all_goals go_ret
 all_goals (refine ⟨?_, rfl⟩; simp [okk, *])
 all_goals omega

theorem room_any (v : Nat) (hv : v < 18446744073709551616) (k : Int) (hk : okk k = true) (w : World) : Calls Tryz.prog 260 #[.int .u64 (v : Int), .int .i64 k] w fun e w' => e = .returned (.bool (putB v k)) ∧ w = w' := by
 rcases okk_cases hk with rfl | rfl | rfl | rfl | rfl | rfl | rfl | rfl
 all_goals
  go_enter Tryz.func260, Tryz.ntmps260
  go_wp2
  go_ret
  refine ⟨?_, rfl⟩
  simp [putB, hk]
  first | omega | (rw [Bool.eq_iff_iff]; simp; omega)

end Oct
end Go.Proofs.YtcleakjjefmmbaaGreat

/- The reference's functions on numbers, and octet.Put and Get, compute the plain ones. -/
namespace Go.Proofs.YtcleakjjefmmbaaGreat
open Go.RowKit
namespace Oct

theorem u8ok : ElemOk Tryz.prog 53 5 1 := elemOk (z := .int .u8 0) Tryz.underlying53 (by kernel_rfl) rfl

theorem putB_false {v : Nat} {k : Int} (h : okk k = false) : putB v k = false := by simp [putB, h]
theorem okk_nat {k : Int} (h : okk k = true) : ∃ n : Nat, k = (n : Int) ∧ 1 ≤ n ∧ n ≤ 8 := by
 have : 1 ≤ k ∧ k ≤ 8 := by simpa [okk] using h
 exact ⟨k.toNat, by omega, by omega, by omega⟩
/-- a slice of the call's own, and a bool -/
def RetSB (W : World) (l : List UInt8) (b : Bool) (e : Ending) (w' : World) : Prop :=
 ∃ v, e = .returned (.tuple #[v, .bool b]) ∧ Own w' W.heap.size 5 v (l.map u8v) ∧ Keeps W w'
def RetS (W : World) (l : List UInt8) (e : Ending) (w' : World) : Prop :=
 ∃ v, e = .returned v ∧ Own w' W.heap.size 5 v (l.map u8v) ∧ Keeps W w'

theorem own_one {w : World} {base b : Nat} {e : TypeId} {x : Value} (hb : b = w.heap.size) (hbase : base ≤ w.heap.size) : Own (w.alloc (.cells #[x] e)) base e (.slice (some ⟨b, 0, none⟩) 1 1) [x] := by
 subst hb
 refine ⟨by simp, .inr ⟨w.heap.size, 1, #[x], rfl, hbase, ?_, Nat.le_refl _, by simp [maxLen], by simp, by simp⟩⟩
 show (w.heap.push _)[w.heap.size]? = _
 simp
end Oct
end Go.Proofs.YtcleakjjefmmbaaGreat

/- Get, half, Signed, Fits, Unsigned and Turn of the reference, octet.Get. -/
namespace Go.Proofs.YtcleakjjefmmbaaGreat
open Go.RowKit

theorem Row.bytesAt {w : World} {v : Value} {l : List UInt8} (h : Row w v (l.map u8v)) (hl : 0 < l.length) : ∃ b off cap, v = .slice (some ⟨b, off, none⟩) l.length cap ∧ l.length ≤ cap ∧ cap ≤ 9223372036854775807 ∧ Hid (∀ i x, l[i]? = some x → w.cell? ⟨b, off + i, none⟩ = some (.int .u8 (x.toNat : Int))) := by
 rcases h with ⟨a0, cap', rfl, hl0, -, -⟩ | ⟨b, off, cap', rfl, h1, h2, hcell⟩
 ·have : l = [] := by simpa using hl0
  subst this
  simp at hl
 ·exact ⟨b, off, cap', by simp, by simpa using h1, by simpa [maxLen] using h2, Lib.hid fun i x hx => hcell i _ (by simp [hx, u8v])⟩
theorem Row.formB {w : World} {v : Value} {l : List UInt8} (h : Row w v (l.map u8v)) : ∃ p cap, v = .slice p l.length cap ∧ l.length ≤ cap ∧ cap ≤ 9223372036854775807 := by
 obtain ⟨p, cap, rfl, h1, h2⟩ := h.form
 rw [List.length_map] at *
 exact ⟨p, cap, rfl, h1, by simpa [maxLen] using h2⟩

theorem retI {k : IntKind} {a b : Int} (h : a = b) : Ending.returned (.int k a) = .returned (.int k b) := by rw [h]
theorem retB {a b : Bool} (h : a = b) : Ending.returned (.bool a) = .returned (.bool b) := by rw [h]
theorem retIB {k : IntKind} {a b : Int} {c d : Bool} (h : a = b) (h' : c = d) : Ending.returned (.tuple #[.int k a, .bool c]) = .returned (.tuple #[.int k b, .bool d]) := by rw [h, h']

namespace Oct
def half (n : Nat) : Nat := 128 * 256 ^ (n - 1)
end Oct
end Go.Proofs.YtcleakjjefmmbaaGreat

/- Get of both, Turn of the reference, octet.Put. -/
namespace Go.Proofs.YtcleakjjefmmbaaGreat
open Go.RowKit
namespace Oct

theorem s5 : ∀ w, (sizeOf 5).run Tryz.prog w = .ok 1 w := fun _ => by kernel_rfl

/-- the ways in which Get says no -/
theorem getB_cases {l : List UInt8} {at' k : Int} (h : getB l at' k = false) (hk : okk k = true) : at' < 0 ∨ (0 ≤ at' ∧ (l.length : Int) < at') ∨ (0 ≤ at' ∧ at' ≤ l.length ∧ (l.length : Int) - at' < k) := by
 simp [getB, hk] at h
 omega
theorem getB_nat {l : List UInt8} {at' k : Int} (h : getB l at' k = true) : ∃ a n : Nat, at' = (a : Int) ∧ k = (n : Int) ∧ 1 ≤ n ∧ n ≤ 8 ∧ a + n ≤ l.length := by
 simp [getB, okk] at h
 exact ⟨at'.toNat, k.toNat, by omega, by omega, by omega, by omega, by omega⟩
theorem getV_nat {l : List UInt8} {a n : Nat} (h : getB l a n = true) : getV l a n = valOf ((l.drop a).take n) := by
 unfold getV
 rw [if_pos h]
 rfl
theorem take_next {l : List UInt8} {j : Nat} (h : j < l.length) : l.take (j + 1) = l.take j ++ [l[j]] := List.take_succ_eq_append_getElem h
theorem valOf_lt' {l : List UInt8} {j : Nat} (h : l.length ≤ j) : valOf l < 256 ^ j := Nat.lt_of_lt_of_le (valOf_lt l) (Nat.pow_le_pow_right (by omega) h)
theorem valOf_7 {l : List UInt8} {j : Nat} (h : j ≤ 7) : valOf (l.take j) < 72057594037927936 := Nat.lt_of_lt_of_le (valOf_lt' (by rw [List.length_take]; exact Nat.min_le_left _ _)) (pow_le8 h)

set_option maxHeartbeats 1000000 in
theorem get_any (v : Value) (l : List UInt8) (at' k : Int) (w : World) (hr : Row w v (l.map u8v)) : Calls Tryz.prog 246 #[v, .int .i64 at', .int .i64 k] w fun e w' => e = .returned (.tuple #[.int .u64 (getV l at' k : Nat), .bool (getB l at' k)]) ∧ w = w' := by
 cases hk : okk k
 ·have H : Hid (((getV l at' k : Nat) : Int) = 0 ∧ getB l at' k = false) := Lib.hid (by
   have : getB l at' k = false := by simp [getB, hk]
   exact ⟨by simp [getV, this], this⟩)
  obtain ⟨p, cap, rfl, -, -⟩ := hr.formB
  go_enter Tryz.func246, Tryz.ntmps246
  go_wp2_with (go_at_call 250; refine (good_any _ _).mono ?_; rintro e w' ⟨rfl, rfl⟩)
  go_ret2
  exact ⟨retIB H.out.1.symm H.out.2.symm, rfl⟩
 ·cases hg : getB l at' k
  ·have H : Hid (((getV l at' k : Nat) : Int) = 0) := Lib.hid (by simp [getV, hg])
   have hc := getB_cases hg hk
   obtain ⟨p, cap, rfl, h1, h2⟩ := hr.formB
   clear hr hg
   rcases hc with hc | ⟨h3, hc⟩ | ⟨h3, h4, hc⟩
   all_goals
    go_enter Tryz.func246, Tryz.ntmps246
    go_wp2_with (go_at_call 250; refine (good_any _ _).mono ?_; rintro e w' ⟨rfl, rfl⟩)
    go_ret2
    exact ⟨retIB H.out.symm rfl, rfl⟩
  ·obtain ⟨a, n, rfl, rfl, h1, h8, han⟩ := getB_nat hg
   have HV := Lib.hid (getV_nat hg)
   clear hg
   obtain ⟨b, off, cap, rfl, hc1, hc2, HC⟩ := hr.bytesAt (by omega)
   clear hr
   have ea : ∀ w, (Instr.slice 53 (.slice (some ⟨b, off, none⟩) l.length cap) (some (.int .i64 (a : Int))) (some (.int .i64 ((a : Int) + (n : Int)))) none).run Tryz.prog w = .ok (.slice (some ⟨b, off + a, none⟩) n (cap - a)) w := fun w => by
    rw [show ((a : Int) + (n : Int)) = ((a + n : Nat) : Int) from by omega, run_cut_lh w Tryz.underlying53 s5 (some ⟨b, off, none⟩) l.length cap a (a + n) (by omega) (by omega)]
    have : ¬ cap = a := by omega
    simp [cutv, this, Go.WideShapes.add_plain]
   have HD : Hid (∀ i x, (l.drop a)[i]? = some x → w.cell? ⟨b, off + a + i, none⟩ = some (.int .u8 (x.toNat : Int))) := Lib.hid fun i x hx => by
    rw [Nat.add_assoc]
    exact HC.out (a + i) x (by simpa using hx)
   have hl : n ≤ (l.drop a).length := by rw [List.length_drop]; omega
   generalize l.drop a = m at *
   go_enter Tryz.func246, Tryz.ntmps246
   go_wp2_with (go_at_call 250; refine (good_any _ _).mono ?_; rintro e w' ⟨rfl, rfl⟩)
   go_loop [8, 10, 39] (fun o c i => ∃ j o' : Nat, j ≤ n ∧ i = .int .i64 j ∧ o = .int .u64 (o' : Int) ∧ o' = valOf (m.take j)) (fun _ _ i => n - (intOf i).toNat)
   case atStart => exact ⟨0, 0, by omega, rfl, rfl, rfl⟩
   case round =>
    obtain ⟨j, o', hj, rfl, rfl, ho⟩ := hrel
    have HO := Lib.hid ho
    clear ho
    by_cases hlt : j < n
    ·have hcell : w.cell? ⟨b, off + a + j, none⟩ = some (.int .u8 ((m[j]'(by omega)).toNat : Int)) := HD.out j _ (by simp)
     have HT : Hid (m.take (j + 1) = m.take j ++ [m[j]'(by omega)]) := Lib.hid (take_next (by omega))
     have ho7 : o' < 72057594037927936 := by rw [HO.out]; exact valOf_7 (by omega)
     generalize (m[j]'(by omega)) = x at *
     have hx := x.toNat_lt
     have e2 := Lib.hid (or8' (a := o') (b := x.toNat) ho7 hx)
     go_wp2
     go_round
     case rel => exact ⟨j + 1, o' * 256 + x.toNat, by omega, by go_num, congrArg (Value.int .u64) e2.out, by rw [HT.out, valOf_snoc, HO.out]⟩
     case measure => simp [intOf] <;> omega
    ·obtain rfl : j = n := by omega
     go_wp2
     go_ret2
     exact ⟨retIB (by rw [HV.out, HO.out]) rfl, rfl⟩

end Oct
end Go.Proofs.YtcleakjjefmmbaaGreat

/- octet.Put, Turn of the reference. -/
namespace Go.Proofs.YtcleakjjefmmbaaGreat
open Go.RowKit

/-- so many bytes 00 -/
def zeroB (n : Nat) : Array Value := madeCells #[.int .u8 0] n
theorem zeroB_size (n : Nat) : (zeroB n).size = n := size_madeCells _ _
theorem zeroB_list (n : Nat) : (zeroB n).toList = (List.replicate n (0 : UInt8)).map u8v := by
 apply List.ext_getElem?
 intro i
 simp [zeroB, madeCells, u8v, List.getElem?_replicate]
 by_cases h : i < n <;> simp [h, Nat.mod_one]
theorem run_make_u8 {P : Program} {t e : TypeId} (ht : P.underlying t = some (.slice e)) (hi : (P.info? e).map (fun i => (i.zero, i.size, i.bytes)) = some (some (.int .u8 0), 1, 1)) (n : Nat) (hn : n ≤ 281474976710656) (w : World) :
  (Instr.makeSlice t (.int .i64 (n : Int)) (.int .i64 (n : Int))).run P w = .ok (.slice (some ⟨w.heap.size, 0, none⟩) n n) (w.alloc (.cells (zeroB n) e)) := by
 obtain ⟨i, hi', hz, hs, hb⟩ := info_parts hi
 have := run_make w t e i (.int .u8 0) ht hi' hz .i64 .i64 (n : Int) (n : Int) (by omega) (by omega) (by rw [hb]; omega) (by omega)
 rw [this, hs]
 simp [zeroB, Value.cells]
theorem own_arr {w : World} {base b n : Nat} {e : TypeId} {cs : Array Value} {l : List Value} (hb : b = w.heap.size) (hbase : base ≤ w.heap.size) (hn : n = l.length) (hl : cs.toList = l) (hm : n ≤ maxLen) : Own (w.alloc (.cells cs e)) base e (.slice (some ⟨b, 0, none⟩) n n) l := by
 subst hb hl hn
 refine ⟨by simp, .inr ⟨w.heap.size, cs.size, cs, by simp, hbase, ?_, by simp, by simpa using hm, by simp, ?_⟩⟩
 ·show (w.heap.push _)[w.heap.size]? = _
  simp
 ·rw [List.take_of_length_le (by simp)]

namespace Oct
theorem i22 : (Tryz.prog.info? 5).map (fun i => (i.zero, i.size, i.bytes)) = some (some (.int .u8 0), 1, 1) := by kernel_rfl
theorem be_list {v n : Nat} {cs : Array Value} (hs : cs.size = n) (h : ∀ j, j < n → cs[j]? = some (.int .u8 ((v / 256 ^ (n - 1 - j) % 256 : Nat) : Int))) : cs.toList = (be n v).map u8v := by
 apply List.ext_getElem?
 intro j
 rw [Array.getElem?_toList]
 by_cases hj : j < n
 ·rw [h j hj, List.getElem?_map, be_get n v j hj]
  simp [u8v]
 ·rw [Array.getElem?_eq_none (by omega), List.getElem?_eq_none (by rw [List.length_map, be_length]; omega)]

theorem shift_byte (v m : Nat) : ((v : Int) / 2 ^ (8 * m) % 256) = ((v / 256 ^ m % 256 : Nat) : Int) := by
 have e : (2 : Int) ^ (8 * m) = ((256 ^ m : Nat) : Int) := by rw [Int.pow_mul]; simp
 rw [e]
 rfl

set_option maxHeartbeats 1000000 in
theorem put_any (v : Nat) (hv : v < 18446744073709551616) (k : Int) (w : World) : Calls Tryz.prog 225 #[.int .u64 (v : Int), .int .i64 k] w (RetSB w (putL v k) (putB v k)) := by
 cases hk : okk k
 ·have hp := putB_false (v := v) hk
  have HE : Hid (RetSB w (putL v k) (putB v k) (.returned (.tuple #[.slice none 0 0, .bool false])) w) := Lib.hid ⟨_, by rw [hp], by simpa [putL, hp] using Own.nil _ _ _, Keeps.refl _⟩
  clear hp
  go_enter Tryz.func225, Tryz.ntmps225
  go_wp2_with (go_at_call 250; refine (good_any _ _).mono ?_; rintro e w' ⟨rfl, rfl⟩)
  go_ret2
  exact HE.out
 ·have HR := Lib.hid (room_any v hv k hk w)
  cases hp : putB v k
  ·have HE : Hid (RetSB w (putL v k) false (.returned (.tuple #[.slice none 0 0, .bool false])) w) := Lib.hid ⟨_, rfl, by simpa [putL, hp] using Own.nil _ _ _, Keeps.refl _⟩
   rw [hp] at HR
   clear hp
   go_enter Tryz.func225, Tryz.ntmps225
   go_wp2_with (first | (go_at_call 250; refine (good_any _ _).mono ?_; rintro e w' ⟨rfl, rfl⟩) | (go_at_call 260; refine HR.out.mono ?_; rintro e w' ⟨rfl, rfl⟩))
   go_ret2
   exact HE.out
  ·have HL : Hid (putL v k = be k.toNat v) := Lib.hid (by simp [putL, hp])
   have HG := Lib.hid (good_any k w)
   rw [hk] at HG
   rw [hp] at HR
   obtain ⟨n, rfl, h1, h8⟩ := okk_nat hk
   clear hp hk
   have hmk := fun w => run_make_u8 (P := Tryz.prog) Tryz.underlying53 i22 n (by omega) w
   go_enter Tryz.func225, Tryz.ntmps225
   go_wp2_with (first | (go_at_call 250; refine HG.out.mono ?_; rintro e w' ⟨rfl, rfl⟩) | (go_at_call 260; refine HR.out.mono ?_; rintro e w' ⟨rfl, rfl⟩))
   clear hmk
   go_loopw [7, 21] (fun s7 i wr => ∃ (j : Nat) (cs : Array Value), j ≤ n ∧ i = .int .i64 j ∧ wr = w.alloc (.cells cs 5) ∧ cs.size = n ∧ Hid (∀ i, i < j → cs[i]? = some (.int .u8 ((v / 256 ^ (n - 1 - i) % 256 : Nat) : Int)))) (fun _ i _ => n - (intOf i).toNat)
   case atStart => exact ⟨0, _, by omega, rfl, rfl, zeroB_size n, Lib.hid (by omega)⟩
   case round =>
    obtain ⟨j, cs, hj, rfl, rfl, hsz, HC⟩ := hrel
    have HZ := Lib.hid hsz
    clear hsz
    by_cases hlt : j < n
    ·obtain ⟨old, hold⟩ : ∃ old, cs[j]? = some old := ⟨cs[j]'(by have := HZ.out; omega), by simp [HZ.out, hlt]⟩
     have hcell : ((w.alloc (.cells cs 5)).cell? ⟨w.heap.size, j, none⟩) = some old := by
      rw [cell_alloc_new]; exact hold
     go_wp2
     go_roundw
     case rel =>
      refine ⟨j + 1, cs.setIfInBounds j (.int .u8 ((v / 256 ^ (n - 1 - j) % 256 : Nat) : Int)), by omega, by go_num, ?_, by simp [HZ.out], Lib.hid fun i hi => ?_⟩
      ·rw [shift_byte]
      ·rw [Array.getElem?_setIfInBounds]
       split
       ·rename_i e
        subst e
        rw [if_pos (by have := HZ.out; omega)]
       ·exact HC.out i (by omega)
     case measure => simp [intOf] <;> omega
    ·obtain rfl : j = n := by omega
     go_wp2
     go_ret2
     exact ⟨_, rfl, by rw [HL.out, Int.toNat_natCast]; exact own_arr rfl (Nat.le_refl _) (by simp [be_length]) (be_list HZ.out HC.out) (by unfold maxLen; omega), (Keeps.refl _).alloc _⟩
end Oct
end Go.Proofs.YtcleakjjefmmbaaGreat

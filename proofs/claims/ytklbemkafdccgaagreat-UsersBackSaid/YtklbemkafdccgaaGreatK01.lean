/- Several texts in one: Own, Mods. -/
import Derived.Test.YtklbemkafdccgaaGreatK00
import Derived.Laws.AppendOwnNone
/- Slices that a call itself makes by append: what they own, and one law for append. For every program. -/
namespace Go.Proofs.YtklbemkafdccgaaGreat
open Go.RowKit

theorem Row.form {w : World} {v : Value} {l : List Value} (h : Row w v l) : ∃ p cap, v = .slice p l.length cap ∧ l.length ≤ cap ∧ cap ≤ maxLen := by
 rcases h with ⟨a0, cap, rfl, rfl, h, _⟩ | ⟨b, off, cap, rfl, h1, h2, _⟩
 ·exact ⟨_, _, rfl, Nat.zero_le _, h⟩
 ·exact ⟨_, _, rfl, h1, h2⟩

/-- v is nil, or a slice of the call's own (its block is from base on), with one-cell elements l. -/
def Own (w : World) (base : Nat) (e : TypeId) (v : Value) (l : List Value) : Prop := w.ownsRow base e 1 v l.length l

theorem Own.nil (w : World) (base : Nat) (e : TypeId) : Own w base e (.slice none 0 0) [] := World.ownsRow_nil w base e 1

theorem Own.row {w : World} {base : Nat} {e : TypeId} {v : Value} {l : List Value} (h : Own w base e v l) : Row w v l := by
 have h0 := h
 rcases h.2 with ⟨rfl, h9⟩ | ⟨g, cap, cur, rfl, h1, h2, h3, h4, h5, h6⟩
 ·exact .inl ⟨none, 0, rfl, List.eq_nil_of_length_eq_zero h9, Nat.zero_le _, fun _ => rfl⟩
 ·refine .inr ⟨g, 0, cap, rfl, h3, h4, fun i x hx => ?_⟩
  have := World.ownsRow.cells (h := h0) (g := g) rfl i x hx
  rw [Go.WideShapes.add_plain] at this
  exact this

theorem Own.kept {w w' : World} {base : Nat} {e : TypeId} {v : Value} {l : List Value} {row : Option Nat} (h : Own w base e v l) (hg : w.grownBy w' row) (hne : v.ownBlock = none ∨ v.ownBlock ≠ row) : Own w' base e v l := World.ownsRow.kept h hg hne

theorem Own.keeps {w w' : World} {base : Nat} {e : TypeId} {v : Value} {l : List Value} (h : Own w base e v l) (k : Keeps w w') : Own w' base e v l := by
 refine ⟨h.1, ?_⟩
 rcases h.2 with hn | ⟨g, cap, cur, rfl, hb, hgg, rest⟩
 ·exact .inl hn
 ·refine .inr ⟨g, cap, cur, rfl, hb, ?_, rest⟩
  rw [k.block (Array.getElem?_eq_some_iff.1 hgg).1]
  exact hgg

theorem Own.alloc {w : World} {base : Nat} {e : TypeId} {v : Value} {l : List Value} (h : Own w base e v l) (o : Obj) : Own (w.alloc o) base e v l := h.keeps ((Keeps.refl _).alloc _)
theorem Own.drew {w : World} {base : Nat} {e : TypeId} {v : Value} {l : List Value} (h : Own w base e v l) : Own w.drew base e v l := h.keeps ((Keeps.refl _).drew)
theorem Own.setCell {w : World} {base : Nat} {e : TypeId} {v : Value} {l : List Value} (h : Own w base e v l) {a : Addr} (u : Value) (ha : v.ownBlock ≠ some a.block) : Own (w.setCell a u) base e v l := by
 refine ⟨h.1, ?_⟩
 rcases h.2 with hn | ⟨g, cap, cur, rfl, hb, hgg, rest⟩
 ·exact .inl hn
 ·refine .inr ⟨g, cap, cur, rfl, hb, ?_, rest⟩
  rw [Below.heap_setCell]
  ·exact hgg
  ·intro e; exact ha (by simp [Value.ownBlock, e])

/-- its own block lies from base on -/
theorem Own.base {w : World} {base : Nat} {e : TypeId} {v : Value} {l : List Value} (h : Own w base e v l) : ∀ k, v.ownBlock = some k → base ≤ k := by
 intro k hk
 rcases h.2 with ⟨rfl, _⟩ | ⟨g, cap, cur, rfl, hb, _⟩
 ·simp [Value.ownBlock] at hk
 ·simp [Value.ownBlock] at hk
  omega

/-- what append must know of a slice type t with one-cell elements e of so many bytes -/
structure ElemOk (P : Program) (t e : TypeId) (bytes : Nat) : Prop where
 ht : P.underlying t = some (.slice e)
 hi : ∃ i z, P.info? e = some i ∧ i.zero = some z ∧ i.size = 1 ∧ i.bytes = bytes ∧ z.cells.size = 1

theorem elemOk {P : Program} {t e : TypeId} {bytes : Nat} {z : Value} (ht : P.underlying t = some (.slice e)) (hi : (P.info? e).map (fun i => (i.zero, i.size, i.bytes)) = some (some z, 1, bytes)) (hz : z.cells.size = 1) : ElemOk P t e bytes := by
 refine ⟨ht, ?_⟩
 cases h : P.info? e with
 |none => rw [h] at hi; cases hi
 |some i =>
  rw [h] at hi
  simp only [Option.map_some, Option.some.injEq, Prod.mk.injEq] at hi
  exact ⟨i, z, rfl, hi.1, hi.2.1, hi.2.2, hz⟩

theorem oneCell_map_u8 (l : List UInt8) : ∀ u ∈ l.map u8v, u.oneCell' = true := by
 intro u hu
 obtain ⟨x, _, rfl⟩ := List.mem_map.1 hu
 rfl
/-- the one new cell of 'append(s, x)' -/
theorem row_one {w : World} {b : Nat} {x : Value} {e : TypeId} (hb : b = w.heap.size) : Row (w.alloc (.cells #[x] e)) (.slice (some ⟨b, 0, none⟩) 1 1) [x] := row_alloc hb rfl rfl (by decide)
theorem Own.empty {w : World} {b : Nat} {e : TypeId} (base : Nat) (hb : b = w.heap.size) (h : base ≤ w.heap.size) : Own (w.alloc (.cells #[] e)) base e (.slice (some ⟨b, 0, none⟩) 0 0) [] := by
 subst hb
 refine ⟨by simp, .inr ⟨w.heap.size, 0, #[], rfl, h, ?_, Nat.le_refl _, Nat.zero_le _, by simp, by simp⟩⟩
 show (w.heap.push _)[w.heap.size]? = _
 simp
theorem Own.form {w : World} {base : Nat} {e : TypeId} {v : Value} {l : List Value} (h : Own w base e v l) (hl : 0 < l.length) : ∃ g cap, v = .slice (some ⟨g, 0, none⟩) l.length cap ∧ base ≤ g ∧ l.length ≤ cap ∧ cap ≤ maxLen := by
 rcases h.2 with ⟨_, h0⟩ | ⟨g, cap, _, hv, hb, _, h1, h2, _⟩
 ·omega
 ·exact ⟨g, cap, hv, hb, h1, h2⟩
theorem Own.cellAt {w : World} {base g cap : Nat} {e : TypeId} {l : List Value} {n : Nat} (h : Own w base e (.slice (some ⟨g, 0, none⟩) n cap) l) (j : Nat) (x : Value) (hj : l[j]? = some x) : w.cell? ⟨g, j, none⟩ = some x := by
 have hn : n = l.length := by
  rcases h.2 with ⟨h', _⟩ | ⟨g', cap', cur, h', _⟩
  ·simp at h'
  ·simp only [Value.slice.injEq] at h'
   exact h'.2.1
 subst hn
 rw [World.ownsRow.cellAt h j (by have := (List.getElem?_eq_some_iff.1 hj).1; omega)]
 exact hj
end Go.Proofs.YtklbemkafdccgaaGreat

/- What a call changes of old memory: only blocks of a given set. For every program. -/
namespace Go.Proofs.YtklbemkafdccgaaGreat
open Go.RowKit

structure Mods (S : Nat → Prop) (w w' : World) : Prop where
 os : w'.os = w.os
 tape : w'.tape = w.tape
 output : w'.output = w.output
 size : w.heap.size ≤ w'.heap.size
 block : ∀ k, k < w.heap.size → ¬ S k → w'.heap[k]? = w.heap[k]?

section
variable {S T : Nat → Prop} {a b c w w' W : World}
theorem Mods.refl (S : Nat → Prop) (w : World) : Mods S w w := ⟨rfl, rfl, rfl, Nat.le_refl _, fun _ _ _ => rfl⟩
theorem Mods.of_keeps (h : Keeps w w') : Mods S w w' := ⟨h.os, h.tape, h.output, h.size, fun k hk _ => h.block hk⟩
theorem Mods.mono (h : Mods S w w') (hS : ∀ k, S k → T k) : Mods T w w' := ⟨h.os, h.tape, h.output, h.size, fun k hk hn => h.block k hk fun hs => hn (hS k hs)⟩
theorem Mods.trans (h : Mods S a b) (k : Mods T b c) (hT : ∀ x, T x → x < a.heap.size → S x) : Mods S a c :=
 ⟨k.os.trans h.os, k.tape.trans h.tape, k.output.trans h.output, Nat.le_trans h.size k.size, fun x hx hn =>
  (k.block x (Nat.lt_of_lt_of_le hx h.size) fun ht => hn (hT x ht hx)).trans (h.block x hx hn)⟩
theorem Mods.keeps (h : Mods S w w') (hK : Keeps W w) (hS : ∀ x, S x → W.heap.size ≤ x) : Keeps W w' :=
 ⟨h.os.trans hK.os, h.tape.trans hK.tape, h.output.trans hK.output, Nat.le_trans hK.size h.size, fun x hx =>
  (h.block x (Nat.lt_of_lt_of_le hx hK.size) fun hs => by have := hS x hs; omega).trans (hK.block hx)⟩
theorem Mods.then (h : Mods S a b) (k : Keeps b c) : Mods S a c := h.trans (T := fun _ => False) (Mods.of_keeps k) (fun _ h => h.elim)
theorem Mods.alloc (h : Mods S a w) (o : Obj) : Mods S a (w.alloc o) := h.then ((Keeps.refl _).alloc o)
theorem Mods.drew (h : Mods S a w) : Mods S a w.drew := ⟨h.os, h.tape, h.output, h.size, h.block⟩
theorem Mods.setCell (h : Mods S a w) {p : Addr} (hp : p.block < a.heap.size → S p.block) (u : Value) : Mods S a (w.setCell p u) :=
 ⟨h.os, h.tape, h.output, by simpa [World.setCell] using h.size, fun x hx hn => by
  rw [Below.heap_setCell _ _ _ _ (fun e => hn (by rw [e]; exact hp (e ▸ hx)))]
  exact h.block x hx hn⟩
theorem Mods.grown {row : Option Nat} (h : Mods S a w) (hg : w.grownBy w' row) (hr : ∀ k, row = some k → k < a.heap.size → S k) : Mods S a w' :=
 ⟨hg.os.trans h.os, hg.tape.trans h.tape, hg.output.trans h.output, Nat.le_trans h.size hg.size, fun x hx hn =>
  (hg.block x (Nat.lt_of_lt_of_le hx h.size) fun e => hn (hr x e.symm hx)).trans (h.block x hx hn)⟩
theorem Mods.heap (h : Mods S w w') {k : Nat} {o : Obj} (hk : w.heap[k]? = some o) (hn : ¬ S k) : w'.heap[k]? = some o := by
 rw [h.block k (Array.getElem?_eq_some_iff.1 hk).1 hn]; exact hk
theorem Mods.cell (h : Mods S w w') {p : Addr} {v : Value} (hp : w.cell? p = some v) (hn : ¬ S p.block) : w'.cell? p = some v := by
 rw [World.cell?_of_block (h.block p.block (World.block_lt_of_cell? w p hp) hn)]; exact hp

theorem Own.mods {base : Nat} {e : TypeId} {v : Value} {l : List Value} (h : Own w base e v l) (k : Mods S w w') (hn : ∀ x, v.ownBlock = some x → ¬ S x) : Own w' base e v l := by
 refine ⟨h.1, ?_⟩
 rcases h.2 with h0 | ⟨g, cap, cur, rfl, hb, hgg, rest⟩
 ·exact .inl h0
 ·exact .inr ⟨g, cap, cur, rfl, hb, k.heap hgg (hn g rfl), rest⟩
theorem Own.block_lt {base : Nat} {e : TypeId} {v : Value} {l : List Value} (h : Own w base e v l) : ∀ x, v.ownBlock = some x → x < w.heap.size := by
 intro x hx
 rcases h.2 with ⟨rfl, _⟩ | ⟨g, cap, cur, rfl, hb, hgg, rest⟩
 ·simp [Value.ownBlock] at hx
 ·simp [Value.ownBlock] at hx
  subst hx
  exact (Array.getElem?_eq_some_iff.1 hgg).1
theorem Own.lower {base base' : Nat} {e : TypeId} {v : Value} {l : List Value} (h : Own w base e v l) (hb : base' ≤ base) : Own w base' e v l :=
 ⟨h.1, h.2.elim Or.inl (fun ⟨g, cap, cur, hv, hg, r⟩ => Or.inr ⟨g, cap, cur, hv, Nat.le_trans hb hg, r⟩)⟩
end

/-! ### append, with what becomes of the block: elements of any size -/
structure ElemOkS (P : Program) (t e : TypeId) (size bytes : Nat) : Prop where
 ht : P.underlying t = some (.slice e)
 hi : ∃ i z, P.info? e = some i ∧ i.zero = some z ∧ i.size = size ∧ i.bytes = bytes ∧ z.cells.size = size

theorem elemOkS {P : Program} {t e : TypeId} {size bytes : Nat} {z : Value} (ht : P.underlying t = some (.slice e)) (hi : (P.info? e).map (fun i => (i.zero, i.size, i.bytes)) = some (some z, size, bytes)) (hz : z.cells.size = size) : ElemOkS P t e size bytes := by
 refine ⟨ht, ?_⟩
 cases h : P.info? e with
 |none => rw [h] at hi; cases hi
 |some i =>
  rw [h] at hi
  simp only [Option.map_some, Option.some.injEq, Prod.mk.injEq] at hi
  exact ⟨i, z, rfl, hi.1, hi.2.1, hi.2.2, hz⟩
theorem ElemOk.s {P : Program} {t e : TypeId} {bytes : Nat} (h : ElemOk P t e bytes) : ElemOkS P t e 1 bytes := ⟨h.ht, h.hi⟩

/-- a slice of elements of so many cells each reads as these cells -/
def RowS (w : World) (size : Nat) (v : Value) (n : Nat) (xs : List Value) : Prop :=
 xs.length = n * size ∧
 ((∃ a0 cap, v = .slice a0 0 cap ∧ n = 0 ∧ cap ≤ maxLen ∧ (a0 = none → cap = 0)) ∨
  ∃ b off cap, v = .slice (some ⟨b, off, none⟩) n cap ∧ n ≤ cap ∧ cap ≤ maxLen ∧ ∀ i x, xs[i]? = some x → w.cell? ⟨b, off + i, none⟩ = some x)
theorem Row.s {w : World} {v : Value} {l : List Value} (h : Row w v l) : RowS w 1 v l.length l := by
 refine ⟨by simp, ?_⟩
 rcases h with ⟨a0, cap, h1, h2, h3, h4⟩ | h
 ·exact .inl ⟨a0, cap, h1, by rw [h2]; rfl, h3, h4⟩
 ·exact .inr h

theorem run_app {P : Program} (w : World) {t e : TypeId} {size bytes base : Nat} (ty : TypeId) (he : ElemOkS P t e size bytes) (hsz : 0 < size) (v : Value) (n : Nat) (xs : List Value) (hown : w.ownsRow base e size v n xs)
  (a : Addr) (m c : Nat) (news : List Value) (hl : news.length = m * size) (hnews : ∀ j u, news[j]? = some u → w.cell? (a.add j) = some u) (h1 : ∀ u ∈ news, u.oneCell' = true)
  (h63 : n + m ≤ maxLen) (hbytes : (n + m) * bytes ≤ 140737488355328) (hbase : base ≤ w.heap.size) :
  ∃ v' w', (Builtin.append_ #[t, t] ty #[v, .slice (some a) m c]).run P w = .ok v' w' ∧ w'.ownsRow base e size v' (n + m) (xs ++ news) ∧ w.grownBy w' v.ownBlock ∧
   (∀ x, v'.ownBlock = some x → v.ownBlock = some x ∨ w.heap.size ≤ x) := by
 obtain ⟨i, z, hi, hz, hs, hby, hzs⟩ := he.hi
 obtain ⟨v', w', hr, ho, hg, hnil⟩ := run_append_own w base t ty e i z size bytes he.ht hi hz hs hby hzs hsz v n xs hown a m c news hl hnews h1 h63 hbytes hbase
 refine ⟨v', w', hr, ho, hg, ?_⟩
 rcases hown.2 with ⟨rfl, rfl⟩ | ⟨g, cap, cur, rfl, hbg, hgg, hnc, hcm, hcs, htake⟩
 ·have hx : xs = [] := List.eq_nil_of_length_eq_zero (by simpa using hown.1)
  subst hx
  obtain ⟨v2, w2, hr2, ho2, _, _⟩ := run_append_own w w.heap.size t ty e i z size bytes he.ht hi hz hs hby hzs hsz (.slice none 0 0) 0 [] (World.ownsRow_nil w _ e size) a m c news hl hnews h1 h63 hbytes (Nat.le_refl _)
  rw [hr] at hr2
  simp only [Result.ok.injEq] at hr2
  obtain ⟨rfl, rfl⟩ := hr2
  intro x hx
  right
  rcases ho2.2 with ⟨rfl, _⟩ | ⟨g, _, _, rfl, hb, _⟩
  ·simp [Value.ownBlock] at hx
  ·simp [Value.ownBlock] at hx; omega
 ·subst hs
  by_cases hroom : n + m ≤ cap
  ·have hr2 := run_append_room (P := P) w t ty e i he.ht hi g n cap cur hgg a m c news hl hnews h1 hroom (by rw [hl, hcs, ← Nat.add_mul]; exact Nat.mul_le_mul_right _ hroom)
   rw [hr] at hr2
   simp only [Result.ok.injEq] at hr2
   obtain ⟨rfl, _⟩ := hr2
   intro x hx
   left
   simpa [Value.ownBlock] using hx
  ·have holds : ∀ j u, xs[j]? = some u → w.cell? ((⟨g, 0, none⟩ : Addr).add j) = some u := World.ownsRow.cells (h := hown) (g := g) rfl
   have hr2 := run_append_grow (P := P) w t ty e i z he.ht hi hz ⟨g, 0, none⟩ n cap xs hown.1 holds a m c news hl hnews (by omega) (by unfold maxLen at h63; omega) (growslice_fits (by omega) (by rw [hby]; exact hbytes))
   rw [hr] at hr2
   simp only [Result.ok.injEq] at hr2
   obtain ⟨rfl, _⟩ := hr2
   intro x hx
   right
   simp [Value.ownBlock] at hx
   omega

/-- append(s, x...): s nil or the call's own, elements of any size; x any slice that reads as news. -/
theorem wpList_apps {P : Program} {w : World} {ops : Array Oper} {rest : List Oper} {o : Oper} {a : Act} {Q : Exit → Act → World → Prop} {t e : TypeId} {size bytes base : Nat} (he : ElemOkS P t e size bytes) (hsz : 0 < size) (hgd : o.guard = none) (s x : Operand)
  (ho : o.op = .call { callee := .builtin .append, args := #[s, x], argTypes := #[t, t] })
  (v xv : Value) (n m : Nat) (xs news : List Value) (hs : a.eval s = v) (hx : a.eval x = xv) (hown : w.ownsRow base e size v n xs) (hrow : RowS w size xv m news) (h1 : ∀ u ∈ news, u.oneCell' = true)
  (hb : (n + m) * bytes ≤ 70368744177664) (hbytes : 0 < bytes) (hbase : base ≤ w.heap.size)
  (h : ∀ v' w', w'.ownsRow base e size v' (n + m) (xs ++ news) → w.grownBy w' v.ownBlock → (∀ x, v'.ownBlock = some x → v.ownBlock = some x ∨ w.heap.size ≤ x) → wpList P ops Q rest (a.put o.dst v') w') : wpList P ops Q (o :: rest) a w := by
 have h63 : n + m ≤ 70368744177664 := Nat.le_trans (Nat.le_mul_of_pos_right _ hbytes) hb
 have hml : n + m ≤ maxLen := by unfold maxLen; omega
 have go : ∀ (ad : Addr) (c : Nat), xv = .slice (some ad) m c → (∀ j u, news[j]? = some u → w.cell? (ad.add j) = some u) → wpList P ops Q (o :: rest) a w := by
  intro ad c hxv hn
  obtain ⟨v', w', hr, h2, h3, h4⟩ := run_app (P := P) w o.type he hsz v n xs hown ad m c news hrow.1 hn h1 hml (by omega) hbase
  refine wpList_plain hgd fun K hK => ?_
  have hx' : a.eval x = .slice (some ad) m c := by rw [hx, hxv]
  unfold Oper.wp execOp
  simp only [ho, resolve, invoke, builtin, Sem.run_bind, Sem.run_pure, Result.andThen_ok, List.map_toArray, List.map_cons, List.map_nil, hs, hx', hr]
  exact hK _ _ (h v' w' h2 h3 h4)
 rcases hrow.2 with ⟨a0, cap, rfl, rfl, hc, h0⟩ | ⟨b, off, cap, rfl, h2, h3, h4⟩
 ·have hnews : news = [] := List.eq_nil_of_length_eq_zero (by simpa using hrow.1)
  cases a0 with
  |none =>
   obtain rfl := h0 rfl
   obtain ⟨i, z, hi, hz, hs', hby, hzs⟩ := he.hi
   refine wpList_append_own_none hgd s x t ho base e i size he.ht hi v n xs hs hown hx ?_
   subst hnews
   exact h v w (by simpa using hown) ⟨rfl, rfl, rfl, Nat.le_refl _, fun _ _ _ => rfl⟩ (fun x hx => .inl hx)
  |some ad => exact go ad cap rfl (by subst hnews; simp)
 ·refine go ⟨b, off, none⟩ cap rfl fun j u hu => ?_
  rw [Go.WideShapes.add_plain]
  exact h4 j u hu
end Go.Proofs.YtklbemkafdccgaaGreat

/- Slices that a call itself makes by append: what they own, and one law for append. For every program. -/
import Derived.Test.YtdleoohhnldlgaaBase
import Derived.Laws.AppendOwnNone
namespace Go.Proofs.Ytdleoohhnldlgaa
open Go.RowKit

theorem Row.form {w : World} {v : Value} {l : List Value} (h : Row w v l) : ∃ p cap, v = .slice p l.length cap ∧ l.length ≤ cap ∧ cap ≤ maxLen := by
  rcases h with ⟨a0, cap, rfl, rfl, h, _⟩ | ⟨b, off, cap, rfl, h1, h2, _⟩
  · exact ⟨_, _, rfl, Nat.zero_le _, h⟩
  · exact ⟨_, _, rfl, h1, h2⟩

/-- v is nil, or a slice of the call's own (its block is from base on), with one-cell elements l. -/
def Own (w : World) (base : Nat) (e : TypeId) (v : Value) (l : List Value) : Prop := w.ownsRow base e 1 v l.length l

theorem Own.nil (w : World) (base : Nat) (e : TypeId) : Own w base e (.slice none 0 0) [] := World.ownsRow_nil w base e 1

theorem Own.row {w : World} {base : Nat} {e : TypeId} {v : Value} {l : List Value} (h : Own w base e v l) : Row w v l := by
  have h0 := h
  rcases h.2 with ⟨rfl, h9⟩ | ⟨g, cap, cur, rfl, h1, h2, h3, h4, h5, h6⟩
  · exact .inl ⟨none, 0, rfl, List.eq_nil_of_length_eq_zero h9, Nat.zero_le _, fun _ => rfl⟩
  · refine .inr ⟨g, 0, cap, rfl, h3, h4, fun i x hx => ?_⟩
    have := World.ownsRow.cells (h := h0) (g := g) rfl i x hx
    rw [Go.WideShapes.add_plain] at this
    exact this

theorem Own.kept {w w' : World} {base : Nat} {e : TypeId} {v : Value} {l : List Value} {row : Option Nat} (h : Own w base e v l) (hg : w.grownBy w' row) (hne : v.ownBlock = none ∨ v.ownBlock ≠ row) : Own w' base e v l := World.ownsRow.kept h hg hne

theorem Own.keeps {w w' : World} {base : Nat} {e : TypeId} {v : Value} {l : List Value} (h : Own w base e v l) (k : Keeps w w') : Own w' base e v l := by
  refine ⟨h.1, ?_⟩
  rcases h.2 with hn | ⟨g, cap, cur, rfl, hb, hgg, rest⟩
  · exact .inl hn
  · refine .inr ⟨g, cap, cur, rfl, hb, ?_, rest⟩
    rw [k.block (Array.getElem?_eq_some_iff.1 hgg).1]
    exact hgg

theorem Own.alloc {w : World} {base : Nat} {e : TypeId} {v : Value} {l : List Value} (h : Own w base e v l) (o : Obj) : Own (w.alloc o) base e v l := h.keeps ((Keeps.refl _).alloc _)
theorem Own.drew {w : World} {base : Nat} {e : TypeId} {v : Value} {l : List Value} (h : Own w base e v l) : Own w.drew base e v l := h.keeps ((Keeps.refl _).drew)
theorem Own.setCell {w : World} {base : Nat} {e : TypeId} {v : Value} {l : List Value} (h : Own w base e v l) {a : Addr} (u : Value) (ha : v.ownBlock ≠ some a.block) : Own (w.setCell a u) base e v l := by
  refine ⟨h.1, ?_⟩
  rcases h.2 with hn | ⟨g, cap, cur, rfl, hb, hgg, rest⟩
  · exact .inl hn
  · refine .inr ⟨g, cap, cur, rfl, hb, ?_, rest⟩
    rw [Below.heap_setCell]
    · exact hgg
    · intro e; exact ha (by simp [Value.ownBlock, e])

/-- its own block lies from base on -/
theorem Own.base {w : World} {base : Nat} {e : TypeId} {v : Value} {l : List Value} (h : Own w base e v l) : ∀ k, v.ownBlock = some k → base ≤ k := by
  intro k hk
  rcases h.2 with ⟨rfl, _⟩ | ⟨g, cap, cur, rfl, hb, _⟩
  · simp [Value.ownBlock] at hk
  · simp [Value.ownBlock] at hk
    omega

/-- what append must know of a slice type t with one-cell elements e of so many bytes -/
structure ElemOk (P : Program) (t e : TypeId) (bytes : Nat) : Prop where
  ht : P.underlying t = some (.slice e)
  hi : ∃ i z, P.info? e = some i ∧ i.zero = some z ∧ i.size = 1 ∧ i.bytes = bytes ∧ z.cells.size = 1

theorem elemOk {P : Program} {t e : TypeId} {bytes : Nat} {z : Value} (ht : P.underlying t = some (.slice e)) (hi : (P.info? e).map (fun i => (i.zero, i.size, i.bytes)) = some (some z, 1, bytes)) (hz : z.cells.size = 1) : ElemOk P t e bytes := by
  refine ⟨ht, ?_⟩
  cases h : P.info? e with
  | none => rw [h] at hi; cases hi
  | some i =>
    rw [h] at hi
    simp only [Option.map_some, Option.some.injEq, Prod.mk.injEq] at hi
    exact ⟨i, z, rfl, hi.1, hi.2.1, hi.2.2, hz⟩

/-- append(s, x...): s nil or the call's own; x any slice that reads as news. -/
theorem wpList_app {P : Program} {w : World} {ops : Array Oper} {rest : List Oper} {o : Oper} {a : Act} {Q : Exit → Act → World → Prop} {t e : TypeId} {bytes base : Nat} (he : ElemOk P t e bytes) (hgd : o.guard = none) (s x : Operand)
    (ho : o.op = .call { callee := .builtin .append, args := #[s, x], argTypes := #[t, t] })
    (v xv : Value) (xs news : List Value) (hs : a.eval s = v) (hx : a.eval x = xv) (hown : Own w base e v xs) (hrow : Row w xv news) (h1 : ∀ u ∈ news, u.oneCell' = true)
    (hb : (xs.length + news.length) * bytes ≤ 70368744177664) (hbytes : 0 < bytes) (hbase : base ≤ w.heap.size)
    (h : ∀ v' w', Own w' base e v' (xs ++ news) → w.grownBy w' v.ownBlock → wpList P ops Q rest (a.put o.dst v') w') : wpList P ops Q (o :: rest) a w := by
  obtain ⟨i, z, hi, hz, hsz, hby, hzs⟩ := he.hi
  have h63 : xs.length + news.length ≤ 70368744177664 := Nat.le_trans (Nat.le_mul_of_pos_right _ hbytes) hb
  have hml : xs.length + news.length ≤ maxLen := by unfold maxLen; omega
  have go : ∀ (ad : Addr) (c : Nat), xv = .slice (some ad) news.length c → (∀ j u, news[j]? = some u → w.cell? (ad.add j) = some u) → wpList P ops Q (o :: rest) a w := by
    intro ad c hxv hn
    refine wpList_append_own w hgd s x t ho base e i z 1 bytes he.ht hi hz hsz hby hzs (by omega) v xs.length xs hs hown ad news.length c news (by rw [hx, hxv]) (by simp) hn h1 hml (by omega) hbase ?_
    intro v' w' h2 h3 _
    refine h v' w' ?_ h3
    unfold Own
    rw [List.length_append]
    exact h2
  rcases hrow with ⟨a0, cap, rfl, rfl, hc, h0⟩ | ⟨b, off, cap, rfl, h2, h3, h4⟩
  · cases a0 with
    | none =>
      obtain rfl := h0 rfl
      refine wpList_append_own_none hgd s x t ho base e i 1 he.ht hi v xs.length xs hs hown hx ?_
      have := h v w (by simpa using hown) ⟨rfl, rfl, rfl, Nat.le_refl _, fun _ _ _ => rfl⟩
      exact this
    | some ad => exact go ad cap rfl (by simp)
  · refine go ⟨b, off, none⟩ cap rfl fun j u hu => ?_
    rw [Go.WideShapes.add_plain]
    exact h4 j u hu

theorem oneCell_map_int (k : IntKind) (l : List Int) : ∀ u ∈ l.map (Value.int k), u.oneCell' = true := by
  intro u hu
  obtain ⟨x, _, rfl⟩ := List.mem_map.1 hu
  rfl
theorem oneCell_map_u8 (l : List UInt8) : ∀ u ∈ l.map u8v, u.oneCell' = true := by
  intro u hu
  obtain ⟨x, _, rfl⟩ := List.mem_map.1 hu
  rfl
/-- the one new cell of 'append(s, x)' -/
theorem row_one {w : World} {b : Nat} {x : Value} {e : TypeId} (hb : b = w.heap.size) : Row (w.alloc (.cells #[x] e)) (.slice (some ⟨b, 0, none⟩) 1 1) [x] := row_alloc hb rfl rfl (by decide)
theorem row_mark {w : World} {b n : Nat} {cs : Array Value} {e : TypeId} {fr : Nat × Nat} {l : List Value} (hb : b = w.heap.size) (hl : cs.toList = l) (hn : n = l.length) (hm : n ≤ maxLen) : Row (w.alloc (.cells cs e fr)) (.slice (some ⟨b, 0, none⟩) n n) l := by
  subst hb hl hn
  exact .inr ⟨w.heap.size, 0, cs.size, by simp, by simp, by simpa using hm, fun i x hx => by rw [Nat.zero_add, cell_alloc_new]; simpa using hx⟩
theorem row_nil (w : World) : Row w (.slice none 0 0) [] := .inl ⟨none, 0, rfl, rfl, Nat.zero_le _, fun _ => rfl⟩
theorem Own.empty {w : World} {b : Nat} {e : TypeId} (base : Nat) (hb : b = w.heap.size) (h : base ≤ w.heap.size) : Own (w.alloc (.cells #[] e)) base e (.slice (some ⟨b, 0, none⟩) 0 0) [] := by
  subst hb
  refine ⟨by simp, .inr ⟨w.heap.size, 0, #[], rfl, h, ?_, Nat.le_refl _, Nat.zero_le _, by simp, by simp⟩⟩
  show (w.heap.push _)[w.heap.size]? = _
  simp
theorem Own.form {w : World} {base : Nat} {e : TypeId} {v : Value} {l : List Value} (h : Own w base e v l) (hl : 0 < l.length) : ∃ g cap, v = .slice (some ⟨g, 0, none⟩) l.length cap ∧ base ≤ g ∧ l.length ≤ cap ∧ cap ≤ maxLen := by
  rcases h.2 with ⟨_, h0⟩ | ⟨g, cap, _, hv, hb, _, h1, h2, _⟩
  · omega
  · exact ⟨g, cap, hv, hb, h1, h2⟩
theorem Own.cellAt {w : World} {base g cap : Nat} {e : TypeId} {l : List Value} {n : Nat} (h : Own w base e (.slice (some ⟨g, 0, none⟩) n cap) l) (j : Nat) (x : Value) (hj : l[j]? = some x) : w.cell? ⟨g, j, none⟩ = some x := by
  have hn : n = l.length := by
    rcases h.2 with ⟨h', _⟩ | ⟨g', cap', cur, h', _⟩
    · simp at h'
    · simp only [Value.slice.injEq] at h'
      exact h'.2.1
  subst hn
  rw [World.ownsRow.cellAt h j (by have := (List.getElem?_eq_some_iff.1 hj).1; omega)]
  exact hj
theorem Own.frozenAt {w : World} {base g cap : Nat} {e : TypeId} {l : List Value} (h : Own w base e (.slice (some ⟨g, 0, none⟩) l.length cap) l) (j : Nat) : w.frozen? ⟨g, j, none⟩ = false := World.ownsRow.frozenAt h j
theorem Own.stored {w : World} {base g cap : Nat} {e : TypeId} {l : List Value} (h : Own w base e (.slice (some ⟨g, 0, none⟩) l.length cap) l) (j : Nat) (u : Value) : Own (w.setCell ⟨g, j, none⟩ u) base e (.slice (some ⟨g, 0, none⟩) l.length cap) (l.set j u) := by
  have := (World.ownsRow.stored h j u).1
  unfold Own
  rw [List.length_set]
  exact this
theorem addr0 (g j : Nat) : (⟨g, 0 + j, none⟩ : Addr) = ⟨g, j, none⟩ := by rw [Nat.zero_add]
end Go.Proofs.Ytdleoohhnldlgaa

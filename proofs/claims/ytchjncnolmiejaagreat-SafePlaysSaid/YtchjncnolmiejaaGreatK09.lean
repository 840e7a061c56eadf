/- Several texts in one: OctetSink, OctetSource, OctetTakes. -/
import Derived.Test.YtchjncnolmiejaaGreatK08
import Derived.Test.YtchjncnolmiejaaGreatK02
import Derived.Lib.SliceRun
/- The sink: what it holds, and what each call makes of it. bytes.Clone. -/
namespace Go.Proofs.YtchjncnolmiejaaGreat
open Go.RowKit
namespace Oct

theorem _root_.Go.Proofs.YtchjncnolmiejaaGreat.Own.sl {w : World} {base : Nat} {e : TypeId} {v : Value} {l : List Value} (h : Own w base e v l) : ∃ p n cap, v = .slice p n cap := by
  obtain ⟨p, cap, rfl, -⟩ := h.row.form
  exact ⟨_, _, _, rfl⟩
theorem str9 : Tryz.prog.underlying 9 = some .string := Tryz.underlying9

/-- the blocks of a sink at g with slice v -/
def Fr (g : Nat) (v : Value) (x : Nat) : Prop := x = g ∨ v.ownBlock = some x

structure SinkAt (w : World) (g : Nat) (v : Value) (l : List UInt8) : Prop where
  blk : Blk w g 197 #[v]
  own : Own w 0 5 v (l.map u8v)

theorem SinkAt.keeps {w w' : World} {g : Nat} {v : Value} {l : List UInt8} (h : SinkAt w g v l) (k : Keeps w w') : SinkAt w' g v l := ⟨h.blk.keeps k, h.own.keeps k⟩
theorem SinkAt.mods {w w' : World} {g : Nat} {v : Value} {l : List UInt8} {S : Nat → Prop} (h : SinkAt w g v l) (k : Mods S w w') (hn : ∀ x, Fr g v x → ¬ S x) : SinkAt w' g v l := ⟨h.blk.mods k (hn g (.inl rfl)), h.own.mods k fun x hx => hn x (.inr hx)⟩
theorem SinkAt.ne {w : World} {g : Nat} {v : Value} {l : List UInt8} (h : SinkAt w g v l) : v.ownBlock ≠ some g := h.own.blk_ne h.blk (by decide)
theorem SinkAt.lt {w : World} {g : Nat} {v : Value} {l : List UInt8} (h : SinkAt w g v l) : ∀ x, Fr g v x → x < w.heap.size := fun x hx => hx.elim (fun e => e ▸ h.blk.lt) (fun e => h.own.block_lt x e)

/-- the call answers r; the sink holds l' then, and no other old block is changed -/
def SinkDid (W : World) (g : Nat) (v : Value) (l' : List UInt8) (r : Ending) (e : Ending) (w' : World) : Prop :=
  ∃ v', e = r ∧ SinkAt w' g v' l' ∧ Mods (Fr g v) W w' ∧ Fresh W v v'

/-- a new sink -/
def NewSinkDid (W : World) (e : Ending) (w' : World) : Prop := ∃ g, e = .returned (.pointer (some ⟨g, 0, none⟩)) ∧ W.heap.size ≤ g ∧ SinkAt w' g (.slice none 0 0) [] ∧ Keeps W w'

/-- a text's bytes -/
def textL (s : ByteArray) : List UInt8 := putL s.size 4 ++ s.data.toList

end Oct
end Go.Proofs.YtchjncnolmiejaaGreat

/- The source: what it holds, and what each call takes of it. -/
namespace Go.Proofs.YtchjncnolmiejaaGreat
open Go.RowKit
namespace Oct

/-- a source at g: its bytes l, the place, the error -/
structure SrcAt (w : World) (g : Nat) (v : Value) (l : List UInt8) (at' : Nat) (e : Int) : Prop where
  blk : Blk w g 215 #[v, .int .i64 (at' : Int), .int .i64 e]
  own : Own w 0 5 v (l.map u8v)
  le : at' ≤ l.length
  len : l.length ≤ 35184372088832

theorem SrcAt.keeps {w w' : World} {g : Nat} {v : Value} {l : List UInt8} {a : Nat} {e : Int} (h : SrcAt w g v l a e) (k : Keeps w w') : SrcAt w' g v l a e := ⟨h.blk.keeps k, h.own.keeps k, h.le, h.len⟩
theorem SrcAt.mods {w w' : World} {g : Nat} {v : Value} {l : List UInt8} {a : Nat} {e : Int} {S : Nat → Prop} (h : SrcAt w g v l a e) (k : Mods S w w') (hn : ∀ x, Fr g v x → ¬ S x) : SrcAt w' g v l a e := ⟨h.blk.mods k (hn g (.inl rfl)), h.own.mods k fun x hx => hn x (.inr hx), h.le, h.len⟩
theorem SrcAt.ne {w : World} {g : Nat} {v : Value} {l : List UInt8} {a : Nat} {e : Int} (h : SrcAt w g v l a e) : v.ownBlock ≠ some g := h.own.blk_ne h.blk (by decide)
theorem SrcAt.cells {w : World} {g : Nat} {v : Value} {l : List UInt8} {a : Nat} {e : Int} (h : SrcAt w g v l a e) : w.cell? ⟨g, 0, none⟩ = some v ∧ w.cell? ⟨g, 1, none⟩ = some (.int .i64 (a : Int)) ∧ w.cell? ⟨g, 2, none⟩ = some (.int .i64 e) :=
  ⟨by have := h.blk.cell 0; simpa using this, by have := h.blk.cell 1; simpa using this, by have := h.blk.cell 2; simpa using this⟩
theorem SrcAt.free {w : World} {g : Nat} {v : Value} {l : List UInt8} {a : Nat} {e : Int} (h : SrcAt w g v l a e) : w.frozen? ⟨g, 0, none⟩ = false ∧ w.frozen? ⟨g, 1, none⟩ = false ∧ w.frozen? ⟨g, 2, none⟩ = false :=
  ⟨h.blk.frozen 0, h.blk.frozen 1, h.blk.frozen 2⟩
theorem SrcAt.setE {w : World} {g : Nat} {v : Value} {l : List UInt8} {a : Nat} {e : Int} (h : SrcAt w g v l a e) (e' : Int) : SrcAt (w.setCell ⟨g, 2, none⟩ (.int .i64 e')) g v l a e' :=
  ⟨by simpa using h.blk.set_ 2 (.int .i64 e'), h.own.setCell _ h.ne, h.le, h.len⟩
theorem SrcAt.setA {w : World} {g : Nat} {v : Value} {l : List UInt8} {a : Nat} {e : Int} (h : SrcAt w g v l a e) (a' : Nat) (ha : a' ≤ l.length) : SrcAt (w.setCell ⟨g, 1, none⟩ (.int .i64 (a' : Int))) g v l a' e :=
  ⟨by simpa using h.blk.set_ 1 (.int .i64 (a' : Int)), h.own.setCell _ h.ne, ha, h.len⟩

def NewSourceDid (W : World) (l : List UInt8) (e : Ending) (w' : World) : Prop := ∃ g v, e = .returned (.pointer (some ⟨g, 0, none⟩)) ∧ W.heap.size ≤ g ∧ SrcAt w' g v l 0 0 ∧ (∀ x, v.ownBlock = some x → W.heap.size ≤ x) ∧ Keeps W w'

/-- the call changes the source's block alone -/
def SrcDid (W : World) (g : Nat) (v : Value) (l : List UInt8) (a : Nat) (er : Int) (r : Ending) (e : Ending) (w' : World) : Prop :=
  e = r ∧ SrcAt w' g v l a er ∧ Mods (· = g) W w'

def failE (is : Bool) (ne er : Int) : Int := if is && er == 0 then ne else er
def failB (is : Bool) (ne er : Int) : Bool := is && ne != 0 || er != 0
def doneE (er : Int) (a n : Nat) : Int := if er = 0 ∧ a < n then 3 else er
theorem fail_any (g : Nat) (v : Value) (l : List UInt8) (a : Nat) (er : Int) (is : Bool) (ne : Int) (w : World) (h : SrcAt w g v l a er) :
    Calls Tryz.prog 168 #[.pointer (some ⟨g, 0, none⟩), .bool is, .int .i64 ne] w (SrcDid w g v l a (failE is ne er) (.returned (.bool (failB is ne er)))) := by
  obtain ⟨hc0, hc1, hc2⟩ := h.cells
  obtain ⟨hf0, hf1, hf2⟩ := h.free
  cases is
  · have HE : Hid (SrcDid w g v l a (failE false ne er) (.returned (.bool (failB false ne er))) (.returned (.bool (er != 0))) w) := Lib.hid ⟨by simp [failB], by simpa [failE] using h, Mods.refl _ _⟩
    clear h
    go_enter Tryz.func168, Tryz.ntmps168
    go_wp2
    go_ret
    exact HE.out
  · by_cases he : er = 0
    · subst he
      have HE : Hid (SrcDid w g v l a (failE true ne 0) (.returned (.bool (failB true ne 0))) (.returned (.bool (ne != 0))) (w.setCell ⟨g, 2, none⟩ (.int .i64 ne))) := Lib.hid ⟨by simp [failB], by simpa [failE] using h.setE ne, Mods.setCell (p := ⟨g, 2, none⟩) (Mods.refl (· = g) w) (fun _ => rfl) _⟩
      clear h
      go_enter Tryz.func168, Tryz.ntmps168
      go_wp2
      go_ret
      exact HE.out
    · have he1 : (er == 0) = false := by simp [he]
      have HE : Hid (SrcDid w g v l a (failE true ne er) (.returned (.bool (failB true ne er))) (.returned (.bool (er != 0))) w) := Lib.hid ⟨by simp [failB, he], by simpa [failE, he] using h, Mods.refl _ _⟩
      clear h he
      go_enter Tryz.func168, Tryz.ntmps168
      go_wp2
      go_ret
      exact HE.out

def QuietI (W : World) (n : Int) (e : Ending) (w' : World) : Prop := e = .returned (.int .i64 n) ∧ Keeps W w'

end Oct
end Go.Proofs.YtchjncnolmiejaaGreat

/- The source's U, I, Raw and Text. -/
namespace Go.Proofs.YtchjncnolmiejaaGreat
open Go.RowKit
namespace Oct

def uE (n a : Nat) (er k : Int) : Int := if er ≠ 0 then er else if okk k = false then 1 else if (n : Int) - a < k then 2 else 0
def uA (n a : Nat) (er k : Int) : Nat := if uE n a er k = 0 then a + k.toNat else a
def uV (l : List UInt8) (a : Nat) (er k : Int) : Nat := if uE l.length a er k = 0 then getV l a k else 0

def SrcDidV (W : World) (g : Nat) (v : Value) (l : List UInt8) (a : Nat) (er : Int) (r : Ending) (e : Ending) (w' : World) : Prop :=
  e = r ∧ SrcAt w' g v l a er ∧ Mods (· = g) W w'

end Oct
end Go.Proofs.YtchjncnolmiejaaGreat

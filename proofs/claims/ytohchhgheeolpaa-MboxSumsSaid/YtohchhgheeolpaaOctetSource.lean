/- The source: what it holds, and what each call takes of it. -/
import Derived.Test.YtohchhgheeolpaaOctetSink
namespace Go.Proofs.Ytohchhgheeolpaa
open Go.RowKit
namespace Oct

/-- a source at g: its bytes l, the place, the error -/
structure SrcAt (w : World) (g : Nat) (v : Value) (l : List UInt8) (at' : Nat) (e : Int) : Prop where
  blk : Blk w g 260 #[v, .int .i64 (at' : Int), .int .i64 e]
  own : Own w 0 5 v (l.map u8v)
  le : at' ≤ l.length
  len : l.length ≤ 35184372088832

theorem SrcAt.keeps {w w' : World} {g : Nat} {v : Value} {l : List UInt8} {a : Nat} {e : Int} (h : SrcAt w g v l a e) (k : Keeps w w') : SrcAt w' g v l a e := ⟨h.blk.keeps k, h.own.keeps k, h.le, h.len⟩
theorem SrcAt.mods {w w' : World} {g : Nat} {v : Value} {l : List UInt8} {a : Nat} {e : Int} {S : Nat → Prop} (h : SrcAt w g v l a e) (k : Mods S w w') (hn : ∀ x, Fr g v x → ¬ S x) : SrcAt w' g v l a e := ⟨h.blk.mods k (hn g (.inl rfl)), h.own.mods k fun x hx => hn x (.inr hx), h.le, h.len⟩
theorem SrcAt.ne {w : World} {g : Nat} {v : Value} {l : List UInt8} {a : Nat} {e : Int} (h : SrcAt w g v l a e) : v.ownBlock ≠ some g := h.own.blk_ne h.blk (by decide)
theorem SrcAt.cells {w : World} {g : Nat} {v : Value} {l : List UInt8} {a : Nat} {e : Int} (h : SrcAt w g v l a e) : w.cell? ⟨g, 0, none⟩ = some v ∧ w.cell? ⟨g, 1, none⟩ = some (.int .i64 (a : Int)) ∧ w.cell? ⟨g, 2, none⟩ = some (.int .i64 e) :=
  ⟨by have := h.blk.cell 0; simpa using this, by have := h.blk.cell 1; simpa using this, by have := h.blk.cell 2; simpa using this⟩
theorem SrcAt.free {w : World} {g : Nat} {v : Value} {l : List UInt8} {a : Nat} {e : Int} (h : SrcAt w g v l a e) : w.frozen? ⟨g, 0, none⟩ = false ∧ w.frozen? ⟨g, 1, none⟩ = false ∧ w.frozen? ⟨g, 2, none⟩ = false :=
  ⟨h.blk.frozen 0, h.blk.frozen 1, h.blk.frozen 2⟩
theorem SrcAt.setE {w : World} {g : Nat} {v : Value} {l : List UInt8} {a : Nat} {e : Int} (h : SrcAt w g v l a e) (e' : Int) : SrcAt (w.setCell ⟨g, 2, none⟩ (.int .i64 e')) g v l a e' :=
  ⟨by simpa using h.blk.set_ 2 (.int .i64 e'), h.own.setCell _ h.ne, h.le, h.len⟩
theorem SrcAt.setA {w : World} {g : Nat} {v : Value} {l : List UInt8} {a : Nat} {e : Int} (h : SrcAt w g v l a e) (a' : Nat) (ha : a' ≤ l.length) : SrcAt (w.setCell ⟨g, 1, none⟩ (.int .i64 (a' : Int))) g v l a' e :=
  ⟨by simpa using h.blk.set_ 1 (.int .i64 (a' : Int)), h.own.setCell _ h.ne, ha, h.len⟩

def NewSourceDid (W : World) (l : List UInt8) (e : Ending) (w' : World) : Prop := ∃ g v, e = .returned (.pointer (some ⟨g, 0, none⟩)) ∧ W.heap.size ≤ g ∧ SrcAt w' g v l 0 0 ∧ (∀ x, v.ownBlock = some x → W.heap.size ≤ x) ∧ Keeps W w'

theorem newSource_any (v : Value) (l : List UInt8) (w : World) (hr : Row w v (l.map u8v)) (hl : l.length ≤ 35184372088832) : Calls Try.prog 166 #[v] w (NewSourceDid w l) := by
  have HC := Lib.hid (clone_any v l w hr hl)
  clear hr
  go_enter Try.func166, Try.ntmps166
  go_wp2_with fail
  refine HC.out.mono ?_
  rintro e w1 ⟨b, rfl, hown1, hK1⟩
  have HO := Lib.hid hown1
  obtain ⟨p2, n2, cap2, rfl⟩ := hown1.sl
  clear hown1
  go_wp2
  go_ret
  exact ⟨_, _, rfl, hK1.size, ⟨Blk.new _ _ _ rfl, (HO.out.alloc _).lower (Nat.zero_le _), Nat.zero_le _, hl⟩, HO.out.base, hK1.alloc _⟩

/-- the call changes the source's block alone -/
def SrcDid (W : World) (g : Nat) (v : Value) (l : List UInt8) (a : Nat) (er : Int) (r : Ending) (e : Ending) (w' : World) : Prop :=
  e = r ∧ SrcAt w' g v l a er ∧ Mods (· = g) W w'

def failE (is : Bool) (ne er : Int) : Int := if is && er == 0 then ne else er
def failB (is : Bool) (ne er : Int) : Bool := is && ne != 0 || er != 0
def doneE (er : Int) (a n : Nat) : Int := if er = 0 ∧ a < n then 3 else er
theorem fail_any (g : Nat) (v : Value) (l : List UInt8) (a : Nat) (er : Int) (is : Bool) (ne : Int) (w : World) (h : SrcAt w g v l a er) :
    Calls Try.prog 204 #[.pointer (some ⟨g, 0, none⟩), .bool is, .int .i64 ne] w (SrcDid w g v l a (failE is ne er) (.returned (.bool (failB is ne er)))) := by
  obtain ⟨hc0, hc1, hc2⟩ := h.cells
  obtain ⟨hf0, hf1, hf2⟩ := h.free
  cases is
  · have HE : Hid (SrcDid w g v l a (failE false ne er) (.returned (.bool (failB false ne er))) (.returned (.bool (er != 0))) w) := Lib.hid ⟨by simp [failB], by simpa [failE] using h, Mods.refl _ _⟩
    clear h
    go_enter Try.func204, Try.ntmps204
    go_wp2
    go_ret
    exact HE.out
  · by_cases he : er = 0
    · subst he
      have HE : Hid (SrcDid w g v l a (failE true ne 0) (.returned (.bool (failB true ne 0))) (.returned (.bool (ne != 0))) (w.setCell ⟨g, 2, none⟩ (.int .i64 ne))) := Lib.hid ⟨by simp [failB], by simpa [failE] using h.setE ne, Mods.setCell (p := ⟨g, 2, none⟩) (Mods.refl (· = g) w) (fun _ => rfl) _⟩
      clear h
      go_enter Try.func204, Try.ntmps204
      go_wp2
      go_ret
      exact HE.out
    · have he1 : (er == 0) = false := by simp [he]
      have HE : Hid (SrcDid w g v l a (failE true ne er) (.returned (.bool (failB true ne er))) (.returned (.bool (er != 0))) w) := Lib.hid ⟨by simp [failB, he], by simpa [failE, he] using h, Mods.refl _ _⟩
      clear h he
      go_enter Try.func204, Try.ntmps204
      go_wp2
      go_ret
      exact HE.out

def QuietI (W : World) (n : Int) (e : Ending) (w' : World) : Prop := e = .returned (.int .i64 n) ∧ Keeps W w'

set_option maxHeartbeats 400000 in
theorem left_any (g : Nat) (v : Value) (l : List UInt8) (a : Nat) (er : Int) (w : World) (h : SrcAt w g v l a er) :
    Calls Try.prog 205 #[.pointer (some ⟨g, 0, none⟩)] w (QuietI w ((l.length : Int) - a)) := by
  obtain ⟨hc0, hc1, hc2⟩ := h.cells
  have hle := h.le
  obtain ⟨p, cap, rfl, h1, h2⟩ := h.own.row.formB
  clear h
  go_enter Try.func205, Try.ntmps205
  go_wp2
  go_quiet (fail)
  go_wp2
  go_ret
  exact ⟨rfl, (Keeps.refl _).drewN _⟩

theorem err_any (g : Nat) (v : Value) (l : List UInt8) (a : Nat) (er : Int) (w : World) (h : SrcAt w g v l a er) :
    Calls Try.prog 170 #[.pointer (some ⟨g, 0, none⟩)] w fun e w' => e = .returned (.int .i64 er) ∧ w = w' := by
  obtain ⟨hc0, hc1, hc2⟩ := h.cells
  clear h
  go_enter Try.func170, Try.ntmps170
  go_wp2
  go_ret
  exact ⟨rfl, rfl⟩

theorem done_any (g : Nat) (v : Value) (l : List UInt8) (a : Nat) (er : Int) (w : World) (h : SrcAt w g v l a er) :
    Calls Try.prog 171 #[.pointer (some ⟨g, 0, none⟩)] w (QuietI w (doneE er a l.length)) := by
  obtain ⟨hc0, hc1, hc2⟩ := h.cells
  have HL := Lib.hid (left_any g v l a er w h)
  have hle := h.le
  have hlen := h.len
  by_cases he : er = 0
  · subst he
    by_cases hlt : a < l.length
    · have HE : Hid (doneE 0 a l.length = 3) := Lib.hid (by simp [doneE, hlt])
      clear h
      go_enter Try.func171, Try.ntmps171
      go_wp2_with (go_at_call 205; refine HL.out.mono ?_; rintro e w1 ⟨rfl, hK1⟩)
      go_ret
      exact ⟨retI HE.out.symm, hK1⟩
    · have HE : Hid (doneE 0 a l.length = 0) := Lib.hid (by simp [doneE, hlt])
      clear h
      go_enter Try.func171, Try.ntmps171
      go_wp2_with (go_at_call 205; refine HL.out.mono ?_; rintro e w1 ⟨rfl, hK1⟩)
      go_ret
      exact ⟨retI HE.out.symm, hK1⟩
  · have he1 : (er == 0) = false := by simp [he]
    have HE : Hid (doneE er a l.length = er) := Lib.hid (by simp [doneE, he])
    clear h he
    go_enter Try.func171, Try.ntmps171
    go_wp2
    go_ret
    exact ⟨retI HE.out.symm, Keeps.refl _⟩
end Oct
end Go.Proofs.Ytohchhgheeolpaa

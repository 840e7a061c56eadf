/- A mailbox in memory: its block, its two maps. -/
import Derived.Test.YtohchhgheeolpaaMboxMap
import Derived.Test.YtohchhgheeolpaaRecMem
import Derived.Test.YtohchhgheeolpaaQuota
namespace Go.Proofs.Ytohchhgheeolpaa
open Go.RowKit
namespace Mbx
open Rcd Go.Maps

theorem intKeyed : Keyed Try.prog 3 := int_keyed Try.underlying3
theorem zeroEnt_run (w : World) : (zeroValue 85).run Try.prog w = .ok (entV zeroEnt) w := by kernel_rfl
theorem zeroInt_run (w : World) : (zeroValue 3).run Try.prog w = .ok (.int .i64 0) w := by kernel_rfl

structure BoxAt (w : World) (g b1 b2 n : Nat) (m : Box) : Prop where
  blk : Blk w g 186 #[.map (some b1), .map (some b2), .int .i64 m.next, .int .i64 m.ub, .int .i64 m.uc]
  ent : ∃ D, w.ownsMap Try.prog 3 entElem b1 n D ∧ Reads D m.ent entD
  org : ∃ D, w.ownsMap Try.prog 3 intElem b2 n D ∧ Reads D m.org intD
  d1 : b1 ≠ g
  d2 : b2 ≠ g
  d12 : b1 ≠ b2
/-- the mailbox's blocks -/
def BFr (g b1 b2 : Nat) (x : Nat) : Prop := x = g ∨ x = b1 ∨ x = b2

theorem map_keeps {w w' : World} {R : Value → Option (DataW Unit × List MemPlace)} {b n : Nat} {D : DataW Unit} (h : w.ownsMap Try.prog 3 R b n D) (k : Keeps w w') : w'.ownsMap Try.prog 3 R b n D := by
  obtain ⟨es, clock, hb, r⟩ := h
  exact ⟨es, clock, by rw [k.block (Array.getElem?_eq_some_iff.1 hb).1]; exact hb, r⟩
section
variable {w w' : World} {g b1 b2 n : Nat} {m : Box}
theorem BoxAt.keeps (h : BoxAt w g b1 b2 n m) (k : Keeps w w') : BoxAt w' g b1 b2 n m :=
  ⟨h.blk.keeps k, let ⟨D, h1, h2⟩ := h.ent; ⟨D, map_keeps h1 k, h2⟩, let ⟨D, h1, h2⟩ := h.org; ⟨D, map_keeps h1 k, h2⟩, h.d1, h.d2, h.d12⟩
theorem BoxAt.mono (h : BoxAt w g b1 b2 n m) {n' : Nat} (hn : n ≤ n') : BoxAt w g b1 b2 n' m :=
  ⟨h.blk, let ⟨D, h1, h2⟩ := h.ent; ⟨D, h1.mono hn, h2⟩, let ⟨D, h1, h2⟩ := h.org; ⟨D, h1.mono hn, h2⟩, h.d1, h.d2, h.d12⟩
theorem BoxAt.lt (h : BoxAt w g b1 b2 n m) : ∀ x, BFr g b1 b2 x → x < w.heap.size := by
  rintro x (rfl | rfl | rfl)
  · exact h.blk.lt
  · obtain ⟨D, h1, _⟩ := h.ent; exact h1.lt
  · obtain ⟨D, h1, _⟩ := h.org; exact h1.lt
theorem BoxAt.cells (h : BoxAt w g b1 b2 n m) : w.cell? ⟨g, 0, none⟩ = some (.map (some b1)) ∧ w.cell? ⟨g, 1, none⟩ = some (.map (some b2)) ∧ w.cell? ⟨g, 2, none⟩ = some (.int .i64 m.next) ∧ w.cell? ⟨g, 3, none⟩ = some (.int .i64 m.ub) ∧ w.cell? ⟨g, 4, none⟩ = some (.int .i64 m.uc) := by
  refine ⟨?_, ?_, ?_, ?_, ?_⟩ <;> (rw [h.blk.cell]; rfl)
theorem BoxAt.look (h : BoxAt w g b1 b2 n m) {x : Int} (hx : (Lit.int .i64 x).wf = true) :
    (Instr.lookup 183 (.map (some b1)) (.int .i64 x) true).run Try.prog w = .ok (.tuple #[entV ((m.ent x).getD zeroEnt), .bool (m.ent x).isSome]) w := by
  obtain ⟨D, h1, h2⟩ := h.ent
  obtain ⟨v, ps, hrun, hv⟩ := h1.look_ok intKeyed Try.underlying183 (zeroEnt_run w) (entElem_mk zeroEnt) (keyOf_int_mk Try.underlying3 hx)
  rw [h2.at_] at hv
  rw [hrun, entElem_inv hv, (h2.2 x).1]
theorem BoxAt.lookO (h : BoxAt w g b1 b2 n m) {x : Int} (hx : (Lit.int .i64 x).wf = true) :
    (Instr.lookup 184 (.map (some b2)) (.int .i64 x) true).run Try.prog w = .ok (.tuple #[.int .i64 ((m.org x).getD 0), .bool (m.org x).isSome]) w := by
  obtain ⟨D, h1, h2⟩ := h.org
  obtain ⟨v, ps, hrun, hv⟩ := h1.look_ok intKeyed Try.underlying184 (zeroInt_run w) (zd := intD 0) (zp := []) rfl (keyOf_int_mk Try.underlying3 hx)
  rw [h2.at_] at hv
  rw [hrun, intElem_inv hv, (h2.2 x).1]
theorem turned_mods {b : Nat} (h : w.mapTurned w' b) : Mods (· = b) w w' := (Mods.refl (· = b) w).grown h.grown (fun k hk _ => by cases hk; rfl)
theorem map_mods {R : Value → Option (DataW Unit × List MemPlace)} {b n : Nat} {D : DataW Unit} {S : Nat → Prop} (h : w.ownsMap Try.prog 3 R b n D) (k : Mods S w w') (hn : ¬ S b) : w'.ownsMap Try.prog 3 R b n D := by
  obtain ⟨es, clock, hb, r⟩ := h
  exact ⟨es, clock, k.heap hb hn, r⟩
/-- entries[x] = e -/
theorem BoxAt.put (h : BoxAt w g b1 b2 n m) (hn : n < 1000000) {x : Int} (hx : (Lit.int .i64 x).wf = true) (e : Ent) : ∃ w', (Instr.mapUpdate 183 (.map (some b1)) (.int .i64 x) (entV e)).run Try.prog w = .ok () w' ∧ BoxAt w' g b1 b2 (n + 1) { m with ent := upd m.ent x e } ∧ Mods (· = b1) w w' := by
  obtain ⟨D, h1, h2⟩ := h.ent
  obtain ⟨w', hrun, ho, ht⟩ := h1.store intKeyed Try.underlying183 (by unfold maxLen; omega) (val := entV e) (d := entD e) (ps := []) (keyOf_int_mk Try.underlying3 hx) (entElem_mk e)
  have hM := turned_mods ht
  obtain ⟨D2, h3, h4⟩ := h.org
  exact ⟨w', hrun, ⟨h.blk.mods hM (fun e => h.d1 e.symm), ⟨_, ho, h2.put x e⟩, ⟨D2, (map_mods h3 hM (fun e => h.d12 e.symm)).mono (Nat.le_succ n), h4⟩, h.d1, h.d2, h.d12⟩, hM⟩
theorem BoxAt.putO (h : BoxAt w g b1 b2 n m) (hn : n < 1000000) {x y : Int} (hx : (Lit.int .i64 x).wf = true) : ∃ w', (Instr.mapUpdate 184 (.map (some b2)) (.int .i64 x) (.int .i64 y)).run Try.prog w = .ok () w' ∧ BoxAt w' g b1 b2 (n + 1) { m with org := upd m.org x y } ∧ Mods (· = b2) w w' := by
  obtain ⟨D, h1, h2⟩ := h.org
  obtain ⟨w', hrun, ho, ht⟩ := h1.store intKeyed Try.underlying184 (by unfold maxLen; omega) (val := .int .i64 y) (d := intD y) (ps := []) (keyOf_int_mk Try.underlying3 hx) rfl
  have hM := turned_mods ht
  obtain ⟨D2, h3, h4⟩ := h.ent
  exact ⟨w', hrun, ⟨h.blk.mods hM (fun e => h.d2 e.symm), ⟨D2, (map_mods h3 hM h.d12).mono (Nat.le_succ n), h4⟩, ⟨_, ho, h2.put x y⟩, h.d1, h.d2, h.d12⟩, hM⟩
/-- m.next = v -/
theorem BoxAt.setNext (h : BoxAt w g b1 b2 n m) (v : Int) : BoxAt (w.setCell ⟨g, 2, none⟩ (.int .i64 v)) g b1 b2 n { m with next := v } ∧ Mods (· = g) w (w.setCell ⟨g, 2, none⟩ (.int .i64 v)) := by
  have hM : Mods (· = g) w (w.setCell ⟨g, 2, none⟩ (.int .i64 v)) := (Mods.refl (· = g) w).setCell (p := ⟨g, 2, none⟩) (fun _ => rfl) _
  obtain ⟨D1, h1, h2⟩ := h.ent
  obtain ⟨D2, h3, h4⟩ := h.org
  exact ⟨⟨h.blk.set_ 2 _, ⟨D1, map_mods h1 hM h.d1, h2⟩, ⟨D2, map_mods h3 hM h.d2, h4⟩, h.d1, h.d2, h.d12⟩, hM⟩
/-- m.use = u -/
theorem BoxAt.setUse (h : BoxAt w g b1 b2 n m) (u c : Int) : BoxAt ((w.setCell ⟨g, 3, none⟩ (.int .i64 u)).setCell ⟨g, 4, none⟩ (.int .i64 c)) g b1 b2 n { m with ub := u, uc := c } ∧ Mods (· = g) w ((w.setCell ⟨g, 3, none⟩ (.int .i64 u)).setCell ⟨g, 4, none⟩ (.int .i64 c)) := by
  have hM : Mods (· = g) w ((w.setCell ⟨g, 3, none⟩ (.int .i64 u)).setCell ⟨g, 4, none⟩ (.int .i64 c)) := ((Mods.refl (· = g) w).setCell (p := ⟨g, 3, none⟩) (fun _ => rfl) _).setCell (p := ⟨g, 4, none⟩) (fun _ => rfl) _
  obtain ⟨D1, h1, h2⟩ := h.ent
  obtain ⟨D2, h3, h4⟩ := h.org
  exact ⟨⟨(h.blk.set_ 3 _).set_ 4 _, ⟨D1, map_mods h1 hM h.d1, h2⟩, ⟨D2, map_mods h3 hM h.d2, h4⟩, h.d1, h.d2, h.d12⟩, hM⟩
end
end Mbx
end Go.Proofs.Ytohchhgheeolpaa

/- mbox.New, Next, Use, Make, Get, live. -/
import Derived.Test.YtohchhgheeolpaaMboxMem
import Derived.Test.YtohchhgheeolpaaPGen
namespace Go.Proofs.Ytohchhgheeolpaa
open Go.RowKit
namespace Mbx
open Rcd Go.Maps

theorem entM : Mids Try.prog 85 7 := ⟨⟨_, Try.underlying85, rfl⟩, by kernel_rfl⟩
def entA (e : Ent) : Array Value := #[.int .i64 e.uid, .int .i64 e.time, .int .i64 e.flags, .int .i64 e.body, .int .i64 e.size, .int .i64 e.origin, .bool e.gone]
theorem entA_one (e : Ent) : (entA e).all (·.oneCell') = true := by simp [entA, Value.oneCell']
def entZ : Array Value := #[.int .i64 0, .int .i64 0, .int .i64 0, .int .i64 0, .int .i64 0, .int .i64 0, .bool false]
def NewDid (W : World) (e : Ending) (w' : World) : Prop := ∃ g b1 b2, e = .returned (.pointer (some ⟨g, 0, none⟩)) ∧ W.heap.size ≤ g ∧ W.heap.size ≤ b1 ∧ W.heap.size ≤ b2 ∧ BoxAt w' g b1 b2 0 new ∧ Keeps W w'

theorem new_any (w : World) : Calls Try.prog 47 #[] w (NewDid w) := by
  have hmk1 : ∀ w, (Instr.makeMap 183 none).run Try.prog w = .ok (.map (some w.heap.size)) (w.alloc (.map #[] 0)) := fun w => run_makeMap _ w
  have hmk2 : ∀ w, (Instr.makeMap 184 none).run Try.prog w = .ok (.map (some w.heap.size)) (w.alloc (.map #[] 0)) := fun w => run_makeMap _ w
  go_enter Try.func47, Try.ntmps47
  go_wp2_with fail
  go_ret
  have ho1 : ((w.alloc (.map #[] 0)).ownsMap Try.prog 3 entElem w.heap.size 0 (.map [])) := World.ownsMap_made w Try.prog _ _
  have ho2 : (((w.alloc (.map #[] 0)).alloc (.map #[] 0)).ownsMap Try.prog 3 intElem (w.alloc (.map #[] 0)).heap.size 0 (.map [])) := World.ownsMap_made _ Try.prog _ _
  have e1 : (w.alloc (.map #[] 0)).heap.size = w.heap.size + 1 := by show (w.heap.push _).size = _; simp
  have e2 : ((w.alloc (.map #[] 0)).alloc (.map #[] 0)).heap.size = w.heap.size + 1 + 1 := by show ((w.alloc (.map #[] 0)).heap.push _).size = _; simp [e1]
  rw [e1] at ho2
  refine ⟨w.heap.size + 1 + 1, w.heap.size, w.heap.size + 1, by simp [e1, e2], by omega, by omega, by omega, ⟨?_, ?_, ?_, by omega, by omega, by omega⟩, (((Keeps.refl _).alloc _).alloc _).alloc _⟩
  · exact Blk.new _ _ _ e2.symm
  · exact ⟨_, map_keeps ho1 (((Keeps.refl _).alloc _).alloc _), reads_new _⟩
  · exact ⟨_, map_keeps ho2 ((Keeps.refl _).alloc _), reads_new _⟩

theorem next_any (w : World) {g b1 b2 n : Nat} {m : Box} (h : BoxAt w g b1 b2 n m) : Calls Try.prog 50 #[.pointer (some ⟨g, 0, none⟩)] w fun e w' => e = .returned (.int .i64 m.next) ∧ w = w' := by
  obtain ⟨-, -, c2, -, -⟩ := h.cells
  clear h
  go_enter Try.func50, Try.ntmps50
  go_wp2_with fail
  go_ret
  exact ⟨rfl, rfl⟩
theorem use_any (w : World) {g b1 b2 n : Nat} {m : Box} (h : BoxAt w g b1 b2 n m) : Calls Try.prog 51 #[.pointer (some ⟨g, 0, none⟩)] w fun e w' => e = .returned (.agg #[.int .i64 m.ub, .int .i64 m.uc]) ∧ Keeps w w' := by
  obtain ⟨-, -, -, c3, c4⟩ := h.cells
  have hlt := h.blk.lt
  have hlt' : ¬ g = w.heap.size := by omega
  clear h
  go_enter Try.func51, Try.ntmps51
  go_wp2_with fail
  exact bodyPost_ret (v := .agg #[.int .i64 m.ub, .int .i64 m.uc]) (by simp [results, Try.results51, go_sem]) rfl ⟨rfl, (Keeps.refl _).alloc _⟩
end Mbx
end Go.Proofs.Ytohchhgheeolpaa

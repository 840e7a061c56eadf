/- Several texts in one: RecMem, MboxMem, MboxSmall, MboxLive, MboxGone. -/
import Derived.Test.YtohchhgheeolpaaRecPay
import Derived.Test.YtohchhgheeolpaaMid
import Derived.Test.YtohchhgheeolpaaK02
import Derived.Test.YtohchhgheeolpaaK17
import Derived.Test.YtohchhgheeolpaaDrawn
/- Records in memory as whole structs. -/
namespace Go.Proofs.Ytohchhgheeolpaa
open Go.RowKit
namespace Rcd
theorem recM : Mids Try.prog 82 12 := ⟨⟨_, Try.underlying82, rfl⟩, by kernel_rfl⟩
theorem recA_one (r : Rec) (p : Option Addr) (n c : Nat) : (recA r (.slice p n c)).all (·.oneCell') = true := by simp [recA, Value.oneCell']
def zero12 : Array Value := #[.int .i64 0, .int .i64 0, .int .i64 0, .int .i64 0, .int .i64 0, .int .i64 0, .int .i64 0, .int .i64 0, .int .i64 0, .int .i64 0, .int .i64 0, .slice none 0 0]
theorem zero12_one : zero12.all (·.oneCell') = true := by simp [zero12, Value.oneCell']
end Rcd
end Go.Proofs.Ytohchhgheeolpaa

/- A mailbox in memory: its block, its two maps. -/
namespace Go.Proofs.Ytohchhgheeolpaa
open Go.RowKit
namespace Mbx
open Rcd Go.Maps

theorem intKeyed : Keyed Try.prog 3 := int_keyed Try.underlying3
theorem zeroEnt_run (w : World) : (zeroValue 85).run Try.prog w = .ok (entV zeroEnt) w := by kernel_rfl
theorem zeroInt_run (w : World) : (zeroValue 3).run Try.prog w = .ok (.int .i64 0) w := by kernel_rfl

structure BoxAt (w : World) (g b1 b2 n : Nat) (m : Box) : Prop where
  blk : Blk w g 186 #[.map (some b1), .map (some b2), .int .i64 m.next, .int .i64 m.ub, .int .i64 m.uc]
  ent : ∃ D, w.ownsMap Try.prog 3 entElem b1 n D ∧ Reads D m.ent entD
  org : ∃ D, w.ownsMap Try.prog 3 intElem b2 n D ∧ Reads D m.org intD
  d1 : b1 ≠ g
  d2 : b2 ≠ g
  d12 : b1 ≠ b2
/-- the mailbox's blocks -/
def BFr (g b1 b2 : Nat) (x : Nat) : Prop := x = g ∨ x = b1 ∨ x = b2

theorem map_keeps {w w' : World} {R : Value → Option (DataW Unit × List MemPlace)} {b n : Nat} {D : DataW Unit} (h : w.ownsMap Try.prog 3 R b n D) (k : Keeps w w') : w'.ownsMap Try.prog 3 R b n D := by
  obtain ⟨es, clock, hb, r⟩ := h
  exact ⟨es, clock, by rw [k.block (Array.getElem?_eq_some_iff.1 hb).1]; exact hb, r⟩
section
variable {w w' : World} {g b1 b2 n : Nat} {m : Box}
theorem BoxAt.keeps (h : BoxAt w g b1 b2 n m) (k : Keeps w w') : BoxAt w' g b1 b2 n m :=
  ⟨h.blk.keeps k, let ⟨D, h1, h2⟩ := h.ent; ⟨D, map_keeps h1 k, h2⟩, let ⟨D, h1, h2⟩ := h.org; ⟨D, map_keeps h1 k, h2⟩, h.d1, h.d2, h.d12⟩
theorem BoxAt.mono (h : BoxAt w g b1 b2 n m) {n' : Nat} (hn : n ≤ n') : BoxAt w g b1 b2 n' m :=
  ⟨h.blk, let ⟨D, h1, h2⟩ := h.ent; ⟨D, h1.mono hn, h2⟩, let ⟨D, h1, h2⟩ := h.org; ⟨D, h1.mono hn, h2⟩, h.d1, h.d2, h.d12⟩
theorem BoxAt.lt (h : BoxAt w g b1 b2 n m) : ∀ x, BFr g b1 b2 x → x < w.heap.size := by
  rintro x (rfl | rfl | rfl)
  · exact h.blk.lt
  · obtain ⟨D, h1, _⟩ := h.ent; exact h1.lt
  · obtain ⟨D, h1, _⟩ := h.org; exact h1.lt
theorem BoxAt.cells (h : BoxAt w g b1 b2 n m) : w.cell? ⟨g, 0, none⟩ = some (.map (some b1)) ∧ w.cell? ⟨g, 1, none⟩ = some (.map (some b2)) ∧ w.cell? ⟨g, 2, none⟩ = some (.int .i64 m.next) ∧ w.cell? ⟨g, 3, none⟩ = some (.int .i64 m.ub) ∧ w.cell? ⟨g, 4, none⟩ = some (.int .i64 m.uc) := by
  refine ⟨?_, ?_, ?_, ?_, ?_⟩ <;> (rw [h.blk.cell]; rfl)
theorem BoxAt.look (h : BoxAt w g b1 b2 n m) {x : Int} (hx : (Lit.int .i64 x).wf = true) :
    (Instr.lookup 183 (.map (some b1)) (.int .i64 x) true).run Try.prog w = .ok (.tuple #[entV ((m.ent x).getD zeroEnt), .bool (m.ent x).isSome]) w := by
  obtain ⟨D, h1, h2⟩ := h.ent
  obtain ⟨v, ps, hrun, hv⟩ := h1.look_ok intKeyed Try.underlying183 (zeroEnt_run w) (entElem_mk zeroEnt) (keyOf_int_mk Try.underlying3 hx)
  rw [h2.at_] at hv
  rw [hrun, entElem_inv hv, (h2.2 x).1]
theorem BoxAt.lookO (h : BoxAt w g b1 b2 n m) {x : Int} (hx : (Lit.int .i64 x).wf = true) :
    (Instr.lookup 184 (.map (some b2)) (.int .i64 x) true).run Try.prog w = .ok (.tuple #[.int .i64 ((m.org x).getD 0), .bool (m.org x).isSome]) w := by
  obtain ⟨D, h1, h2⟩ := h.org
  obtain ⟨v, ps, hrun, hv⟩ := h1.look_ok intKeyed Try.underlying184 (zeroInt_run w) (zd := intD 0) (zp := []) rfl (keyOf_int_mk Try.underlying3 hx)
  rw [h2.at_] at hv
  rw [hrun, intElem_inv hv, (h2.2 x).1]
theorem turned_mods {b : Nat} (h : w.mapTurned w' b) : Mods (· = b) w w' := (Mods.refl (· = b) w).grown h.grown (fun k hk _ => by cases hk; rfl)
theorem map_mods {R : Value → Option (DataW Unit × List MemPlace)} {b n : Nat} {D : DataW Unit} {S : Nat → Prop} (h : w.ownsMap Try.prog 3 R b n D) (k : Mods S w w') (hn : ¬ S b) : w'.ownsMap Try.prog 3 R b n D := by
  obtain ⟨es, clock, hb, r⟩ := h
  exact ⟨es, clock, k.heap hb hn, r⟩
/-- entries[x] = e -/
theorem BoxAt.put (h : BoxAt w g b1 b2 n m) (hn : n < 1000000) {x : Int} (hx : (Lit.int .i64 x).wf = true) (e : Ent) : ∃ w', (Instr.mapUpdate 183 (.map (some b1)) (.int .i64 x) (entV e)).run Try.prog w = .ok () w' ∧ BoxAt w' g b1 b2 (n + 1) { m with ent := upd m.ent x e } ∧ Mods (· = b1) w w' := by
  obtain ⟨D, h1, h2⟩ := h.ent
  obtain ⟨w', hrun, ho, ht⟩ := h1.store intKeyed Try.underlying183 (by unfold maxLen; omega) (val := entV e) (d := entD e) (ps := []) (keyOf_int_mk Try.underlying3 hx) (entElem_mk e)
  have hM := turned_mods ht
  obtain ⟨D2, h3, h4⟩ := h.org
  exact ⟨w', hrun, ⟨h.blk.mods hM (fun e => h.d1 e.symm), ⟨_, ho, h2.put x e⟩, ⟨D2, (map_mods h3 hM (fun e => h.d12 e.symm)).mono (Nat.le_succ n), h4⟩, h.d1, h.d2, h.d12⟩, hM⟩
theorem BoxAt.putO (h : BoxAt w g b1 b2 n m) (hn : n < 1000000) {x y : Int} (hx : (Lit.int .i64 x).wf = true) : ∃ w', (Instr.mapUpdate 184 (.map (some b2)) (.int .i64 x) (.int .i64 y)).run Try.prog w = .ok () w' ∧ BoxAt w' g b1 b2 (n + 1) { m with org := upd m.org x y } ∧ Mods (· = b2) w w' := by
  obtain ⟨D, h1, h2⟩ := h.org
  obtain ⟨w', hrun, ho, ht⟩ := h1.store intKeyed Try.underlying184 (by unfold maxLen; omega) (val := .int .i64 y) (d := intD y) (ps := []) (keyOf_int_mk Try.underlying3 hx) rfl
  have hM := turned_mods ht
  obtain ⟨D2, h3, h4⟩ := h.ent
  exact ⟨w', hrun, ⟨h.blk.mods hM (fun e => h.d2 e.symm), ⟨D2, (map_mods h3 hM h.d12).mono (Nat.le_succ n), h4⟩, ⟨_, ho, h2.put x y⟩, h.d1, h.d2, h.d12⟩, hM⟩
/-- m.next = v -/
theorem BoxAt.setNext (h : BoxAt w g b1 b2 n m) (v : Int) : BoxAt (w.setCell ⟨g, 2, none⟩ (.int .i64 v)) g b1 b2 n { m with next := v } ∧ Mods (· = g) w (w.setCell ⟨g, 2, none⟩ (.int .i64 v)) := by
  have hM : Mods (· = g) w (w.setCell ⟨g, 2, none⟩ (.int .i64 v)) := (Mods.refl (· = g) w).setCell (p := ⟨g, 2, none⟩) (fun _ => rfl) _
  obtain ⟨D1, h1, h2⟩ := h.ent
  obtain ⟨D2, h3, h4⟩ := h.org
  exact ⟨⟨h.blk.set_ 2 _, ⟨D1, map_mods h1 hM h.d1, h2⟩, ⟨D2, map_mods h3 hM h.d2, h4⟩, h.d1, h.d2, h.d12⟩, hM⟩
/-- m.use = u -/
theorem BoxAt.setUse (h : BoxAt w g b1 b2 n m) (u c : Int) : BoxAt ((w.setCell ⟨g, 3, none⟩ (.int .i64 u)).setCell ⟨g, 4, none⟩ (.int .i64 c)) g b1 b2 n { m with ub := u, uc := c } ∧ Mods (· = g) w ((w.setCell ⟨g, 3, none⟩ (.int .i64 u)).setCell ⟨g, 4, none⟩ (.int .i64 c)) := by
  have hM : Mods (· = g) w ((w.setCell ⟨g, 3, none⟩ (.int .i64 u)).setCell ⟨g, 4, none⟩ (.int .i64 c)) := ((Mods.refl (· = g) w).setCell (p := ⟨g, 3, none⟩) (fun _ => rfl) _).setCell (p := ⟨g, 4, none⟩) (fun _ => rfl) _
  obtain ⟨D1, h1, h2⟩ := h.ent
  obtain ⟨D2, h3, h4⟩ := h.org
  exact ⟨⟨(h.blk.set_ 3 _).set_ 4 _, ⟨D1, map_mods h1 hM h.d1, h2⟩, ⟨D2, map_mods h3 hM h.d2, h4⟩, h.d1, h.d2, h.d12⟩, hM⟩
end
end Mbx
end Go.Proofs.Ytohchhgheeolpaa

/- mbox.New, Next, Use, Make, Get, live. -/
namespace Go.Proofs.Ytohchhgheeolpaa
open Go.RowKit
namespace Mbx
open Rcd Go.Maps

theorem entM : Mids Try.prog 85 7 := ⟨⟨_, Try.underlying85, rfl⟩, by kernel_rfl⟩
def entA (e : Ent) : Array Value := #[.int .i64 e.uid, .int .i64 e.time, .int .i64 e.flags, .int .i64 e.body, .int .i64 e.size, .int .i64 e.origin, .bool e.gone]
theorem entA_one (e : Ent) : (entA e).all (·.oneCell') = true := by simp [entA, Value.oneCell']
def entZ : Array Value := #[.int .i64 0, .int .i64 0, .int .i64 0, .int .i64 0, .int .i64 0, .int .i64 0, .bool false]
def NewDid (W : World) (e : Ending) (w' : World) : Prop := ∃ g b1 b2, e = .returned (.pointer (some ⟨g, 0, none⟩)) ∧ W.heap.size ≤ g ∧ W.heap.size ≤ b1 ∧ W.heap.size ≤ b2 ∧ BoxAt w' g b1 b2 0 new ∧ Keeps W w'

theorem new_any (w : World) : Calls Try.prog 47 #[] w (NewDid w) := by
  have hmk1 : ∀ w, (Instr.makeMap 183 none).run Try.prog w = .ok (.map (some w.heap.size)) (w.alloc (.map #[] 0)) := fun w => run_makeMap _ w
  have hmk2 : ∀ w, (Instr.makeMap 184 none).run Try.prog w = .ok (.map (some w.heap.size)) (w.alloc (.map #[] 0)) := fun w => run_makeMap _ w
  go_enter Try.func47, Try.ntmps47
  go_wp2_with fail
  go_ret
  have ho1 : ((w.alloc (.map #[] 0)).ownsMap Try.prog 3 entElem w.heap.size 0 (.map [])) := World.ownsMap_made w Try.prog _ _
  have ho2 : (((w.alloc (.map #[] 0)).alloc (.map #[] 0)).ownsMap Try.prog 3 intElem (w.alloc (.map #[] 0)).heap.size 0 (.map [])) := World.ownsMap_made _ Try.prog _ _
  have e1 : (w.alloc (.map #[] 0)).heap.size = w.heap.size + 1 := by show (w.heap.push _).size = _; simp
  have e2 : ((w.alloc (.map #[] 0)).alloc (.map #[] 0)).heap.size = w.heap.size + 1 + 1 := by show ((w.alloc (.map #[] 0)).heap.push _).size = _; simp [e1]
  rw [e1] at ho2
  refine ⟨w.heap.size + 1 + 1, w.heap.size, w.heap.size + 1, by simp [e1, e2], by omega, by omega, by omega, ⟨?_, ?_, ?_, by omega, by omega, by omega⟩, (((Keeps.refl _).alloc _).alloc _).alloc _⟩
  · exact Blk.new _ _ _ e2.symm
  · exact ⟨_, map_keeps ho1 (((Keeps.refl _).alloc _).alloc _), reads_new _⟩
  · exact ⟨_, map_keeps ho2 ((Keeps.refl _).alloc _), reads_new _⟩

theorem next_any (w : World) {g b1 b2 n : Nat} {m : Box} (h : BoxAt w g b1 b2 n m) : Calls Try.prog 50 #[.pointer (some ⟨g, 0, none⟩)] w fun e w' => e = .returned (.int .i64 m.next) ∧ w = w' := by
  obtain ⟨-, -, c2, -, -⟩ := h.cells
  clear h
  go_enter Try.func50, Try.ntmps50
  go_wp2_with fail
  go_ret
  exact ⟨rfl, rfl⟩
theorem use_any (w : World) {g b1 b2 n : Nat} {m : Box} (h : BoxAt w g b1 b2 n m) : Calls Try.prog 51 #[.pointer (some ⟨g, 0, none⟩)] w fun e w' => e = .returned (.agg #[.int .i64 m.ub, .int .i64 m.uc]) ∧ Keeps w w' := by
  obtain ⟨-, -, -, c3, c4⟩ := h.cells
  have hlt := h.blk.lt
  have hlt' : ¬ g = w.heap.size := by omega
  clear h
  go_enter Try.func51, Try.ntmps51
  go_wp2_with fail
  exact bodyPost_ret (v := .agg #[.int .i64 m.ub, .int .i64 m.uc]) (by simp [results, Try.results51, go_sem]) rfl ⟨rfl, (Keeps.refl _).alloc _⟩
end Mbx
end Go.Proofs.Ytohchhgheeolpaa

/- mbox.Get, live. -/
namespace Go.Proofs.Ytohchhgheeolpaa
open Go.RowKit
namespace Mbx
open Rcd Go.Maps

set_option maxRecDepth 100000 in
set_option maxHeartbeats 1000000 in
theorem get_any (w : World) {g b1 b2 n : Nat} {m : Box} (h : BoxAt w g b1 b2 n m) (x : Int) (hx : (Lit.int .i64 x).wf = true) : Calls Try.prog 55 #[.pointer (some ⟨g, 0, none⟩), .int .i64 x] w fun e w' => e = .returned (.tuple #[.agg (entA ((m.ent x).getD zeroEnt)), .bool (m.ent x).isSome]) ∧ Keeps w w' := by
  have HB := Lib.hid h
  clear h
  generalize hE : (m.ent x).getD zeroEnt = E
  generalize hi : (m.ent x).isSome = is
  have HEI := Lib.hid (And.intro hE hi)
  clear hE hi
  go_enter Try.func55, Try.ntmps55
  go_upto_region 1 with fail
  generalize hW : World.alloc w _ = w1
  have HK := Lib.hid (show Keeps w w1 from by rw [← hW]; exact (Keeps.refl _).alloc _)
  have HZ := Lib.hid (show Blk w1 w.heap.size 85 entZ from by rw [← hW]; exact Blk.new _ _ _ rfl)
  clear hW
  obtain ⟨R, hR⟩ : ∃ R, R = w.heap.size := ⟨_, rfl⟩
  rw [← hR] at HZ ⊢
  have HR := Lib.hid hR
  clear hR
  have hl := (HB.out.keeps HK.out).look hx
  obtain ⟨c0, -⟩ := (HB.out.keeps HK.out).cells
  rw [HEI.out.1, HEI.out.2] at hl
  unfold entV at hl
  go_upto_region 2 with fail
  generalize hW : World.alloc w1 _ = w2
  have HK2 := Lib.hid (show Keeps w1 w2 from by rw [← hW]; exact (Keeps.refl _).alloc _)
  have HE := Lib.hid (show Blk w2 w1.heap.size 85 (entA E) from by rw [← hW]; exact Blk.new _ _ _ rfl)
  have HZ := Lib.hid (HZ.out.keeps HK2.out)
  clear hW hl c0
  go_wp2_with (first
    | refine wpList_ld rfl entM HE.out _ rfl rfl ?_
    | refine wpList_st (ds := entA E) rfl entM HZ.out rfl (entA_one _) _ _ rfl rfl rfl rfl ?_; intro w6 hB6 hM6)
  have HLd := Lib.hid (ld_run (P := Try.prog) entM hB6)
  have HX := Lib.hid (hM6.keeps (HK.out.trans HK2.out) (fun y hy => by have := HR.out; omega))
  clear hB6 hM6
  exact bodyPost_ret (v := .tuple #[.agg (entA E), .bool is]) (by simp [results, Try.results55, Sem.run_bind, Sem.run_pure, Result.andThen_ok, Act.put, asAddr, HLd.out]) rfl ⟨rfl, HX.out⟩

def liveB (m : Box) (x : Int) : Bool := (m.ent x).isSome && !((m.ent x).getD zeroEnt).gone
set_option maxRecDepth 100000 in
set_option maxHeartbeats 2000000 in
theorem live_any (w : World) {g b1 b2 n : Nat} {m : Box} (h : BoxAt w g b1 b2 n m) (x : Int) (hx : (Lit.int .i64 x).wf = true) : Calls Try.prog 188 #[.pointer (some ⟨g, 0, none⟩), .int .i64 x] w fun e w' => e = .returned (.tuple #[.agg (entA ((m.ent x).getD zeroEnt)), .bool (liveB m x)]) ∧ Keeps w w' := by
  have HB := Lib.hid h
  clear h
  unfold liveB
  generalize hE : (m.ent x).getD zeroEnt = E
  generalize hi : (m.ent x).isSome = is
  have HEI := Lib.hid (And.intro hE hi)
  clear hE hi
  go_enter Try.func188, Try.ntmps188
  go_upto_region 1 with fail
  generalize hW : World.alloc w _ = w1
  have HK := Lib.hid (show Keeps w w1 from by rw [← hW]; exact (Keeps.refl _).alloc _)
  have HZ := Lib.hid (show Blk w1 w.heap.size 85 entZ from by rw [← hW]; exact Blk.new _ _ _ rfl)
  clear hW
  obtain ⟨R, hR⟩ : ∃ R, R = w.heap.size := ⟨_, rfl⟩
  rw [← hR] at HZ ⊢
  have HR := Lib.hid hR
  clear hR
  have hl := (HB.out.keeps HK.out).look hx
  obtain ⟨c0, -⟩ := (HB.out.keeps HK.out).cells
  rw [HEI.out.1, HEI.out.2] at hl
  unfold entV at hl
  go_upto_region 2 with fail
  generalize hW : World.alloc w1 _ = w2
  have HK2 := Lib.hid (show Keeps w1 w2 from by rw [← hW]; exact (Keeps.refl _).alloc _)
  have HE := Lib.hid (show Blk w2 w1.heap.size 85 (entA E) from by rw [← hW]; exact Blk.new _ _ _ rfl)
  have HRl := Lib.hid HZ.out.lt
  have HZ := Lib.hid ((HZ.out.keeps HK2.out).drew)
  have hne : ¬ w1.heap.size = R := by have := HRl.out; omega
  have hKR : w.heap.size ≤ R := by rw [HR.out]; exact Nat.le_refl _
  have hg : w2.cell? ⟨w1.heap.size, 6, none⟩ = some (.bool E.gone) := by rw [HE.out.cell]; rfl
  clear hW hl c0
  generalize w1.heap.size = b at *
  have HKK := Lib.hid (HK.out.trans HK2.out)
  cases is with
  | false =>
    refine wp_region_noPanic ?_
    refine wp_region_held_drew (S := fun w' => Mods (· = R) w2 w') (by kernel_rfl) ((Mods.refl (· = R) w2).drew) (fun _ => ?_)
    have hHeld : Mods (· = R) w2 (w2).drew := (Mods.refl (· = R) w2).drew
    generalize World.drew w2 = xs at *
    refine wpAnyH_take (i := 0) (by rfl) (by kernel_rfl) (by kernel_rfl) (by kernel_rfl) (by intro _ _ _ h; exact h) (yieldsIf_ld (by kernel_rfl) entM (fun w' hS => HE.out.mods hS hne) _ rfl rfl) (by assumption) ?rest1
    change wpAnyH _ _ _ _ _ _ _ (Act.put _ (some 17) _) _
    try simp only [Act.put, List.setIfInBounds_toArray, List.set_cons_zero, List.set_cons_succ]
    refine wpAnyH_take (i := 1) (v := ?vv2) (by rfl) (by kernel_rfl) (by kernel_rfl) (by kernel_rfl) (by intro _ _ _ h; exact h) (Or.inl ⟨by kernel_rfl, ?hy2⟩) (by assumption) ?rest2
    case hy2 =>
      intro w' hSw
      have hSw : Mods (· = R) w2 w' := hSw
      clear hSw
      go_simp
      try with_reducible rfl
    change wpAnyH _ _ _ _ _ _ _ (Act.put _ (some 18) _) _
    try simp only [Act.put, List.setIfInBounds_toArray, List.set_cons_zero, List.set_cons_succ]
    refine wpAnyH_take (i := 2) (v := ?vv3) (by rfl) (by kernel_rfl) (by kernel_rfl) (by kernel_rfl) (by intro _ _ _ h; exact h) (Or.inl ⟨by kernel_rfl, ?hy3⟩) (by assumption) ?rest3
    case hy3 =>
      intro w' hSw
      have hSw : Mods (· = R) w2 w' := hSw
      clear hSw
      go_simp
      try with_reducible rfl
    change wpAnyH _ _ _ _ _ _ _ (Act.put _ (some 19) _) _
    try simp only [Act.put, List.setIfInBounds_toArray, List.set_cons_zero, List.set_cons_succ]
    refine wpAnyH_take (i := 3) (by rfl) (by kernel_rfl) (by kernel_rfl) (by kernel_rfl) (by intro _ _ _ h; exact h) (Or.inr ⟨by kernel_rfl, rfl⟩) (by assumption) ?rest4
    change wpAnyH _ _ _ _ _ _ _ (Act.put _ (some 20) _) _
    try simp only [Act.put, List.setIfInBounds_toArray, List.set_cons_zero, List.set_cons_succ]
    refine wpAnyH_take (i := 4) (by rfl) (by kernel_rfl) (by kernel_rfl) (by kernel_rfl) (by intro _ _ _ h; exact h) (Or.inr ⟨by kernel_rfl, rfl⟩) (by assumption) ?rest5
    change wpAnyH _ _ _ _ _ _ _ (Act.put _ (some 21) _) _
    try simp only [Act.put, List.setIfInBounds_toArray, List.set_cons_zero, List.set_cons_succ]
    refine wpAnyH_take (i := 5) (by rfl) (by kernel_rfl) (by kernel_rfl) (by kernel_rfl) (by intro _ _ _ h; exact h) (Or.inr ⟨by kernel_rfl, rfl⟩) (by assumption) ?rest6
    change wpAnyH _ _ _ _ _ _ _ (Act.put _ (some 22) _) _
    try simp only [Act.put, List.setIfInBounds_toArray, List.set_cons_zero, List.set_cons_succ]
    refine wpAnyH_take (i := 6) (v := ?vv7) (by rfl) (by kernel_rfl) (by kernel_rfl) (by kernel_rfl) (by intro _ _ _ h; exact h) (Or.inl ⟨by kernel_rfl, ?hy7⟩) (by assumption) ?rest7
    case hy7 =>
      intro w' hSw
      have hSw : Mods (· = R) w2 w' := hSw
      clear hSw
      go_simp
      try with_reducible rfl
    change wpAnyH _ _ _ _ _ _ _ (Act.put _ (some 23) _) _
    try simp only [Act.put, List.setIfInBounds_toArray, List.set_cons_zero, List.set_cons_succ]
    refine wpAnyH_ready (rs := [7]) (by kernel_rfl) (by simp) ?_
    refine AllReadyH.cons (o := _) rfl (fun K hK => ?_) ?_
    · refine step_st (ds := entA E) rfl entM HZ.out rfl (entA_one _) _ _ rfl rfl rfl rfl ?_
      intro yF hBF hMF
      have hb := hHeld.trans hMF (fun x h _ => h)
      have HLd := Lib.hid (ld_run (P := Try.prog) entM hBF)
      clear hBF hMF
      refine hK.out _ _ hb (fun _ => ?_)
      clear hK K hHeld
      have hHeld : Mods (· = R) w2 yF := hb
      clear hb
      try simp only [Act.put, List.setIfInBounds_toArray, List.set_cons_zero, List.set_cons_succ]
      refine wpAnyH_take (i := 8) (v := ?vv8) (by rfl) (by kernel_rfl) (by kernel_rfl) (by kernel_rfl) (by intro _ _ _ h; exact h) (Or.inl ⟨by kernel_rfl, ?hy8⟩) (by assumption) ?rest8
      case hy8 =>
        intro w' hSw
        have hSw : Mods (· = R) w2 w' := hSw
        clear hSw
        go_simp
        try with_reducible rfl
      change wpAnyH _ _ _ _ _ _ _ (Act.put _ (some 5) _) _
      try simp only [Act.put, List.setIfInBounds_toArray, List.set_cons_zero, List.set_cons_succ]
      refine wpAnyH_done (by kernel_rfl) ?_ _
      refine NoPanic.normal ?_
      go_wp2_with fail
      exact bodyPost_ret (v := .tuple #[.agg (entA E), .bool false]) (by simp [results, Try.results188, Sem.run_bind, Sem.run_pure, Result.andThen_ok, Act.put, asAddr, HLd.out]) rfl ⟨rfl, hHeld.keeps HKK.out (fun x hx => by omega)⟩
    exact AllReadyH.nil
  | true =>
    refine wp_region_noPanic ?_
    refine wp_region_held_drew (S := fun w' => Mods (· = R) w2 w') (by kernel_rfl) ((Mods.refl (· = R) w2).drew) (fun _ => ?_)
    have hHeld : Mods (· = R) w2 (w2).drew := (Mods.refl (· = R) w2).drew
    generalize World.drew w2 = xs at *
    refine wpAnyH_take (i := 0) (by rfl) (by kernel_rfl) (by kernel_rfl) (by kernel_rfl) (by intro _ _ _ h; exact h) (yieldsIf_ld (by kernel_rfl) entM (fun w' hS => HE.out.mods hS hne) _ rfl rfl) (by assumption) ?rest9
    change wpAnyH _ _ _ _ _ _ _ (Act.put _ (some 17) _) _
    try simp only [Act.put, List.setIfInBounds_toArray, List.set_cons_zero, List.set_cons_succ]
    refine wpAnyH_take (i := 1) (v := ?vv10) (by rfl) (by kernel_rfl) (by kernel_rfl) (by kernel_rfl) (by intro _ _ _ h; exact h) (Or.inl ⟨by kernel_rfl, ?hy10⟩) (by assumption) ?rest10
    case hy10 =>
      intro w' hSw
      have hSw : Mods (· = R) w2 w' := hSw
      clear hSw
      go_simp
      try with_reducible rfl
    change wpAnyH _ _ _ _ _ _ _ (Act.put _ (some 18) _) _
    try simp only [Act.put, List.setIfInBounds_toArray, List.set_cons_zero, List.set_cons_succ]
    refine wpAnyH_take (i := 2) (v := ?vv11) (by rfl) (by kernel_rfl) (by kernel_rfl) (by kernel_rfl) (by intro _ _ _ h; exact h) (Or.inl ⟨by kernel_rfl, ?hy11⟩) (by assumption) ?rest11
    case hy11 =>
      intro w' hSw
      have hSw : Mods (· = R) w2 w' := hSw
      clear hSw
      go_simp
      try with_reducible rfl
    change wpAnyH _ _ _ _ _ _ _ (Act.put _ (some 19) _) _
    try simp only [Act.put, List.setIfInBounds_toArray, List.set_cons_zero, List.set_cons_succ]
    refine wpAnyH_take (i := 3) (v := ?vv12) (by rfl) (by kernel_rfl) (by kernel_rfl) (by kernel_rfl) (by intro _ _ _ h; exact h) (Or.inl ⟨by kernel_rfl, ?hy12⟩) (by assumption) ?rest12
    case hy12 =>
      intro w' hSw
      have hSw : Mods (· = R) w2 w' := hSw
      clear hSw
      go_simp
      try with_reducible rfl
    change wpAnyH _ _ _ _ _ _ _ (Act.put _ (some 20) _) _
    try simp only [Act.put, List.setIfInBounds_toArray, List.set_cons_zero, List.set_cons_succ]
    refine wpAnyH_take (i := 4) (v := ?vv13) (by rfl) (by kernel_rfl) (by kernel_rfl) (by kernel_rfl) (by intro _ _ _ h; exact h) (Or.inl ⟨by kernel_rfl, ?hy13⟩) (by assumption) ?rest13
    case hy13 =>
      intro w' hSw
      have hSw : Mods (· = R) w2 w' := hSw
      have h0 := hSw.cell hg hne
      clear hSw
      go_simp
      try with_reducible rfl
    change wpAnyH _ _ _ _ _ _ _ (Act.put _ (some 21) _) _
    try simp only [Act.put, List.setIfInBounds_toArray, List.set_cons_zero, List.set_cons_succ]
    refine wpAnyH_take (i := 5) (v := ?vv14) (by rfl) (by kernel_rfl) (by kernel_rfl) (by kernel_rfl) (by intro _ _ _ h; exact h) (Or.inl ⟨by kernel_rfl, ?hy14⟩) (by assumption) ?rest14
    case hy14 =>
      intro w' hSw
      have hSw : Mods (· = R) w2 w' := hSw
      clear hSw
      go_simp
      try with_reducible rfl
    change wpAnyH _ _ _ _ _ _ _ (Act.put _ (some 22) _) _
    try simp only [Act.put, List.setIfInBounds_toArray, List.set_cons_zero, List.set_cons_succ]
    refine wpAnyH_take (i := 6) (v := ?vv15) (by rfl) (by kernel_rfl) (by kernel_rfl) (by kernel_rfl) (by intro _ _ _ h; exact h) (Or.inl ⟨by kernel_rfl, ?hy15⟩) (by assumption) ?rest15
    case hy15 =>
      intro w' hSw
      have hSw : Mods (· = R) w2 w' := hSw
      clear hSw
      go_simp
      try with_reducible rfl
    change wpAnyH _ _ _ _ _ _ _ (Act.put _ (some 23) _) _
    try simp only [Act.put, List.setIfInBounds_toArray, List.set_cons_zero, List.set_cons_succ]
    refine wpAnyH_ready (rs := [7]) (by kernel_rfl) (by simp) ?_
    refine AllReadyH.cons (o := _) rfl (fun K hK => ?_) ?_
    · refine step_st (ds := entA E) rfl entM HZ.out rfl (entA_one _) _ _ rfl rfl rfl rfl ?_
      intro yF hBF hMF
      have hb := hHeld.trans hMF (fun x h _ => h)
      have HLd := Lib.hid (ld_run (P := Try.prog) entM hBF)
      clear hBF hMF
      refine hK.out _ _ hb (fun _ => ?_)
      clear hK K hHeld
      have hHeld : Mods (· = R) w2 yF := hb
      clear hb
      try simp only [Act.put, List.setIfInBounds_toArray, List.set_cons_zero, List.set_cons_succ]
      refine wpAnyH_take (i := 8) (v := ?vv16) (by rfl) (by kernel_rfl) (by kernel_rfl) (by kernel_rfl) (by intro _ _ _ h; exact h) (Or.inl ⟨by kernel_rfl, ?hy16⟩) (by assumption) ?rest16
      case hy16 =>
        intro w' hSw
        have hSw : Mods (· = R) w2 w' := hSw
        clear hSw
        go_simp
        try with_reducible rfl
      change wpAnyH _ _ _ _ _ _ _ (Act.put _ (some 5) _) _
      try simp only [Act.put, List.setIfInBounds_toArray, List.set_cons_zero, List.set_cons_succ]
      refine wpAnyH_done (by kernel_rfl) ?_ _
      refine NoPanic.normal ?_
      go_wp2_with fail
      exact bodyPost_ret (v := .tuple #[.agg (entA E), .bool (true && !E.gone)]) (by simp [results, Try.results188, Sem.run_bind, Sem.run_pure, Result.andThen_ok, Act.put, asAddr, HLd.out]) rfl ⟨rfl, hHeld.keeps HKK.out (fun x hx => by omega)⟩
    exact AllReadyH.nil
end Mbx
end Go.Proofs.Ytohchhgheeolpaa

/- mbox.gone, flag. -/
namespace Go.Proofs.Ytohchhgheeolpaa
open Go.RowKit
namespace Mbx
open Rcd Go.Maps

/-- what a call makes of the mailbox, and its answer -/
def BoxDid (W : World) (g b1 b2 n : Nat) (r : Box × Bool) (e : Ending) (w' : World) : Prop := e = .returned (.bool r.2) ∧ BoxAt w' g b1 b2 n r.1 ∧ Mods (BFr g b1 b2) W w'
theorem live_some {m : Box} {x : Int} (h : liveB m x = true) : live m x = some ((m.ent x).getD zeroEnt) := by
  unfold liveB at h
  unfold live
  cases e : m.ent x with
  | none => rw [e] at h; simp at h
  | some v =>
    rw [e] at h
    simp at h
    simp [h]
theorem live_none {m : Box} {x : Int} (h : liveB m x = false) : live m x = none := by
  unfold liveB at h
  unfold live
  cases e : m.ent x with
  | none => rfl
  | some v =>
    rw [e] at h
    simp at h
    simp [h]

set_option maxRecDepth 100000 in
set_option maxHeartbeats 2000000 in
theorem flag_any (w : World) {g b1 b2 n : Nat} {m : Box} (h : BoxAt w g b1 b2 n m) (hn : n < 1000000) (x f : Int) (hx : (Lit.int .i64 x).wf = true) : Calls Try.prog 136 #[.pointer (some ⟨g, 0, none⟩), .int .i64 x, .int .i64 f] w (BoxDid w g b1 b2 (n + 1) (flag m x f)) := by
  have HB := Lib.hid h
  have HL := Lib.hid (live_any w h x hx)
  clear h
  by_cases hl : liveB m x = true
  case neg =>
    have hl' : liveB m x = false := by simpa using hl
    have HX : Hid (flag m x f = (m, false)) := Lib.hid (by unfold flag; rw [live_none hl'])
    rw [hl'] at HL
    clear hl hl'
    go_enter Try.func136, Try.ntmps136
    go_wp2_with fail
    refine HL.out.mono ?_
    rintro e w1 ⟨rfl, hk1⟩
    unfold entA
    go_wp2_with fail
    go_ret
    exact ⟨(congrArg (fun r : Box × Bool => Ending.returned (Value.bool r.2)) HX.out).symm, by rw [HX.out]; exact (HB.out.keeps (hk1.alloc _)).mono (Nat.le_succ n), Mods.of_keeps (hk1.alloc _)⟩
  have HX : Hid (flag m x f = (flagM m x ((m.ent x).getD zeroEnt) f, true)) := Lib.hid (by unfold flag; rw [live_some hl])
  rw [hl] at HL
  clear hl
  generalize (m.ent x).getD zeroEnt = E at *
  go_enter Try.func136, Try.ntmps136
  go_wp2_with fail
  refine HL.out.mono ?_
  rintro e w1 ⟨rfl, hk1⟩
  unfold entA
  go_upto_region 4 with fail
  generalize hW : World.alloc w1 _ = w2
  have HK2 := Lib.hid (show Keeps w w2 from by rw [← hW]; exact hk1.alloc _)
  have HE := Lib.hid (show Blk w2 w1.heap.size 85 (entA E) from by rw [← hW]; exact Blk.new _ _ _ rfl)
  have hlt : ∀ y, BFr g b1 b2 y → y < w1.heap.size := fun y hy => Nat.lt_of_lt_of_le (HB.out.lt y hy) hk1.size
  have HBX := Lib.hid (HB.out.keeps HK2.out)
  have hneb : ¬ w1.heap.size = b1 := by have := hlt b1 (.inr (.inl rfl)); omega
  have hge : w.heap.size ≤ w1.heap.size := hk1.size
  clear hW hlt hk1 HL
  generalize w1.heap.size = b at *
  have hx2 : w2.cell? ⟨b, 2, none⟩ = some (.int .i64 E.flags) := by rw [HE.out.cell]; rfl
  have hz2 : w2.frozen? ⟨b, 2, none⟩ = false := HE.out.frozen _
  go_upto_region 5 with fail
  generalize hW : World.setCell w2 _ _ = w3
  have HK3 := Lib.hid (show Keeps w w3 from by rw [← hW]; exact HK2.out.setCell (p := ⟨b, 2, none⟩) hge _)
  have HE3 := Lib.hid (show Blk w3 b 85 (entA { E with flags := f }) from by rw [← hW]; exact HE.out.set_ 2 _)
  have hM23 : Mods (· = b) w2 w3 := by rw [← hW]; exact (Mods.refl (· = b) w2).setCell (p := ⟨b, 2, none⟩) (fun _ => rfl) _
  have hbg : g ≠ b := fun e => by have h1 := HBX.out.blk; have h2 := HE.out; rw [← e] at h2; unfold Blk at h1 h2; rw [h1] at h2; simp at h2
  have hb2' : b2 ≠ b := fun e => by
    obtain ⟨D, ⟨es, ck, hh, _⟩, _⟩ := HBX.out.org
    have h2 := HE.out; rw [← e] at h2; unfold Blk at h2; rw [hh] at h2; simp at h2
  have HB3 : Hid (BoxAt w3 g b1 b2 n m) := Lib.hid ⟨HBX.out.blk.mods hM23 hbg, let ⟨D, h1, h2⟩ := HBX.out.ent; ⟨D, map_mods h1 hM23 (fun e => hneb e.symm), h2⟩, let ⟨D, h1, h2⟩ := HBX.out.org; ⟨D, map_mods h1 hM23 hb2', h2⟩, HBX.out.d1, HBX.out.d2, HBX.out.d12⟩
  obtain ⟨c0, -⟩ := HB3.out.cells
  have HBd := Lib.hid (HB3.out.keeps (Keeps.refl w3).drew)
  have hgb : ¬ g = b1 := fun e => HB3.out.d1 e.symm
  clear hW hM23 hx2 hz2 HB3 HBX HE
  refine wp_region_noPanic ?_
  refine wp_region_held_drew (S := fun w' => Mods (· = b1) w3 w') (by kernel_rfl) ((Mods.refl (· = b1) w3).drew) (fun _ => ?_)
  have hHeld : Mods (· = b1) w3 (w3).drew := (Mods.refl (· = b1) w3).drew
  generalize World.drew w3 = xs at *
  refine wpAnyH_take (i := 0) (v := ?vv1) (by rfl) (by kernel_rfl) (by kernel_rfl) (by kernel_rfl) (by intro _ _ _ h; exact h) (Or.inl ⟨by kernel_rfl, ?hy1⟩) (by assumption) ?rest1
  case hy1 =>
    intro w' hSw
    have hSw : Mods (· = b1) w3 w' := hSw
    clear hSw
    go_simp
    try with_reducible rfl
  change wpAnyH _ _ _ _ _ _ _ (Act.put _ (some 19) _) _
  try simp only [Act.put, List.setIfInBounds_toArray, List.set_cons_zero, List.set_cons_succ]
  refine wpAnyH_take (i := 1) (v := ?vv2) (by rfl) (by kernel_rfl) (by kernel_rfl) (by kernel_rfl) (by intro _ _ _ h; exact h) (Or.inl ⟨by kernel_rfl, ?hy2⟩) (by assumption) ?rest2
  case hy2 =>
    intro w' hSw
    have hSw : Mods (· = b1) w3 w' := hSw
    clear hSw
    go_simp
    try with_reducible rfl
  change wpAnyH _ _ _ _ _ _ _ (Act.put _ (some 20) _) _
  try simp only [Act.put, List.setIfInBounds_toArray, List.set_cons_zero, List.set_cons_succ]
  refine wpAnyH_take (i := 2) (v := ?vv3) (by rfl) (by kernel_rfl) (by kernel_rfl) (by kernel_rfl) (by intro _ _ _ h; exact h) (Or.inl ⟨by kernel_rfl, ?hy3⟩) (by assumption) ?rest3
  case hy3 =>
    intro w' hSw
    have hSw : Mods (· = b1) w3 w' := hSw
    clear hSw
    go_simp
    try with_reducible rfl
  change wpAnyH _ _ _ _ _ _ _ (Act.put _ (some 21) _) _
  try simp only [Act.put, List.setIfInBounds_toArray, List.set_cons_zero, List.set_cons_succ]
  refine wpAnyH_take (i := 3) (v := ?vv4) (by rfl) (by kernel_rfl) (by kernel_rfl) (by kernel_rfl) (by intro _ _ _ h; exact h) (Or.inl ⟨by kernel_rfl, ?hy4⟩) (by assumption) ?rest4
  case hy4 =>
    intro w' hSw
    have hSw : Mods (· = b1) w3 w' := hSw
    have h0 := hSw.cell c0 hgb
    clear hSw
    go_simp
    try with_reducible rfl
  change wpAnyH _ _ _ _ _ _ _ (Act.put _ (some 22) _) _
  try simp only [Act.put, List.setIfInBounds_toArray, List.set_cons_zero, List.set_cons_succ]
  refine wpAnyH_take (i := 4) (v := ?vv5) (by rfl) (by kernel_rfl) (by kernel_rfl) (by kernel_rfl) (by intro _ _ _ h; exact h) (Or.inl ⟨by kernel_rfl, ?hy5⟩) (by assumption) ?rest5
  case hy5 =>
    intro w' hSw
    have hSw : Mods (· = b1) w3 w' := hSw
    clear hSw
    go_simp
    try with_reducible rfl
  change wpAnyH _ _ _ _ _ _ _ (Act.put _ (some 23) _) _
  try simp only [Act.put, List.setIfInBounds_toArray, List.set_cons_zero, List.set_cons_succ]
  refine wpAnyH_take (i := 5) (by rfl) (by kernel_rfl) (by kernel_rfl) (by kernel_rfl) (by intro _ _ _ h; exact h) (yieldsIf_ld (by kernel_rfl) entM (fun w' hS => HE3.out.mods hS hneb) _ rfl rfl) (by assumption) ?rest6
  change wpAnyH _ _ _ _ _ _ _ (Act.put _ (some 24) _) _
  try simp only [Act.put, List.setIfInBounds_toArray, List.set_cons_zero, List.set_cons_succ]
  refine wpAnyH_ready (rs := [6]) (by kernel_rfl) (by simp) ?_
  refine AllReadyH.cons (o := _) rfl (fun K hK => ?_) ?_
  · obtain ⟨yF, hrun, hbox, hM⟩ := HBd.out.put hn hx { E with flags := f }
    have hrun : (Instr.mapUpdate 183 (.map (some b1)) (.int .i64 x) (.agg (entA { E with flags := f }))).run Try.prog xs = .ok () yF := hrun
    go_simp
    have hb := hHeld.trans hM (fun x h _ => h)
    have HBd := Lib.hid hbox
    clear hrun hbox hM
    refine hK.out _ _ hb (fun _ => ?_)
    clear hK K hHeld
    have hHeld : Mods (· = b1) w3 yF := hb
    clear hb
    try simp only [Act.put, List.setIfInBounds_toArray, List.set_cons_zero, List.set_cons_succ]
    refine wpAnyH_done (by kernel_rfl) ?_ _
    refine NoPanic.normal ?_
    go_wp2_with fail
    go_ret
    exact ⟨(congrArg (fun r : Box × Bool => Ending.returned (Value.bool r.2)) HX.out).symm, by rw [HX.out]; exact HBd.out, (Mods.of_keeps (S := BFr g b1 b2) HK3.out).trans hHeld (fun y hy _ => .inr (.inl hy))⟩
  exact AllReadyH.nil

theorem takeB_eq (u c s : Int) : Quota.takeB u c s = takeB u c s := by
  unfold Quota.takeB takeB Quota.sumB sumB
  simp [Bool.decide_and]
theorem putB_eq (u c s : Int) : Quota.putB u c s = putB u c s := by
  unfold Quota.putB putB Quota.addB addB Quota.sumB sumB
  rw [Bool.eq_iff_iff]
  simp
  omega
theorem boxMods {w w' : World} {g b1 b2 n b : Nat} {m : Box} (h : BoxAt w g b1 b2 n m) (k : Mods (· = b) w w') (h0 : g ≠ b) (h1 : b1 ≠ b) (h2 : b2 ≠ b) : BoxAt w' g b1 b2 n m :=
  ⟨h.blk.mods k h0, let ⟨D, a, c⟩ := h.ent; ⟨D, map_mods a k h1, c⟩, let ⟨D, a, c⟩ := h.org; ⟨D, map_mods a k h2, c⟩, h.d1, h.d2, h.d12⟩

set_option maxRecDepth 100000 in
set_option maxHeartbeats 2000000 in
theorem gone_any (w : World) {g b1 b2 n : Nat} {m : Box} (h : BoxAt w g b1 b2 n m) (hn : n < 1000000) (x : Int) (hx : (Lit.int .i64 x).wf = true) : Calls Try.prog 135 #[.pointer (some ⟨g, 0, none⟩), .int .i64 x] w (BoxDid w g b1 b2 (n + 1) (gone m x)) := by
  have HB := Lib.hid h
  have HL := Lib.hid (live_any w h x hx)
  clear h
  by_cases hl : liveB m x = true
  case neg =>
    have hl' : liveB m x = false := by simpa using hl
    have HX : Hid (gone m x = (m, false)) := Lib.hid (by unfold gone; rw [live_none hl'])
    rw [hl'] at HL
    clear hl hl'
    go_enter Try.func135, Try.ntmps135
    go_wp2_with fail
    refine HL.out.mono ?_
    rintro e w1 ⟨rfl, hk1⟩
    unfold entA
    go_wp2_with fail
    go_ret
    exact ⟨(congrArg (fun r : Box × Bool => Ending.returned (Value.bool r.2)) HX.out).symm, by rw [HX.out]; exact (HB.out.keeps (hk1.alloc _)).mono (Nat.le_succ n), Mods.of_keeps (hk1.alloc _)⟩
  have HX : Hid (gone m x = (goneM m x ((m.ent x).getD zeroEnt), true)) := Lib.hid (by unfold gone; rw [live_some hl])
  rw [hl] at HL
  clear hl
  generalize (m.ent x).getD zeroEnt = E at *
  go_enter Try.func135, Try.ntmps135
  go_wp2_with fail
  refine HL.out.mono ?_
  rintro e w1 ⟨rfl, hk1⟩
  unfold entA
  go_upto_region 4 with fail
  generalize hW : World.alloc w1 _ = w2
  have HK2 := Lib.hid (show Keeps w w2 from by rw [← hW]; exact hk1.alloc _)
  have HE := Lib.hid (show Blk w2 w1.heap.size 85 (entA E) from by rw [← hW]; exact Blk.new _ _ _ rfl)
  have hlt : ∀ y, BFr g b1 b2 y → y < w1.heap.size := fun y hy => Nat.lt_of_lt_of_le (HB.out.lt y hy) hk1.size
  have HBX := Lib.hid (HB.out.keeps HK2.out)
  have hn1 : ¬ w1.heap.size = b1 := by have := hlt b1 (.inr (.inl rfl)); omega
  have hn2 : ¬ w1.heap.size = b2 := by have := hlt b2 (.inr (.inr rfl)); omega
  have hn0 : ¬ w1.heap.size = g := by have := hlt g (.inl rfl); omega
  have hge : w.heap.size ≤ w1.heap.size := hk1.size
  clear hW hlt hk1 HL
  generalize w1.heap.size = b at *
  have hx4 : w2.cell? ⟨b, 4, none⟩ = some (.int .i64 E.size) := by rw [HE.out.cell]; rfl
  have HBd := Lib.hid (HBX.out.keeps (Keeps.refl w2).drew)
  have HQ := Lib.hid (fun w => Quota.take_any m.ub m.uc E.size w)
  have HTV : Hid (Quota.takeV m.ub m.uc E.size = (if takeB m.ub m.uc E.size then m.ub - E.size else 0) ∧ Quota.takeC m.ub m.uc E.size = (if takeB m.ub m.uc E.size then m.uc - 1 else 0)) := Lib.hid ⟨by unfold Quota.takeV; rw [takeB_eq], by unfold Quota.takeC; rw [takeB_eq]⟩
  generalize Quota.takeV m.ub m.uc E.size = tv at *
  generalize Quota.takeC m.ub m.uc E.size = tc at *
  generalize Quota.takeB m.ub m.uc E.size = tb at *
  have HEd := Lib.hid (HE.out.drew)
  clear HBX
  go_cut [15] (fun _ wx => Hid (BoxAt wx g b1 b2 n { m with ub := tv, uc := tc } ∧ Blk wx b 85 (entA E) ∧ Mods (· = g) w2 wx))
  case first =>
    refine wp_region_noPanic ?_
    refine wp_region_held_drew (S := fun w' => Mods (· = g) w2 w') (by kernel_rfl) ((Mods.refl (· = g) w2).drew) (fun _ => ?_)
    have hHeld : Mods (· = g) w2 (w2).drew := (Mods.refl (· = g) w2).drew
    generalize World.drew w2 = xs at *
    refine wpAnyH_take (i := 0) (v := ?vv7) (by rfl) (by kernel_rfl) (by kernel_rfl) (by kernel_rfl) (by intro _ _ _ h; exact h) (Or.inl ⟨by kernel_rfl, ?hy7⟩) (by assumption) ?rest7
    case hy7 =>
      intro w' hSw
      have hSw : Mods (· = g) w2 w' := hSw
      clear hSw
      go_simp
      try with_reducible rfl
    change wpAnyH _ _ _ _ _ _ _ (Act.put _ (some 16) _) _
    try simp only [Act.put, List.setIfInBounds_toArray, List.set_cons_zero, List.set_cons_succ]
    refine wpAnyH_take (i := 1) (v := ?vv8) (by rfl) (by kernel_rfl) (by kernel_rfl) (by kernel_rfl) (by intro _ _ _ h; exact h) (Or.inl ⟨by kernel_rfl, ?hy8⟩) (by assumption) ?rest8
    case hy8 =>
      intro w' hSw
      have hSw : Mods (· = g) w2 w' := hSw
      clear hSw
      go_simp
      try with_reducible rfl
    change wpAnyH _ _ _ _ _ _ _ (Act.put _ (some 17) _) _
    try simp only [Act.put, List.setIfInBounds_toArray, List.set_cons_zero, List.set_cons_succ]
    refine wpAnyH_take (i := 2) (v := ?vv9) (by rfl) (by kernel_rfl) (by kernel_rfl) (by kernel_rfl) (by intro _ _ _ h; exact h) (Or.inl ⟨by kernel_rfl, ?hy9⟩) (by assumption) ?rest9
    case hy9 =>
      intro w' hSw
      have hSw : Mods (· = g) w2 w' := hSw
      clear hSw
      go_simp
      try with_reducible rfl
    change wpAnyH _ _ _ _ _ _ _ (Act.put _ (some 18) _) _
    try simp only [Act.put, List.setIfInBounds_toArray, List.set_cons_zero, List.set_cons_succ]
    refine wpAnyH_take (i := 3) (v := ?vv10) (by rfl) (by kernel_rfl) (by kernel_rfl) (by kernel_rfl) (by intro _ _ _ h; exact h) (Or.inl ⟨by kernel_rfl, ?hy10⟩) (by assumption) ?rest10
    case hy10 =>
      intro w' hSw
      have hSw : Mods (· = g) w2 w' := hSw
      clear hSw
      go_simp
      try with_reducible rfl
    change wpAnyH _ _ _ _ _ _ _ (Act.put _ (some 19) _) _
    try simp only [Act.put, List.setIfInBounds_toArray, List.set_cons_zero, List.set_cons_succ]
    refine wpAnyH_take (i := 5) (v := ?vv11) (by rfl) (by kernel_rfl) (by kernel_rfl) (by kernel_rfl) (by intro _ _ _ h; exact h) (Or.inl ⟨by kernel_rfl, ?hy11⟩) (by assumption) ?rest11
    case hy11 =>
      intro w' hSw
      have hSw : Mods (· = g) w2 w' := hSw
      clear hSw
      go_simp
      try with_reducible rfl
    change wpAnyH _ _ _ _ _ _ _ (Act.put _ (some 21) _) _
    try simp only [Act.put, List.setIfInBounds_toArray, List.set_cons_zero, List.set_cons_succ]
    refine wpAnyH_take (i := 6) (v := ?vv12) (by rfl) (by kernel_rfl) (by kernel_rfl) (by kernel_rfl) (by intro _ _ _ h; exact h) (Or.inl ⟨by kernel_rfl, ?hy12⟩) (by assumption) ?rest12
    case hy12 =>
      intro w' hSw
      have hSw : Mods (· = g) w2 w' := hSw
      have h0 := hSw.cell hx4 hn0
      clear hSw
      go_simp
      try with_reducible rfl
    change wpAnyH _ _ _ _ _ _ _ (Act.put _ (some 22) _) _
    try simp only [Act.put, List.setIfInBounds_toArray, List.set_cons_zero, List.set_cons_succ]
    refine wpAnyH_ready (rs := [4]) (by kernel_rfl) (by simp) ?_
    refine AllReadyH.cons (o := _) rfl (fun K hK => ?_) ?_
    · have h3 : World.cell? xs ⟨g, 3, none⟩ = some (.int .i64 m.ub) := HBd.out.cells.2.2.2.1
      have h4 : World.cell? xs ⟨g, 4, none⟩ = some (.int .i64 m.uc) := HBd.out.cells.2.2.2.2
      go_simp
      clear h3 h4
      have hb := hHeld
      refine hK.out _ _ hb (fun _ => ?_)
      clear hK K hHeld
      have hHeld : Mods (· = g) w2 xs := hb
      clear hb
      try simp only [Act.put, List.setIfInBounds_toArray, List.set_cons_zero, List.set_cons_succ]
      refine wpAnyH_ready (rs := [7]) (by kernel_rfl) (by simp) ?_
      refine AllReadyH.cons (o := _) rfl (fun K hK => ?_) ?_
      · go_simp
        refine (HQ.out _).mono ?_
        rintro e yA ⟨rfl, hk⟩
        have hb := hHeld.then hk
        have HBd := Lib.hid (HBd.out.keeps hk)
        have HEd := Lib.hid (HEd.out.keeps hk)
        clear hk
        go_wp2_with fail
        refine hK.out _ _ hb (fun _ => ?_)
        clear hK K hHeld
        have hHeld : Mods (· = g) w2 yA := hb
        clear hb
        try simp only [Act.put, List.setIfInBounds_toArray, List.set_cons_zero, List.set_cons_succ]
        refine wpAnyH_take (i := 8) (v := ?vv13) (by rfl) (by kernel_rfl) (by kernel_rfl) (by kernel_rfl) (by intro _ _ _ h; exact h) (Or.inl ⟨by kernel_rfl, ?hy13⟩) (by assumption) ?rest13
        case hy13 =>
          intro w' hSw
          have hSw : Mods (· = g) w2 w' := hSw
          clear hSw
          go_simp
          try with_reducible rfl
        change wpAnyH _ _ _ _ _ _ _ (Act.put _ (some 15) _) _
        try simp only [Act.put, List.setIfInBounds_toArray, List.set_cons_zero, List.set_cons_succ]
        refine wpAnyH_take (i := 9) (v := ?vv14) (by rfl) (by kernel_rfl) (by kernel_rfl) (by kernel_rfl) (by intro _ _ _ h; exact h) (Or.inl ⟨by kernel_rfl, ?hy14⟩) (by assumption) ?rest14
        case hy14 =>
          intro w' hSw
          have hSw : Mods (· = g) w2 w' := hSw
          clear hSw
          go_simp
          try with_reducible rfl
        change wpAnyH _ _ _ _ _ _ _ (Act.put _ (some 24) _) _
        try simp only [Act.put, List.setIfInBounds_toArray, List.set_cons_zero, List.set_cons_succ]
        refine wpAnyH_take (i := 10) (v := ?vv15) (by rfl) (by kernel_rfl) (by kernel_rfl) (by kernel_rfl) (by intro _ _ _ h; exact h) (Or.inl ⟨by kernel_rfl, ?hy15⟩) (by assumption) ?rest15
        case hy15 =>
          intro w' hSw
          have hSw : Mods (· = g) w2 w' := hSw
          clear hSw
          go_simp
          try with_reducible rfl
        change wpAnyH _ _ _ _ _ _ _ (Act.put _ (some 25) _) _
        try simp only [Act.put, List.setIfInBounds_toArray, List.set_cons_zero, List.set_cons_succ]
        refine wpAnyH_take (i := 11) (v := ?vv16) (by rfl) (by kernel_rfl) (by kernel_rfl) (by kernel_rfl) (by intro _ _ _ h; exact h) (Or.inl ⟨by kernel_rfl, ?hy16⟩) (by assumption) ?rest16
        case hy16 =>
          intro w' hSw
          have hSw : Mods (· = g) w2 w' := hSw
          clear hSw
          go_simp
          try with_reducible rfl
        change wpAnyH _ _ _ _ _ _ _ (Act.put _ (some 26) _) _
        try simp only [Act.put, List.setIfInBounds_toArray, List.set_cons_zero, List.set_cons_succ]
        refine wpAnyH_take (i := 12) (v := ?vv17) (by rfl) (by kernel_rfl) (by kernel_rfl) (by kernel_rfl) (by intro _ _ _ h; exact h) (Or.inl ⟨by kernel_rfl, ?hy17⟩) (by assumption) ?rest17
        case hy17 =>
          intro w' hSw
          have hSw : Mods (· = g) w2 w' := hSw
          clear hSw
          go_simp
          try with_reducible rfl
        change wpAnyH _ _ _ _ _ _ _ (Act.put _ (some 27) _) _
        try simp only [Act.put, List.setIfInBounds_toArray, List.set_cons_zero, List.set_cons_succ]
        refine wpAnyH_ready (rs := [13]) (by kernel_rfl) (by simp) ?_
        refine AllReadyH.cons (o := _) rfl (fun K hK => ?_) ?_
        · have h3 : World.cell? yA ⟨g, 3, none⟩ = some (.int .i64 m.ub) := HBd.out.cells.2.2.2.1
          have h4 : World.cell? yA ⟨g, 4, none⟩ = some (.int .i64 m.uc) := HBd.out.cells.2.2.2.2
          have z3 : World.frozen? yA ⟨g, 3, none⟩ = false := HBd.out.blk.frozen _
          have z4 : World.frozen? yA ⟨g, 4, none⟩ = false := HBd.out.blk.frozen _
          go_simp
          have hsu := HBd.out.setUse tv tc
          have hb := hHeld.trans hsu.2 (fun x h _ => h)
          have HEd := Lib.hid (HEd.out.mods hsu.2 hn0)
          have HBd := Lib.hid hsu.1
          clear h3 h4 z3 z4 hsu
          generalize World.setCell (World.setCell yA ⟨g, 3, none⟩ (.int .i64 tv)) ⟨g, 4, none⟩ (.int .i64 tc) = yB at *
          refine hK.out _ _ hb (fun _ => ?_)
          clear hK K hHeld
          have hHeld : Mods (· = g) w2 yB := hb
          clear hb
          try simp only [Act.put, List.setIfInBounds_toArray, List.set_cons_zero, List.set_cons_succ]
          refine wpAnyH_done (by kernel_rfl) ?_ _
          refine NoPanic.normal ?_
          go_wp2_with fail
          go_meet
          exact Lib.hid ⟨HBd.out, HEd.out, hHeld⟩
        exact AllReadyH.nil
      exact AllReadyH.nil
    exact AllReadyH.nil
  case rest =>
  obtain ⟨wz, rfl⟩ : ∃ wz : World, wz = wc := ⟨_, rfl⟩
  have HBX := Lib.hid hcut.out.1
  have HE := Lib.hid hcut.out.2.1
  have HM := Lib.hid hcut.out.2.2
  clear hcut HBd HEd HQ hx4
  have hx6 : wz.cell? ⟨b, 6, none⟩ = some (.bool E.gone) := by rw [HE.out.cell]; rfl
  have hz6 : wz.frozen? ⟨b, 6, none⟩ = false := HE.out.frozen _
  have hx2 : wz.cell? ⟨b, 2, none⟩ = some (.int .i64 E.flags) := by rw [HE.out.cell]; rfl
  have hz2 : wz.frozen? ⟨b, 2, none⟩ = false := HE.out.frozen _
  go_upto_region 6 with fail
  generalize hW : World.setCell (World.setCell wz _ _) _ _ = w3
  have HE3 := Lib.hid (show Blk w3 b 85 (entA { E with gone := true, flags := 0 }) from by rw [← hW]; exact (HE.out.set_ 6 _).set_ 2 _)
  have hM23 : Mods (· = b) wz w3 := by rw [← hW]; exact ((Mods.refl (· = b) wz).setCell (p := ⟨b, 6, none⟩) (fun _ => rfl) _).setCell (p := ⟨b, 2, none⟩) (fun _ => rfl) _
  have HB3 : Hid (BoxAt w3 g b1 b2 n { m with ub := tv, uc := tc }) := Lib.hid (boxMods HBX.out hM23 (fun e => hn0 e.symm) (fun e => hn1 e.symm) (fun e => hn2 e.symm))
  have HMM : Hid (Mods (BFr g b1 b2) w w3) := Lib.hid (((Mods.of_keeps (S := BFr g b1 b2) HK2.out).trans HM.out (fun y hy _ => .inl hy)).trans hM23 (fun y hy hlt => by subst hy; omega))
  obtain ⟨c0, -⟩ := HB3.out.cells
  have HBd := Lib.hid (HB3.out.keeps (Keeps.refl w3).drew)
  have hgb : ¬ g = b1 := fun e => HB3.out.d1 e.symm
  clear hW hM23 hx2 hz2 hx6 hz6 HB3 HBX HE HM
  refine wp_region_noPanic ?_
  refine wp_region_held_drew (S := fun w' => Mods (· = b1) w3 w') (by kernel_rfl) ((Mods.refl (· = b1) w3).drew) (fun _ => ?_)
  have hHeld : Mods (· = b1) w3 (w3).drew := (Mods.refl (· = b1) w3).drew
  generalize World.drew w3 = xs at *
  refine wpAnyH_take (i := 0) (v := ?vv18) (by rfl) (by kernel_rfl) (by kernel_rfl) (by kernel_rfl) (by intro _ _ _ h; exact h) (Or.inl ⟨by kernel_rfl, ?hy18⟩) (by assumption) ?rest18
  case hy18 =>
    intro w' hSw
    have hSw : Mods (· = b1) w3 w' := hSw
    clear hSw
    go_simp
    try with_reducible rfl
  change wpAnyH _ _ _ _ _ _ _ (Act.put _ (some 30) _) _
  try simp only [Act.put, List.setIfInBounds_toArray, List.set_cons_zero, List.set_cons_succ]
  refine wpAnyH_take (i := 1) (v := ?vv19) (by rfl) (by kernel_rfl) (by kernel_rfl) (by kernel_rfl) (by intro _ _ _ h; exact h) (Or.inl ⟨by kernel_rfl, ?hy19⟩) (by assumption) ?rest19
  case hy19 =>
    intro w' hSw
    have hSw : Mods (· = b1) w3 w' := hSw
    clear hSw
    go_simp
    try with_reducible rfl
  change wpAnyH _ _ _ _ _ _ _ (Act.put _ (some 31) _) _
  try simp only [Act.put, List.setIfInBounds_toArray, List.set_cons_zero, List.set_cons_succ]
  refine wpAnyH_take (i := 2) (v := ?vv20) (by rfl) (by kernel_rfl) (by kernel_rfl) (by kernel_rfl) (by intro _ _ _ h; exact h) (Or.inl ⟨by kernel_rfl, ?hy20⟩) (by assumption) ?rest20
  case hy20 =>
    intro w' hSw
    have hSw : Mods (· = b1) w3 w' := hSw
    clear hSw
    go_simp
    try with_reducible rfl
  change wpAnyH _ _ _ _ _ _ _ (Act.put _ (some 32) _) _
  try simp only [Act.put, List.setIfInBounds_toArray, List.set_cons_zero, List.set_cons_succ]
  refine wpAnyH_take (i := 3) (v := ?vv21) (by rfl) (by kernel_rfl) (by kernel_rfl) (by kernel_rfl) (by intro _ _ _ h; exact h) (Or.inl ⟨by kernel_rfl, ?hy21⟩) (by assumption) ?rest21
  case hy21 =>
    intro w' hSw
    have hSw : Mods (· = b1) w3 w' := hSw
    have h0 := hSw.cell c0 hgb
    clear hSw
    go_simp
    try with_reducible rfl
  change wpAnyH _ _ _ _ _ _ _ (Act.put _ (some 33) _) _
  try simp only [Act.put, List.setIfInBounds_toArray, List.set_cons_zero, List.set_cons_succ]
  refine wpAnyH_take (i := 4) (v := ?vv22) (by rfl) (by kernel_rfl) (by kernel_rfl) (by kernel_rfl) (by intro _ _ _ h; exact h) (Or.inl ⟨by kernel_rfl, ?hy22⟩) (by assumption) ?rest22
  case hy22 =>
    intro w' hSw
    have hSw : Mods (· = b1) w3 w' := hSw
    clear hSw
    go_simp
    try with_reducible rfl
  change wpAnyH _ _ _ _ _ _ _ (Act.put _ (some 34) _) _
  try simp only [Act.put, List.setIfInBounds_toArray, List.set_cons_zero, List.set_cons_succ]
  refine wpAnyH_take (i := 5) (by rfl) (by kernel_rfl) (by kernel_rfl) (by kernel_rfl) (by intro _ _ _ h; exact h) (yieldsIf_ld (by kernel_rfl) entM (fun w' hS => HE3.out.mods hS hn1) _ rfl rfl) (by assumption) ?rest23
  change wpAnyH _ _ _ _ _ _ _ (Act.put _ (some 35) _) _
  try simp only [Act.put, List.setIfInBounds_toArray, List.set_cons_zero, List.set_cons_succ]
  refine wpAnyH_ready (rs := [6]) (by kernel_rfl) (by simp) ?_
  refine AllReadyH.cons (o := _) rfl (fun K hK => ?_) ?_
  · obtain ⟨yF, hrun, hbox, hM⟩ := HBd.out.put hn hx { E with gone := true, flags := 0 }
    have hrun : (Instr.mapUpdate 183 (.map (some b1)) (.int .i64 x) (.agg (entA { E with gone := true, flags := 0 }))).run Try.prog xs = .ok () yF := hrun
    go_simp
    have hb := hHeld.trans hM (fun x h _ => h)
    have HBd := Lib.hid hbox
    clear hrun hbox hM
    refine hK.out _ _ hb (fun _ => ?_)
    clear hK K hHeld
    have hHeld : Mods (· = b1) w3 yF := hb
    clear hb
    try simp only [Act.put, List.setIfInBounds_toArray, List.set_cons_zero, List.set_cons_succ]
    refine wpAnyH_done (by kernel_rfl) ?_ _
    refine NoPanic.normal ?_
    go_wp2_with fail
    go_ret
    exact ⟨(congrArg (fun r : Box × Bool => Ending.returned (Value.bool r.2)) HX.out).symm, by rw [HX.out]; unfold goneM; rw [← HTV.out.1, ← HTV.out.2]; exact HBd.out, HMM.out.trans hHeld (fun y hy _ => .inr (.inl hy))⟩
  exact AllReadyH.nil
end Mbx
end Go.Proofs.Ytohchhgheeolpaa

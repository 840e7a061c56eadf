/- users: New. -/
import Derived.Test.YtklbemkafdccgaaGreatK17
import Derived.Test.YtklbemkafdccgaaGreatK18
import Derived.Test.YtklbemkafdccgaaGreatUsLower
namespace Go.Proofs.YtklbemkafdccgaaGreat
open Go.RowKit
namespace Usr
open Adr (Str)
open Mp Go.Maps
/-- a table made anew: all its blocks are new -/
def NewAt (W : World) (t : TabP) (e : Ending) (w' : World) : Prop := ∃ g b1 b2, e = .returned (.pointer (some ⟨g, 0, none⟩)) ∧ (W.heap.size ≤ g ∧ W.heap.size ≤ b1 ∧ W.heap.size ≤ b2) ∧ TabAt w' g b1 b2 0 t ∧ Keeps W w'
def NewDid (W : World) (dom : Str) (e : Ending) (w' : World) : Prop :=
 (Adr.domainB dom = true ∧ NewAt W { dom := lowL dom, next := 1, us := [], al := [] } e w') ∨ (Adr.domainB dom = false ∧ e = .returned (.pointer none) ∧ Keeps W w')
set_option maxRecDepth 100000 in
theorem new_any (w : World) (dom : Str) (hl : dom.length ≤ 1000000) : Calls Tryz.prog 9 #[.string (bstr dom)] w (NewDid w dom) := by
 have CD := Lib.hid (fun w => Adr.domainB_any w dom (by omega))
 have CL := Lib.hid (fun w => lower_any dom (by omega) w)
 have hmk1 : ∀ w, (Instr.makeMap 81 none).run Tryz.prog w = .ok (.map (some w.heap.size)) (w.alloc (.map #[] 0)) := fun w => run_makeMap _ w
 have hmk2 : ∀ w, (Instr.makeMap 82 none).run Tryz.prog w = .ok (.map (some w.heap.size)) (w.alloc (.map #[] 0)) := fun w => run_makeMap _ w
 obtain ⟨d, hd⟩ : ∃ d, Adr.domainB dom = d := ⟨_, rfl⟩
 have HD := Lib.hid hd
 rw [hd] at CD
 clear hd
 go_enter Tryz.func9, Tryz.ntmps9
 go_wp2_with fail
 refine (CD.out _).mono ?_
 rintro e w1 ⟨rfl, hk⟩
 have HK := Lib.hid hk
 clear hk
 cases d with
 |false =>
  go_wp2_with fail
  go_ret
  exact .inr ⟨HD.out, rfl, HK.out⟩
 |true =>
 go_wp2_with fail
 refine (CL.out _).mono ?_
 rintro e w2 ⟨rfl, hk⟩
 have HK := Lib.hid (HK.out.trans hk)
 clear hk
 go_wp2_with fail
 go_ret
 refine .inl ⟨HD.out, ?_⟩
 have ho1 : ((w2.alloc (.map #[] 0)).ownsMap Tryz.prog 9 usrElem w2.heap.size 0 (.map [])) := World.ownsMap_made w2 Tryz.prog _ _
 have ho2 : (((w2.alloc (.map #[] 0)).alloc (.map #[] 0)).ownsMap Tryz.prog 9 alElem (w2.alloc (.map #[] 0)).heap.size 0 (.map [])) := World.ownsMap_made _ Tryz.prog _ _
 have e1 : (w2.alloc (.map #[] 0)).heap.size = w2.heap.size + 1 := by show (w2.heap.push _).size = _; simp
 have e2 : ((w2.alloc (.map #[] 0)).alloc (.map #[] 0)).heap.size = w2.heap.size + 1 + 1 := by show ((w2.alloc (.map #[] 0)).heap.push _).size = _; simp [e1]
 rw [e1] at ho2
 have hsz := HK.out.size
 refine ⟨w2.heap.size + 1 + 1, w2.heap.size, w2.heap.size + 1, by simp [e1, e2], ⟨by omega, by omega, by omega⟩, ⟨?_, ?_, ?_, by omega⟩, ((HK.out.alloc _).alloc _).alloc _⟩
 ·exact Blk.new _ _ _ e2.symm
 ·exact ⟨_, map_keepsS ho1 (((Keeps.refl _).alloc _).alloc _), MapOf.new⟩
 ·exact ⟨_, [], map_keepsS ho2 ((Keeps.refl _).alloc _), MapOf.new, rfl, fun x hx => by cases hx⟩
end Usr
end Go.Proofs.YtklbemkafdccgaaGreat

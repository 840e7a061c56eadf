/- Several texts in one: SfAppend, SfClo, SfMake, SfDrop. -/
import Derived.Test.YtchjncnolmiejaaK34
/- safe: steps of the disk; Append. -/
namespace Go.Proofs.Ytchjncnolmiejaa
open Go.RowKit
namespace Sf
open Vd
/-- a slice that no change of S since w1 reaches -/
def Stays (S : Nat → Prop) (w1 : World) (v : Value) (l : List Value) : Prop := ∀ w2, Mods S w1 w2 → Row w2 v l
section
variable {S : Nat → Prop} {w1 w wb w' : World} {g : Nat} {d : Dsk} {k : Nat}
theorem Stays.base {v : Value} {l : List Value} (h : Stays S w1 v l) (ho : On S w1 w g d k) (hk : Keeps w wb) : Stays (More S w1 w) wb v l := fun w2 hm => h w2 (by
  have hs := hk.size
  have hs0 := ho.mods.size
  refine ho.mods.trans ((Mods.of_keeps (S := More S w1 w) hk).trans hm (fun y hy _ => hy)) (fun y hy hlt => ?_)
  rcases hy with hy | hy
  · exact hy
  · omega)
theorem Stays.now {v : Value} {l : List Value} (h : Stays S w1 v l) (ho : On S w1 w g d k) : ∀ w2, Mods (More S w1 w) w w2 → Row w2 v l := fun w2 hm => h w2 (ho.mods.step hm)
theorem On.kept (ho : On S wb w' g d k) {b : Nat} {t : TypeId} {cs : Array Value} (hb : Blk wb b t cs) (hn : ¬ S b) : Blk w' b t cs := hb.mods ho.mods hn
theorem On.more {k' : Nat} (ho : On S w1 w g d k) (h : k ≤ k') : On S w1 w g d k' := ⟨ho.dsk, ho.mods, ho.few.mono h, ho.lt⟩
theorem thenD_ok {r : Dsk × Int} {f : Dsk → Dsk × Int} (h : r.2 = 0) : thenD r f = f r.1 := if_pos h
theorem thenD_no {r : Dsk × Int} {f : Dsk → Dsk × Int} (h : r.2 ≠ 0) : thenD r f = r := if_neg h
/-- where steps stand -/
def Stp (S : Nat → Prop) (wb : World) (g : Nat) (rs : List ((Dsk × Int) × Nat)) (i : Nat) (c : Int) (w' : World) : Prop := ∃ q, rs[i]? = some q ∧ Tells S wb g q.1 q.2 c w'
theorem steps2_on (h : On S wb wb g d k) {B : Nat} {t : TypeId} {c1 c2 : Clo} (hB : Blk wb B t #[cloV c1, cloV c2]) (hn : ¬ S B) (e1 : Enters c1.1 (c1.2.1 ++ c1.2.2)) (e2 : Enters c2.1 (c2.2.1 ++ c2.2.2)) (f1 f2 : Dsk → Dsk × Int) {k1 k2 : Nat} (hk : k1 ≤ k2)
    (h1 : ∀ w', On S wb w' g d k → Calls Try.prog c1.1 (c1.2.1 ++ c1.2.2) w' (Says (Tells S wb g (f1 d) k1))) (h2 : ∀ w' d', On S wb w' g d' k1 → Calls Try.prog c2.1 (c2.2.1 ++ c2.2.2) w' (Says (Tells S wb g (f2 d') k2))) :
    Calls Try.prog 146 #[.slice (some ⟨B, 0, none⟩) 2 2] wb (Says (Tells S wb g (thenD (f1 d) f2) k2)) := by
  have := steps_any wb B [c1, c2] (by simp) (Stp S wb g [((d, 0), k), (f1 d, k1), (thenD (f1 d) f2, k2)])
    (fun i hi => by
      rcases (show i = 0 ∨ i = 1 by simp at hi; omega) with rfl | rfl
      · exact e1
      · exact e2)
    (fun i hi w' hP => by
      obtain ⟨q, -, -, ho⟩ := hP
      have hb := On.kept ho hB hn
      rcases (show i = 0 ∨ i = 1 by simp at hi; omega) with rfl | rfl <;> (rw [hb.cell]; rfl))
    (fun i hi w' hP => by
      obtain ⟨q, hq, hc, ho⟩ := hP
      rcases (show i = 0 ∨ i = 1 by simp at hi; omega) with rfl | rfl
      · simp at hq
        subst hq
        exact (h1 w' ho).mono (fun e w'' ⟨c, he, ht⟩ => ⟨c, he, _, rfl, ht⟩)
      · simp at hq
        subst hq
        exact (h2 w' _ ho).mono (fun e w'' ⟨c, he, ht⟩ => ⟨c, he, _, rfl, by
          have hc : (0 : Int) = (f1 d).2 := hc
          show Tells S wb g (thenD (f1 d) f2) k2 c w''
          rw [thenD_ok hc.symm]
          exact ht⟩))
    (fun i c w' hi hP hc => by
      obtain ⟨q, hq, hcc, ho⟩ := hP
      rcases (show i = 0 ∨ i = 1 by simp at hi; omega) with rfl | rfl
      · simp at hq
        subst hq
        have hcc : c = (f1 d).2 := hcc
        refine ⟨_, rfl, ?_⟩
        show Tells S wb g (thenD (f1 d) f2) k2 c w'
        rw [thenD_no (by rw [← hcc]; exact hc)]
        exact ⟨hcc, On.more ho hk⟩
      · exact ⟨q, hq, hcc, ho⟩)
    ⟨_, rfl, rfl, h⟩
  refine this.mono (fun e w' hs => ?_)
  obtain ⟨c, he, q, hq, ht⟩ := hs
  simp at hq
  subst hq
  exact ⟨c, he, ht⟩
theorem steps4_on (h : On S wb wb g d k) {B : Nat} {t : TypeId} {c1 c2 c3 c4 : Clo} (hB : Blk wb B t #[cloV c1, cloV c2, cloV c3, cloV c4]) (hn : ¬ S B) (e1 : Enters c1.1 (c1.2.1 ++ c1.2.2)) (e2 : Enters c2.1 (c2.2.1 ++ c2.2.2)) (e3 : Enters c3.1 (c3.2.1 ++ c3.2.2)) (e4 : Enters c4.1 (c4.2.1 ++ c4.2.2)) (f1 f2 f3 f4 : Dsk → Dsk × Int) {k1 k2 k3 k4 : Nat} (hk : k1 ≤ k2) (hk' : k2 ≤ k3) (hk'' : k3 ≤ k4)
    (h1 : ∀ w', On S wb w' g d k → Calls Try.prog c1.1 (c1.2.1 ++ c1.2.2) w' (Says (Tells S wb g (f1 d) k1))) (h2 : ∀ w' d', On S wb w' g d' k1 → Calls Try.prog c2.1 (c2.2.1 ++ c2.2.2) w' (Says (Tells S wb g (f2 d') k2)))
    (h3 : ∀ w' d', On S wb w' g d' k2 → Calls Try.prog c3.1 (c3.2.1 ++ c3.2.2) w' (Says (Tells S wb g (f3 d') k3))) (h4 : ∀ w' d', On S wb w' g d' k3 → Calls Try.prog c4.1 (c4.2.1 ++ c4.2.2) w' (Says (Tells S wb g (f4 d') k4))) :
    Calls Try.prog 146 #[.slice (some ⟨B, 0, none⟩) 4 4] wb (Says (Tells S wb g (thenD (thenD (thenD (f1 d) f2) f3) f4) k4)) := by
  have := steps_any wb B [c1, c2, c3, c4] (by simp) (Stp S wb g [((d, 0), k), (f1 d, k1), (thenD (f1 d) f2, k2), (thenD (thenD (f1 d) f2) f3, k3), (thenD (thenD (thenD (f1 d) f2) f3) f4, k4)])
    (fun i hi => by
      rcases (show i = 0 ∨ i = 1 ∨ i = 2 ∨ i = 3 by simp at hi; omega) with rfl | rfl | rfl | rfl
      · exact e1
      · exact e2
      · exact e3
      · exact e4)
    (fun i hi w' hP => by
      obtain ⟨q, -, -, ho⟩ := hP
      have hb := On.kept ho hB hn
      rcases (show i = 0 ∨ i = 1 ∨ i = 2 ∨ i = 3 by simp at hi; omega) with rfl | rfl | rfl | rfl <;> (rw [hb.cell]; rfl))
    (fun i hi w' hP => by
      obtain ⟨q, hq, hc, ho⟩ := hP
      rcases (show i = 0 ∨ i = 1 ∨ i = 2 ∨ i = 3 by simp at hi; omega) with rfl | rfl | rfl | rfl
      · simp at hq
        subst hq
        exact (h1 w' ho).mono (fun e w'' ⟨c, he, ht⟩ => ⟨c, he, _, rfl, ht⟩)
      · simp at hq
        subst hq
        exact (h2 w' _ ho).mono (fun e w'' ⟨c, he, ht⟩ => ⟨c, he, _, rfl, by
          have hc : (0 : Int) = (f1 d).2 := hc
          show Tells S wb g (thenD (f1 d) f2) k2 c w''
          rw [thenD_ok hc.symm]
          exact ht⟩)
      · simp at hq
        subst hq
        exact (h3 w' _ ho).mono (fun e w'' ⟨c, he, ht⟩ => ⟨c, he, _, rfl, by
          have hc : (0 : Int) = (thenD (f1 d) f2).2 := hc
          show Tells S wb g (thenD (thenD (f1 d) f2) f3) k3 c w''
          rw [thenD_ok (f := f3) hc.symm]
          exact ht⟩)
      · simp at hq
        subst hq
        exact (h4 w' _ ho).mono (fun e w'' ⟨c, he, ht⟩ => ⟨c, he, _, rfl, by
          have hc : (0 : Int) = (thenD (thenD (f1 d) f2) f3).2 := hc
          show Tells S wb g (thenD (thenD (thenD (f1 d) f2) f3) f4) k4 c w''
          rw [thenD_ok (f := f4) hc.symm]
          exact ht⟩))
    (fun i c w' hi hP hc => by
      obtain ⟨q, hq, hcc, ho⟩ := hP
      rcases (show i = 0 ∨ i = 1 ∨ i = 2 ∨ i = 3 by simp at hi; omega) with rfl | rfl | rfl | rfl
      · simp at hq
        subst hq
        have hcc : c = (f1 d).2 := hcc
        have hne : (f1 d).2 ≠ 0 := by rw [← hcc]; exact hc
        refine ⟨_, rfl, ?_⟩
        show Tells S wb g (thenD (thenD (thenD (f1 d) f2) f3) f4) k4 c w'
        rw [thenD_no (f := f2) hne, thenD_no (f := f3) hne, thenD_no (f := f4) hne]
        exact ⟨hcc, On.more ho (by omega)⟩
      · simp at hq
        subst hq
        have hcc : c = (thenD (f1 d) f2).2 := hcc
        have hne : (thenD (f1 d) f2).2 ≠ 0 := by rw [← hcc]; exact hc
        refine ⟨_, rfl, ?_⟩
        show Tells S wb g (thenD (thenD (thenD (f1 d) f2) f3) f4) k4 c w'
        rw [thenD_no (f := f3) hne, thenD_no (f := f4) hne]
        exact ⟨hcc, On.more ho (by omega)⟩
      · simp at hq
        subst hq
        have hcc : c = (thenD (thenD (f1 d) f2) f3).2 := hcc
        have hne : (thenD (thenD (f1 d) f2) f3).2 ≠ 0 := by rw [← hcc]; exact hc
        refine ⟨_, rfl, ?_⟩
        show Tells S wb g (thenD (thenD (thenD (f1 d) f2) f3) f4) k4 c w'
        rw [thenD_no (f := f4) hne]
        exact ⟨hcc, On.more ho (by omega)⟩
      · exact ⟨q, hq, hcc, ho⟩)
    ⟨_, rfl, rfl, h⟩
  refine this.mono (fun e w' hs => ?_)
  obtain ⟨c, he, q, hq, ht⟩ := hs
  simp at hq
  subst hq
  exact ⟨c, he, ht⟩
theorem append1_on (h : On S w1 w g d k) (hk : k ≤ 400) {p q r : Nat} {x b : Str} {bv : Value} (hx : x.length ≤ maxLen) (hs : Stays S w1 bv (b.map u8v)) (hbl : b.length ≤ 1000000000) (hb : Boxes w p q g x) (hr : Blk w r 22 #[bv]) : Calls Try.prog 151 #[.pointer (some ⟨p, 0, none⟩), .pointer (some ⟨q, 0, none⟩), .pointer (some ⟨r, 0, none⟩)] w (Says (Tells S w1 g (appendD d x b) (k + 1))) := by
  have HC := Lib.hid (append_on h hk x hx (hs.now h) hbl)
  have c0 : w.cell? ⟨p, 0, none⟩ = some (.pointer (some ⟨g, 0, none⟩)) := by rw [hb.dp.cell]; rfl
  have c1 : w.cell? ⟨q, 0, none⟩ = some (.string (bstr x)) := by rw [hb.nm.cell]; rfl
  have c2 : w.cell? ⟨r, 0, none⟩ = some bv := by rw [hr.cell]; rfl
  clear h hb hs hr
  generalize appendD d x b = r at *
  obtain ⟨d2, er⟩ := r
  go_enter Try.func151, Try.ntmps151
  go_wp2_with fail
  refine HC.out.mono ?_
  rintro e w2 ⟨rfl, ho⟩
  have HO := Lib.hid ho
  clear ho HC c0 c1 c2
  go_wp2_with fail
  go_ret
  exact ⟨er, rfl, rfl, HO.out⟩
theorem append2_on (h : On S w1 w g d k) (hk : k ≤ 390) {p q : Nat} {x : Str} (hx : x.length ≤ maxLen) (hb : Boxes w p q g x) : Calls Try.prog 152 #[.pointer (some ⟨p, 0, none⟩), .pointer (some ⟨q, 0, none⟩)] w (Says (Tells S w1 g (sSync x d) (k + 2))) := by
  have HC := Lib.hid (ssync_on h hk x hx)
  have c0 : w.cell? ⟨p, 0, none⟩ = some (.pointer (some ⟨g, 0, none⟩)) := by rw [hb.dp.cell]; rfl
  have c1 : w.cell? ⟨q, 0, none⟩ = some (.string (bstr x)) := by rw [hb.nm.cell]; rfl
  clear h hb
  generalize sSync x d = r at *
  obtain ⟨d2, er⟩ := r
  go_enter Try.func152, Try.ntmps152
  go_wp2_with fail
  refine HC.out.mono ?_
  rintro e w2 ⟨c, rfl, rfl, ho⟩
  have HO := Lib.hid ho
  clear ho HC c0 c1
  go_wp2_with fail
  go_ret
  exact ⟨_, rfl, rfl, HO.out⟩
theorem sappend_on (h : On S w1 w g d k) (hk : k ≤ 380) {x b : Str} {p0 : Option Addr} {c0 : Nat} (hx : x.length ≤ maxLen) (hs : Stays S w1 (.slice p0 b.length c0) (b.map u8v)) (hbl : b.length ≤ 1000000000) : Calls Try.prog 105 #[.pointer (some ⟨g, 0, none⟩), .string (bstr x), .slice p0 b.length c0] w (Says (Tells S w1 g (sAppend x b d) (k + 3))) := by
  have H := Lib.hid h
  have HS := Lib.hid hs
  clear h hs
  go_enter Try.func105, Try.ntmps105
  go_wp2_with fail
  generalize hW : World.alloc _ _ = wb
  have HB := Lib.hid (show Boxes wb w.heap.size (w.heap.size + 1) g x from by
    rw [← hW]
    exact ⟨(((Blk.new _ _ _ rfl).alloc _).alloc _).alloc _, ((Blk.new _ _ _ (by rw [Frm.alloc_size])).alloc _).alloc _⟩)
  have HR := Lib.hid (show Blk wb (w.heap.size + 1 + 1) 22 #[.slice p0 b.length c0] from by
    rw [← hW]
    exact (Blk.new _ _ _ (by rw [Frm.alloc_size, Frm.alloc_size])).alloc _)
  have HBB := Lib.hid (show Blk wb (w.heap.size + 1 + 1 + 1) 32 #[cloV (151, #[], #[.pointer (some ⟨w.heap.size, 0, none⟩), .pointer (some ⟨w.heap.size + 1, 0, none⟩), .pointer (some ⟨w.heap.size + 1 + 1, 0, none⟩)]), cloV (152, #[], #[.pointer (some ⟨w.heap.size, 0, none⟩), .pointer (some ⟨w.heap.size + 1, 0, none⟩)])] from by
    rw [← hW]
    exact Blk.new _ _ _ (by rw [Frm.alloc_size, Frm.alloc_size, Frm.alloc_size]))
  have HK := Lib.hid (show Keeps w wb from by rw [← hW]; exact ((((Keeps.refl _).alloc _).alloc _).alloc _).alloc _)
  clear hW
  have HST := Lib.hid (steps2_on (H.out.base HK.out) HBB.out (fun hy => by
      have h0 := H.out.mods.size
      rcases hy with hy | hy
      · have := H.out.lt _ hy
        omega
      · omega) (enters_of Try.func151 (by kernel_rfl) rfl _) (enters_of Try.func152 (by kernel_rfl) rfl _) (fun d => appendD d x b) (sSync x) (k1 := k + 1) (k2 := k + 3) (by omega)
    (fun w' ho => append1_on ho (by omega) hx (HS.out.base H.out HK.out) hbl ⟨H.out.blk ho HB.out.dp (Nat.le_refl _), H.out.blk ho HB.out.nm (by omega)⟩ (H.out.blk ho HR.out (by omega)))
    (fun w' d' ho => append2_on ho (by omega) hx ⟨H.out.blk ho HB.out.dp (Nat.le_refl _), H.out.blk ho HB.out.nm (by omega)⟩))
  refine HST.out.mono ?_
  rintro e w2 ⟨c, rfl, rfl, ho⟩
  have HO := Lib.hid (H.out.back HK.out ho)
  clear ho HST
  go_wp2_with fail
  go_ret
  exact ⟨_, rfl, rfl, HO.out⟩
end
end Sf
end Go.Proofs.Ytchjncnolmiejaa

/- safe: the closures of Make, Drop, Swap. Written by gen_sfclo.py. -/
namespace Go.Proofs.Ytchjncnolmiejaa
open Go.RowKit
namespace Sf
open Vd
section
variable {S : Nat → Prop} {w1 w : World} {g : Nat} {d : Dsk} {k : Nat}
theorem dir_any (h : On S w1 w g d k) (hk : k ≤ 390) : Calls Try.prog 149 #[.func (.func 17) #[.pointer (some ⟨g, 0, none⟩)] #[]] w (Says (Tells S w1 g (sDir d) (k + 2))) :=
  again_on h _ _ _ (enters_of Try.func17 (by kernel_rfl) rfl _) syncDirD (fun w' d' k' hk' ho => tells_of (syncDir_on ho (by omega)))
theorem make2_on (h : On S w1 w g d k) (hk : k ≤ 390) {p : Nat} (hp : Blk w p 27 #[.pointer (some ⟨g, 0, none⟩)]) : Calls Try.prog 148 #[.pointer (some ⟨p, 0, none⟩)] w (Says (Tells S w1 g (sDir d) (k + 2))) := by
  have HC := Lib.hid (dir_any h hk)
  have c0 : w.cell? ⟨p, 0, none⟩ = some (.pointer (some ⟨g, 0, none⟩)) := by rw [hp.cell]; rfl
  clear h hp
  generalize sDir d = r at *
  obtain ⟨d2, er⟩ := r
  go_enter Try.func148, Try.ntmps148
  go_wp2_with fail
  refine HC.out.mono ?_
  rintro e w2 ⟨c, rfl, rfl, ho⟩
  have HO := Lib.hid ho
  clear ho HC c0
  go_wp2_with fail
  go_ret
  exact ⟨_, rfl, rfl, HO.out⟩
theorem make1_on (h : On S w1 w g d k) (hk : k ≤ 380) {p q r : Nat} {x b : Str} {p0 : Option Addr} {c0 : Nat} (hx : x.length ≤ 100) (hs : Stays S w1 (.slice p0 b.length c0) (b.map u8v)) (hbl : b.length ≤ 1000000000) (hb : Boxes w p q g x) (hr : Blk w r 22 #[.slice p0 b.length c0]) : Calls Try.prog 147 #[.pointer (some ⟨p, 0, none⟩), .pointer (some ⟨q, 0, none⟩), .pointer (some ⟨r, 0, none⟩)] w (Says (Tells S w1 g (sAppend x b d) (k + 3))) := by
  have hxm : x.length ≤ maxLen := by unfold maxLen; omega
  have HC := Lib.hid (sappend_on h hk hxm hs hbl)
  have e0 : w.cell? ⟨p, 0, none⟩ = some (.pointer (some ⟨g, 0, none⟩)) := by rw [hb.dp.cell]; rfl
  have e1 : w.cell? ⟨q, 0, none⟩ = some (.string (bstr x)) := by rw [hb.nm.cell]; rfl
  have e2 : w.cell? ⟨r, 0, none⟩ = some (.slice p0 b.length c0) := by rw [hr.cell]; rfl
  clear h hb hs hr
  generalize sAppend x b d = r at *
  obtain ⟨d2, er⟩ := r
  go_enter Try.func147, Try.ntmps147
  go_wp2_with fail
  refine HC.out.mono ?_
  rintro e w2 ⟨c, rfl, rfl, ho⟩
  have HO := Lib.hid ho
  clear ho HC e0 e1 e2
  go_wp2_with fail
  go_ret
  exact ⟨_, rfl, rfl, HO.out⟩
end
end Sf
end Go.Proofs.Ytchjncnolmiejaa

/- safe: Make, Drop. -/
namespace Go.Proofs.Ytchjncnolmiejaa
open Go.RowKit
namespace Sf
open Vd
/-- an error that is not the power's: what was made is taken away -/
def tidyD (x : Str) (q : Dsk × Int) : Dsk × Int := if q.2 = 0 ∨ q.2 = 11 then q else ((sUnlink x q.1).1, q.2)
def sMake (x b : Str) (d : Dsk) : Dsk × Int :=
  if hasD d x then (d, 8) else if (createD d x).2 ≠ 0 then createD d x
  else tidyD x (thenD (sAppend x b (createD d x).1) sDir)
def sDrop (x : Str) (d : Dsk) : Dsk × Int := if d.off = false ∧ hasD d x = false then (d, 0) else thenD (unlinkD d x) sDir
section
variable {S : Nat → Prop} {w1 w wb w2 w3 : World} {g : Nat} {d d2 : Dsk} {k k2 : Nat}
theorem off_set (h : On S w1 w g d k) (_h2 : On (More S w1 w) wb w2 g d2 k2) {b : Nat} (h1 : w.heap.size ≤ b) (hlt : b < wb.heap.size) : ¬ More (More S w1 w) wb w2 b := fun hy => by
  have hs := h.mods.size
  rcases hy with (hy | hy) | hy
  · have := h.lt b hy
    omega
  · omega
  · omega
set_option maxRecDepth 100000 in
set_option maxHeartbeats 2000000 in
theorem smake_on (h : On S w1 w g d k) (hk : k ≤ 370) {x b : Str} {p0 : Option Addr} {c0 : Nat} (hx : x.length ≤ 100) (hs : Stays S w1 (.slice p0 b.length c0) (b.map u8v)) (hbl : b.length ≤ 1000000000) : Calls Try.prog 104 #[.pointer (some ⟨g, 0, none⟩), .string (bstr x), .slice p0 b.length c0] w (Says (Tells S w1 g (sMake x b d) (k + 8))) := by
  have H := Lib.hid h
  have HS := Lib.hid hs
  have hxm : x.length ≤ maxLen := by unfold maxLen; omega
  have HX0 : Hid (sMake x b d = if hasD d x then (d, 8) else if (createD d x).2 ≠ 0 then createD d x else tidyD x (thenD (sAppend x b (createD d x).1) sDir)) := Lib.hid rfl
  clear h hs
  go_enter Try.func104, Try.ntmps104
  go_upto_region 1 with fail
  generalize hW : World.alloc _ _ = wb
  have HB := Lib.hid (show Boxes wb w.heap.size (w.heap.size + 1) g x from by
    rw [← hW]
    exact ⟨((Blk.new _ _ _ rfl).alloc _).alloc _, (Blk.new _ _ _ (by rw [Frm.alloc_size])).alloc _⟩)
  have HR := Lib.hid (show Blk wb (w.heap.size + 1 + 1) 22 #[.slice p0 b.length c0] from by
    rw [← hW]
    exact Blk.new _ _ _ (by rw [Frm.alloc_size, Frm.alloc_size]))
  have HK := Lib.hid (show Keeps w wb from by rw [← hW]; exact (((Keeps.refl _).alloc _).alloc _).alloc _)
  clear hW
  have HOB := Lib.hid (H.out.base HK.out)
  have HHS := Lib.hid (has_on HOB.out x hxm)
  have b0 : wb.cell? ⟨w.heap.size, 0, none⟩ = some (.pointer (some ⟨g, 0, none⟩)) := by rw [HB.out.dp.cell]; rfl
  have b1 : wb.cell? ⟨w.heap.size + 1, 0, none⟩ = some (.string (bstr x)) := by rw [HB.out.nm.cell]; rfl
  cases hh : hasD d x with
  | true =>
    have HX : Hid (sMake x b d = (d, 8)) := Lib.hid (HX0.out.trans (if_pos hh))
    rw [hh] at HHS
    clear hh HX0
    go_wp2_with fail
    refine HHS.out.mono ?_
    rintro e w2 ⟨rfl, rfl⟩
    go_wp2_with fail
    go_ret
    refine ⟨8, rfl, ?_⟩
    rw [HX.out]
    exact ⟨rfl, On.more (H.out.back HK.out HOB.out) (by omega)⟩
  | false =>
    have HX1 := Lib.hid (HX0.out.trans (if_neg (by simp [hh])))
    rw [hh] at HHS
    have HCR := Lib.hid (create_on HOB.out (by omega) x (by omega))
    clear hh HX0
    generalize createD d x = r at *
    obtain ⟨d2, er⟩ := r
    go_wp2_with fail
    refine HHS.out.mono ?_
    rintro e w2 ⟨rfl, rfl⟩
    go_wp2_with fail
    refine HCR.out.mono ?_
    rintro e w2 ⟨rfl, ho2⟩
    have HO2 := Lib.hid ho2
    clear ho2 HCR HHS b0 b1
    by_cases he : er = 0
    · subst he
      have HX2 : Hid (sMake x b d = tidyD x (thenD (sAppend x b d2) sDir)) := Lib.hid (HX1.out.trans (if_neg (by simp)))
      clear HX1
      have HN : Hid (∀ b, w.heap.size ≤ b → b < wb.heap.size → ¬ More (More S w1 w) wb w2 b) := Lib.hid (fun b h1 h2 => off_set H.out HO2.out h1 h2)
      have HB2 := Lib.hid (show Boxes w2 w.heap.size (w.heap.size + 1) g x from ⟨H.out.blk HO2.out HB.out.dp (Nat.le_refl _), H.out.blk HO2.out HB.out.nm (by omega)⟩)
      have HR2 := Lib.hid (H.out.blk HO2.out HR.out (by omega))
      have hlt : w.heap.size + 1 + 1 < wb.heap.size := HR.out.lt
      obtain ⟨p, hp⟩ : ∃ p, p = w.heap.size := ⟨_, rfl⟩
      rw [← hp] at HB HR HB2 HR2 HN hlt ⊢
      clear hp
      go_wp2_with fail
      generalize hW : World.alloc w2 _ = w3
      have HK3 := Lib.hid (show Keeps w2 w3 from by rw [← hW]; exact (Keeps.refl _).alloc _)
      have HBB := Lib.hid (show Blk w3 w2.heap.size 32 #[cloV (147, #[], #[.pointer (some ⟨p, 0, none⟩), .pointer (some ⟨p + 1, 0, none⟩), .pointer (some ⟨p + 1 + 1, 0, none⟩)]), cloV (148, #[], #[.pointer (some ⟨p, 0, none⟩)])] from by
        rw [← hW]
        exact Blk.new _ _ _ rfl)
      clear hW
      have HO3 := Lib.hid (HO2.out.base HK3.out)
      have HS3 := Lib.hid ((HS.out.base H.out HK.out).base HO2.out HK3.out)
      have HST := Lib.hid (steps2_on HO3.out HBB.out (fun hy => by
          have h0 := HO2.out.mods.size
          rcases hy with hy | hy
          · have := HO2.out.lt _ hy
            omega
          · omega) (enters_of Try.func147 (by kernel_rfl) rfl _) (enters_of Try.func148 (by kernel_rfl) rfl _) (sAppend x b) sDir (k1 := k + 4) (k2 := k + 6) (by omega)
        (fun w' ho => make1_on ho (by omega) hx HS3.out hbl ⟨On.kept ho (HB2.out.dp.keeps HK3.out) (HN.out _ (Nat.le_refl _) (by omega)), On.kept ho (HB2.out.nm.keeps HK3.out) (HN.out _ (by omega) (by omega))⟩ (On.kept ho (HR2.out.keeps HK3.out) (HN.out _ (by omega) hlt)))
        (fun w' d' ho => make2_on ho (by omega) (On.kept ho (HB2.out.dp.keeps HK3.out) (HN.out _ (Nat.le_refl _) (by omega)))))
      generalize thenD (sAppend x b d2) sDir = q at *
      obtain ⟨d4, eq⟩ := q
      refine HST.out.mono ?_
      rintro e w4 ⟨c, rfl, hc, ho⟩
      have hc : c = eq := hc
      subst hc
      have HO4 := Lib.hid ho
      have HB4 := Lib.hid (show Boxes w4 p (p + 1) g x from ⟨On.kept ho (HB2.out.dp.keeps HK3.out) (HN.out _ (Nat.le_refl _) (by omega)), On.kept ho (HB2.out.nm.keeps HK3.out) (HN.out _ (by omega) (by omega))⟩)
      clear ho HST
      have b0 : w4.cell? ⟨p, 0, none⟩ = some (.pointer (some ⟨g, 0, none⟩)) := by rw [HB4.out.dp.cell]; rfl
      have b1 : w4.cell? ⟨p + 1, 0, none⟩ = some (.string (bstr x)) := by rw [HB4.out.nm.cell]; rfl
      by_cases h0 : c = 0
      · subst h0
        have HX : Hid (sMake x b d = (d4, 0)) := Lib.hid (HX2.out.trans (if_pos (.inl rfl)))
        go_wp2_with fail
        go_ret
        refine ⟨0, rfl, ?_⟩
        rw [HX.out]
        exact ⟨rfl, On.more (H.out.back HK.out (HO2.out.back HK3.out HO4.out)) (by omega)⟩
      · by_cases h11 : c = 11
        · subst h11
          have HX : Hid (sMake x b d = (d4, 11)) := Lib.hid (HX2.out.trans (if_pos (.inr rfl)))
          go_wp2_with fail
          go_ret
          refine ⟨11, rfl, ?_⟩
          rw [HX.out]
          exact ⟨rfl, On.more (H.out.back HK.out (HO2.out.back HK3.out HO4.out)) (by omega)⟩
        · have HX : Hid (sMake x b d = ((sUnlink x d4).1, c)) := Lib.hid (HX2.out.trans (if_neg (by simp [h0, h11])))
          have e1 : (c != 0) = true := by simp [h0]
          have e2 : (c != 11) = true := by simp [h11]
          have HUL := Lib.hid (sunlink_on HO4.out (by omega) x hxm)
          clear h0 h11
          go_wp2_with fail
          refine HUL.out.mono ?_
          rintro e w5 ⟨rfl, ho5⟩
          have HO5 := Lib.hid ho5
          clear ho5 HUL b0 b1
          go_wp2_with fail
          go_ret
          refine ⟨c, rfl, ?_⟩
          rw [HX.out]
          exact ⟨rfl, On.more (H.out.back HK.out (HO2.out.back HK3.out HO5.out)) (by omega)⟩
    · have HX : Hid (sMake x b d = (d2, er)) := Lib.hid (HX1.out.trans (if_pos he))
      have he' : (er != 0) = true := by simp [he]
      clear he
      go_wp2_with fail
      go_ret
      refine ⟨er, rfl, ?_⟩
      rw [HX.out]
      exact ⟨rfl, On.more (H.out.back HK.out HO2.out) (by omega)⟩
end
end Sf
end Go.Proofs.Ytchjncnolmiejaa

/- safe: Drop. -/
namespace Go.Proofs.Ytchjncnolmiejaa
open Go.RowKit
namespace Sf
open Vd
section
variable {S : Nat → Prop} {w1 w wb w2 w3 : World} {g : Nat} {d d2 : Dsk} {k k2 : Nat}
end
end Sf
end Go.Proofs.Ytchjncnolmiejaa

/- Several texts in one: SfAppend, SfClo, SfMake, TxLog, TxOpen, TxAdd. -/
import Derived.Test.YtchjncnolmiejaaK37
import Derived.Test.YtchjncnolmiejaaK21
/- safe: steps of the disk; Append. -/
namespace Go.Proofs.Ytchjncnolmiejaa
open Go.RowKit
namespace Sf
open Vd
/-- a slice that no change of S since w1 reaches -/
def Stays (S : Nat → Prop) (w1 : World) (v : Value) (l : List Value) : Prop := ∀ w2, Mods S w1 w2 → Row w2 v l
section
variable {S : Nat → Prop} {w1 w wb w' : World} {g : Nat} {d : Dsk} {k : Nat}
theorem Stays.base {v : Value} {l : List Value} (h : Stays S w1 v l) (ho : On S w1 w g d k) (hk : Keeps w wb) : Stays (More S w1 w) wb v l := fun w2 hm => h w2 (by
  have hs := hk.size
  have hs0 := ho.mods.size
  refine ho.mods.trans ((Mods.of_keeps (S := More S w1 w) hk).trans hm (fun y hy _ => hy)) (fun y hy hlt => ?_)
  rcases hy with hy | hy
  · exact hy
  · omega)
theorem Stays.now {v : Value} {l : List Value} (h : Stays S w1 v l) (ho : On S w1 w g d k) : ∀ w2, Mods (More S w1 w) w w2 → Row w2 v l := fun w2 hm => h w2 (ho.mods.step hm)
theorem On.kept (ho : On S wb w' g d k) {b : Nat} {t : TypeId} {cs : Array Value} (hb : Blk wb b t cs) (hn : ¬ S b) : Blk w' b t cs := hb.mods ho.mods hn
theorem On.more {k' : Nat} (ho : On S w1 w g d k) (h : k ≤ k') : On S w1 w g d k' := ⟨ho.dsk, ho.mods, ho.few.mono h, ho.lt⟩
theorem thenD_ok {r : Dsk × Int} {f : Dsk → Dsk × Int} (h : r.2 = 0) : thenD r f = f r.1 := if_pos h
theorem thenD_no {r : Dsk × Int} {f : Dsk → Dsk × Int} (h : r.2 ≠ 0) : thenD r f = r := if_neg h
/-- where steps stand -/
def Stp (S : Nat → Prop) (wb : World) (g : Nat) (rs : List ((Dsk × Int) × Nat)) (i : Nat) (c : Int) (w' : World) : Prop := ∃ q, rs[i]? = some q ∧ Tells S wb g q.1 q.2 c w'
theorem steps2_on (h : On S wb wb g d k) {B : Nat} {t : TypeId} {c1 c2 : Clo} (hB : Blk wb B t #[cloV c1, cloV c2]) (hn : ¬ S B) (e1 : Enters c1.1 (c1.2.1 ++ c1.2.2)) (e2 : Enters c2.1 (c2.2.1 ++ c2.2.2)) (f1 f2 : Dsk → Dsk × Int) {k1 k2 : Nat} (hk : k1 ≤ k2)
    (h1 : ∀ w', On S wb w' g d k → Calls Try.prog c1.1 (c1.2.1 ++ c1.2.2) w' (Says (Tells S wb g (f1 d) k1))) (h2 : ∀ w' d', On S wb w' g d' k1 → Calls Try.prog c2.1 (c2.2.1 ++ c2.2.2) w' (Says (Tells S wb g (f2 d') k2))) :
    Calls Try.prog 146 #[.slice (some ⟨B, 0, none⟩) 2 2] wb (Says (Tells S wb g (thenD (f1 d) f2) k2)) := by
  have := steps_any wb B [c1, c2] (by simp) (Stp S wb g [((d, 0), k), (f1 d, k1), (thenD (f1 d) f2, k2)])
    (fun i hi => by
      rcases (show i = 0 ∨ i = 1 by simp at hi; omega) with rfl | rfl
      · exact e1
      · exact e2)
    (fun i hi w' hP => by
      obtain ⟨q, -, -, ho⟩ := hP
      have hb := On.kept ho hB hn
      rcases (show i = 0 ∨ i = 1 by simp at hi; omega) with rfl | rfl <;> (rw [hb.cell]; rfl))
    (fun i hi w' hP => by
      obtain ⟨q, hq, hc, ho⟩ := hP
      rcases (show i = 0 ∨ i = 1 by simp at hi; omega) with rfl | rfl
      · simp at hq
        subst hq
        exact (h1 w' ho).mono (fun e w'' ⟨c, he, ht⟩ => ⟨c, he, _, rfl, ht⟩)
      · simp at hq
        subst hq
        exact (h2 w' _ ho).mono (fun e w'' ⟨c, he, ht⟩ => ⟨c, he, _, rfl, by
          have hc : (0 : Int) = (f1 d).2 := hc
          show Tells S wb g (thenD (f1 d) f2) k2 c w''
          rw [thenD_ok hc.symm]
          exact ht⟩))
    (fun i c w' hi hP hc => by
      obtain ⟨q, hq, hcc, ho⟩ := hP
      rcases (show i = 0 ∨ i = 1 by simp at hi; omega) with rfl | rfl
      · simp at hq
        subst hq
        have hcc : c = (f1 d).2 := hcc
        refine ⟨_, rfl, ?_⟩
        show Tells S wb g (thenD (f1 d) f2) k2 c w'
        rw [thenD_no (by rw [← hcc]; exact hc)]
        exact ⟨hcc, On.more ho hk⟩
      · exact ⟨q, hq, hcc, ho⟩)
    ⟨_, rfl, rfl, h⟩
  refine this.mono (fun e w' hs => ?_)
  obtain ⟨c, he, q, hq, ht⟩ := hs
  simp at hq
  subst hq
  exact ⟨c, he, ht⟩
theorem steps4_on (h : On S wb wb g d k) {B : Nat} {t : TypeId} {c1 c2 c3 c4 : Clo} (hB : Blk wb B t #[cloV c1, cloV c2, cloV c3, cloV c4]) (hn : ¬ S B) (e1 : Enters c1.1 (c1.2.1 ++ c1.2.2)) (e2 : Enters c2.1 (c2.2.1 ++ c2.2.2)) (e3 : Enters c3.1 (c3.2.1 ++ c3.2.2)) (e4 : Enters c4.1 (c4.2.1 ++ c4.2.2)) (f1 f2 f3 f4 : Dsk → Dsk × Int) {k1 k2 k3 k4 : Nat} (hk : k1 ≤ k2) (hk' : k2 ≤ k3) (hk'' : k3 ≤ k4)
    (h1 : ∀ w', On S wb w' g d k → Calls Try.prog c1.1 (c1.2.1 ++ c1.2.2) w' (Says (Tells S wb g (f1 d) k1))) (h2 : ∀ w' d', On S wb w' g d' k1 → Calls Try.prog c2.1 (c2.2.1 ++ c2.2.2) w' (Says (Tells S wb g (f2 d') k2)))
    (h3 : ∀ w' d', On S wb w' g d' k2 → Calls Try.prog c3.1 (c3.2.1 ++ c3.2.2) w' (Says (Tells S wb g (f3 d') k3))) (h4 : ∀ w' d', On S wb w' g d' k3 → Calls Try.prog c4.1 (c4.2.1 ++ c4.2.2) w' (Says (Tells S wb g (f4 d') k4))) :
    Calls Try.prog 146 #[.slice (some ⟨B, 0, none⟩) 4 4] wb (Says (Tells S wb g (thenD (thenD (thenD (f1 d) f2) f3) f4) k4)) := by
  have := steps_any wb B [c1, c2, c3, c4] (by simp) (Stp S wb g [((d, 0), k), (f1 d, k1), (thenD (f1 d) f2, k2), (thenD (thenD (f1 d) f2) f3, k3), (thenD (thenD (thenD (f1 d) f2) f3) f4, k4)])
    (fun i hi => by
      rcases (show i = 0 ∨ i = 1 ∨ i = 2 ∨ i = 3 by simp at hi; omega) with rfl | rfl | rfl | rfl
      · exact e1
      · exact e2
      · exact e3
      · exact e4)
    (fun i hi w' hP => by
      obtain ⟨q, -, -, ho⟩ := hP
      have hb := On.kept ho hB hn
      rcases (show i = 0 ∨ i = 1 ∨ i = 2 ∨ i = 3 by simp at hi; omega) with rfl | rfl | rfl | rfl <;> (rw [hb.cell]; rfl))
    (fun i hi w' hP => by
      obtain ⟨q, hq, hc, ho⟩ := hP
      rcases (show i = 0 ∨ i = 1 ∨ i = 2 ∨ i = 3 by simp at hi; omega) with rfl | rfl | rfl | rfl
      · simp at hq
        subst hq
        exact (h1 w' ho).mono (fun e w'' ⟨c, he, ht⟩ => ⟨c, he, _, rfl, ht⟩)
      · simp at hq
        subst hq
        exact (h2 w' _ ho).mono (fun e w'' ⟨c, he, ht⟩ => ⟨c, he, _, rfl, by
          have hc : (0 : Int) = (f1 d).2 := hc
          show Tells S wb g (thenD (f1 d) f2) k2 c w''
          rw [thenD_ok hc.symm]
          exact ht⟩)
      · simp at hq
        subst hq
        exact (h3 w' _ ho).mono (fun e w'' ⟨c, he, ht⟩ => ⟨c, he, _, rfl, by
          have hc : (0 : Int) = (thenD (f1 d) f2).2 := hc
          show Tells S wb g (thenD (thenD (f1 d) f2) f3) k3 c w''
          rw [thenD_ok (f := f3) hc.symm]
          exact ht⟩)
      · simp at hq
        subst hq
        exact (h4 w' _ ho).mono (fun e w'' ⟨c, he, ht⟩ => ⟨c, he, _, rfl, by
          have hc : (0 : Int) = (thenD (thenD (f1 d) f2) f3).2 := hc
          show Tells S wb g (thenD (thenD (thenD (f1 d) f2) f3) f4) k4 c w''
          rw [thenD_ok (f := f4) hc.symm]
          exact ht⟩))
    (fun i c w' hi hP hc => by
      obtain ⟨q, hq, hcc, ho⟩ := hP
      rcases (show i = 0 ∨ i = 1 ∨ i = 2 ∨ i = 3 by simp at hi; omega) with rfl | rfl | rfl | rfl
      · simp at hq
        subst hq
        have hcc : c = (f1 d).2 := hcc
        have hne : (f1 d).2 ≠ 0 := by rw [← hcc]; exact hc
        refine ⟨_, rfl, ?_⟩
        show Tells S wb g (thenD (thenD (thenD (f1 d) f2) f3) f4) k4 c w'
        rw [thenD_no (f := f2) hne, thenD_no (f := f3) hne, thenD_no (f := f4) hne]
        exact ⟨hcc, On.more ho (by omega)⟩
      · simp at hq
        subst hq
        have hcc : c = (thenD (f1 d) f2).2 := hcc
        have hne : (thenD (f1 d) f2).2 ≠ 0 := by rw [← hcc]; exact hc
        refine ⟨_, rfl, ?_⟩
        show Tells S wb g (thenD (thenD (thenD (f1 d) f2) f3) f4) k4 c w'
        rw [thenD_no (f := f3) hne, thenD_no (f := f4) hne]
        exact ⟨hcc, On.more ho (by omega)⟩
      · simp at hq
        subst hq
        have hcc : c = (thenD (thenD (f1 d) f2) f3).2 := hcc
        have hne : (thenD (thenD (f1 d) f2) f3).2 ≠ 0 := by rw [← hcc]; exact hc
        refine ⟨_, rfl, ?_⟩
        show Tells S wb g (thenD (thenD (thenD (f1 d) f2) f3) f4) k4 c w'
        rw [thenD_no (f := f4) hne]
        exact ⟨hcc, On.more ho (by omega)⟩
      · exact ⟨q, hq, hcc, ho⟩)
    ⟨_, rfl, rfl, h⟩
  refine this.mono (fun e w' hs => ?_)
  obtain ⟨c, he, q, hq, ht⟩ := hs
  simp at hq
  subst hq
  exact ⟨c, he, ht⟩
theorem append1_on (h : On S w1 w g d k) (hk : k ≤ 400) {p q r : Nat} {x b : Str} {bv : Value} (hx : x.length ≤ maxLen) (hs : Stays S w1 bv (b.map u8v)) (hbl : b.length ≤ 1000000000) (hb : Boxes w p q g x) (hr : Blk w r 22 #[bv]) : Calls Try.prog 151 #[.pointer (some ⟨p, 0, none⟩), .pointer (some ⟨q, 0, none⟩), .pointer (some ⟨r, 0, none⟩)] w (Says (Tells S w1 g (appendD d x b) (k + 1))) := by
  have HC := Lib.hid (append_on h hk x hx (hs.now h) hbl)
  have c0 : w.cell? ⟨p, 0, none⟩ = some (.pointer (some ⟨g, 0, none⟩)) := by rw [hb.dp.cell]; rfl
  have c1 : w.cell? ⟨q, 0, none⟩ = some (.string (bstr x)) := by rw [hb.nm.cell]; rfl
  have c2 : w.cell? ⟨r, 0, none⟩ = some bv := by rw [hr.cell]; rfl
  clear h hb hs hr
  generalize appendD d x b = r at *
  obtain ⟨d2, er⟩ := r
  go_enter Try.func151, Try.ntmps151
  go_wp2_with fail
  refine HC.out.mono ?_
  rintro e w2 ⟨rfl, ho⟩
  have HO := Lib.hid ho
  clear ho HC c0 c1 c2
  go_wp2_with fail
  go_ret
  exact ⟨er, rfl, rfl, HO.out⟩
theorem append2_on (h : On S w1 w g d k) (hk : k ≤ 390) {p q : Nat} {x : Str} (hx : x.length ≤ maxLen) (hb : Boxes w p q g x) : Calls Try.prog 152 #[.pointer (some ⟨p, 0, none⟩), .pointer (some ⟨q, 0, none⟩)] w (Says (Tells S w1 g (sSync x d) (k + 2))) := by
  have HC := Lib.hid (ssync_on h hk x hx)
  have c0 : w.cell? ⟨p, 0, none⟩ = some (.pointer (some ⟨g, 0, none⟩)) := by rw [hb.dp.cell]; rfl
  have c1 : w.cell? ⟨q, 0, none⟩ = some (.string (bstr x)) := by rw [hb.nm.cell]; rfl
  clear h hb
  generalize sSync x d = r at *
  obtain ⟨d2, er⟩ := r
  go_enter Try.func152, Try.ntmps152
  go_wp2_with fail
  refine HC.out.mono ?_
  rintro e w2 ⟨c, rfl, rfl, ho⟩
  have HO := Lib.hid ho
  clear ho HC c0 c1
  go_wp2_with fail
  go_ret
  exact ⟨_, rfl, rfl, HO.out⟩
theorem sappend_on (h : On S w1 w g d k) (hk : k ≤ 380) {x b : Str} {p0 : Option Addr} {c0 : Nat} (hx : x.length ≤ maxLen) (hs : Stays S w1 (.slice p0 b.length c0) (b.map u8v)) (hbl : b.length ≤ 1000000000) : Calls Try.prog 105 #[.pointer (some ⟨g, 0, none⟩), .string (bstr x), .slice p0 b.length c0] w (Says (Tells S w1 g (sAppend x b d) (k + 3))) := by
  have H := Lib.hid h
  have HS := Lib.hid hs
  clear h hs
  go_enter Try.func105, Try.ntmps105
  go_wp2_with fail
  generalize hW : World.alloc _ _ = wb
  have HB := Lib.hid (show Boxes wb w.heap.size (w.heap.size + 1) g x from by
    rw [← hW]
    exact ⟨(((Blk.new _ _ _ rfl).alloc _).alloc _).alloc _, ((Blk.new _ _ _ (by rw [Frm.alloc_size])).alloc _).alloc _⟩)
  have HR := Lib.hid (show Blk wb (w.heap.size + 1 + 1) 22 #[.slice p0 b.length c0] from by
    rw [← hW]
    exact (Blk.new _ _ _ (by rw [Frm.alloc_size, Frm.alloc_size])).alloc _)
  have HBB := Lib.hid (show Blk wb (w.heap.size + 1 + 1 + 1) 32 #[cloV (151, #[], #[.pointer (some ⟨w.heap.size, 0, none⟩), .pointer (some ⟨w.heap.size + 1, 0, none⟩), .pointer (some ⟨w.heap.size + 1 + 1, 0, none⟩)]), cloV (152, #[], #[.pointer (some ⟨w.heap.size, 0, none⟩), .pointer (some ⟨w.heap.size + 1, 0, none⟩)])] from by
    rw [← hW]
    exact Blk.new _ _ _ (by rw [Frm.alloc_size, Frm.alloc_size, Frm.alloc_size]))
  have HK := Lib.hid (show Keeps w wb from by rw [← hW]; exact ((((Keeps.refl _).alloc _).alloc _).alloc _).alloc _)
  clear hW
  have HST := Lib.hid (steps2_on (H.out.base HK.out) HBB.out (fun hy => by
      have h0 := H.out.mods.size
      rcases hy with hy | hy
      · have := H.out.lt _ hy
        omega
      · omega) (enters_of Try.func151 (by kernel_rfl) rfl _) (enters_of Try.func152 (by kernel_rfl) rfl _) (fun d => appendD d x b) (sSync x) (k1 := k + 1) (k2 := k + 3) (by omega)
    (fun w' ho => append1_on ho (by omega) hx (HS.out.base H.out HK.out) hbl ⟨H.out.blk ho HB.out.dp (Nat.le_refl _), H.out.blk ho HB.out.nm (by omega)⟩ (H.out.blk ho HR.out (by omega)))
    (fun w' d' ho => append2_on ho (by omega) hx ⟨H.out.blk ho HB.out.dp (Nat.le_refl _), H.out.blk ho HB.out.nm (by omega)⟩))
  refine HST.out.mono ?_
  rintro e w2 ⟨c, rfl, rfl, ho⟩
  have HO := Lib.hid (H.out.back HK.out ho)
  clear ho HST
  go_wp2_with fail
  go_ret
  exact ⟨_, rfl, rfl, HO.out⟩
end
end Sf
end Go.Proofs.Ytchjncnolmiejaa

/- safe: the closures of Make, Drop, Swap. Written by gen_sfclo.py. -/
namespace Go.Proofs.Ytchjncnolmiejaa
open Go.RowKit
namespace Sf
open Vd
section
variable {S : Nat → Prop} {w1 w : World} {g : Nat} {d : Dsk} {k : Nat}
theorem dir_any (h : On S w1 w g d k) (hk : k ≤ 390) : Calls Try.prog 149 #[.func (.func 17) #[.pointer (some ⟨g, 0, none⟩)] #[]] w (Says (Tells S w1 g (sDir d) (k + 2))) :=
  again_on h _ _ _ (enters_of Try.func17 (by kernel_rfl) rfl _) syncDirD (fun w' d' k' hk' ho => tells_of (syncDir_on ho (by omega)))
theorem make2_on (h : On S w1 w g d k) (hk : k ≤ 390) {p : Nat} (hp : Blk w p 27 #[.pointer (some ⟨g, 0, none⟩)]) : Calls Try.prog 148 #[.pointer (some ⟨p, 0, none⟩)] w (Says (Tells S w1 g (sDir d) (k + 2))) := by
  have HC := Lib.hid (dir_any h hk)
  have c0 : w.cell? ⟨p, 0, none⟩ = some (.pointer (some ⟨g, 0, none⟩)) := by rw [hp.cell]; rfl
  clear h hp
  generalize sDir d = r at *
  obtain ⟨d2, er⟩ := r
  go_enter Try.func148, Try.ntmps148
  go_wp2_with fail
  refine HC.out.mono ?_
  rintro e w2 ⟨c, rfl, rfl, ho⟩
  have HO := Lib.hid ho
  clear ho HC c0
  go_wp2_with fail
  go_ret
  exact ⟨_, rfl, rfl, HO.out⟩
theorem make1_on (h : On S w1 w g d k) (hk : k ≤ 380) {p q r : Nat} {x b : Str} {p0 : Option Addr} {c0 : Nat} (hx : x.length ≤ 100) (hs : Stays S w1 (.slice p0 b.length c0) (b.map u8v)) (hbl : b.length ≤ 1000000000) (hb : Boxes w p q g x) (hr : Blk w r 22 #[.slice p0 b.length c0]) : Calls Try.prog 147 #[.pointer (some ⟨p, 0, none⟩), .pointer (some ⟨q, 0, none⟩), .pointer (some ⟨r, 0, none⟩)] w (Says (Tells S w1 g (sAppend x b d) (k + 3))) := by
  have hxm : x.length ≤ maxLen := by unfold maxLen; omega
  have HC := Lib.hid (sappend_on h hk hxm hs hbl)
  have e0 : w.cell? ⟨p, 0, none⟩ = some (.pointer (some ⟨g, 0, none⟩)) := by rw [hb.dp.cell]; rfl
  have e1 : w.cell? ⟨q, 0, none⟩ = some (.string (bstr x)) := by rw [hb.nm.cell]; rfl
  have e2 : w.cell? ⟨r, 0, none⟩ = some (.slice p0 b.length c0) := by rw [hr.cell]; rfl
  clear h hb hs hr
  generalize sAppend x b d = r at *
  obtain ⟨d2, er⟩ := r
  go_enter Try.func147, Try.ntmps147
  go_wp2_with fail
  refine HC.out.mono ?_
  rintro e w2 ⟨c, rfl, rfl, ho⟩
  have HO := Lib.hid ho
  clear ho HC e0 e1 e2
  go_wp2_with fail
  go_ret
  exact ⟨_, rfl, rfl, HO.out⟩
end
end Sf
end Go.Proofs.Ytchjncnolmiejaa

/- safe: Make, Drop. -/
namespace Go.Proofs.Ytchjncnolmiejaa
open Go.RowKit
namespace Sf
open Vd
/-- an error that is not the power's: what was made is taken away -/
def tidyD (x : Str) (q : Dsk × Int) : Dsk × Int := if q.2 = 0 ∨ q.2 = 11 then q else ((sUnlink x q.1).1, q.2)
def sMake (x b : Str) (d : Dsk) : Dsk × Int :=
  if hasD d x then (d, 8) else if (createD d x).2 ≠ 0 then createD d x
  else tidyD x (thenD (sAppend x b (createD d x).1) sDir)
def sDrop (x : Str) (d : Dsk) : Dsk × Int := if d.off = false ∧ hasD d x = false then (d, 0) else thenD (unlinkD d x) sDir
section
variable {S : Nat → Prop} {w1 w wb w2 w3 : World} {g : Nat} {d d2 : Dsk} {k k2 : Nat}
theorem off_set (h : On S w1 w g d k) (_h2 : On (More S w1 w) wb w2 g d2 k2) {b : Nat} (h1 : w.heap.size ≤ b) (hlt : b < wb.heap.size) : ¬ More (More S w1 w) wb w2 b := fun hy => by
  have hs := h.mods.size
  rcases hy with (hy | hy) | hy
  · have := h.lt b hy
    omega
  · omega
  · omega
set_option maxRecDepth 100000 in
set_option maxHeartbeats 2000000 in
theorem smake_on (h : On S w1 w g d k) (hk : k ≤ 370) {x b : Str} {p0 : Option Addr} {c0 : Nat} (hx : x.length ≤ 100) (hs : Stays S w1 (.slice p0 b.length c0) (b.map u8v)) (hbl : b.length ≤ 1000000000) : Calls Try.prog 104 #[.pointer (some ⟨g, 0, none⟩), .string (bstr x), .slice p0 b.length c0] w (Says (Tells S w1 g (sMake x b d) (k + 8))) := by
  have H := Lib.hid h
  have HS := Lib.hid hs
  have hxm : x.length ≤ maxLen := by unfold maxLen; omega
  have HX0 : Hid (sMake x b d = if hasD d x then (d, 8) else if (createD d x).2 ≠ 0 then createD d x else tidyD x (thenD (sAppend x b (createD d x).1) sDir)) := Lib.hid rfl
  clear h hs
  go_enter Try.func104, Try.ntmps104
  go_upto_region 1 with fail
  generalize hW : World.alloc _ _ = wb
  have HB := Lib.hid (show Boxes wb w.heap.size (w.heap.size + 1) g x from by
    rw [← hW]
    exact ⟨((Blk.new _ _ _ rfl).alloc _).alloc _, (Blk.new _ _ _ (by rw [Frm.alloc_size])).alloc _⟩)
  have HR := Lib.hid (show Blk wb (w.heap.size + 1 + 1) 22 #[.slice p0 b.length c0] from by
    rw [← hW]
    exact Blk.new _ _ _ (by rw [Frm.alloc_size, Frm.alloc_size]))
  have HK := Lib.hid (show Keeps w wb from by rw [← hW]; exact (((Keeps.refl _).alloc _).alloc _).alloc _)
  clear hW
  have HOB := Lib.hid (H.out.base HK.out)
  have HHS := Lib.hid (has_on HOB.out x hxm)
  have b0 : wb.cell? ⟨w.heap.size, 0, none⟩ = some (.pointer (some ⟨g, 0, none⟩)) := by rw [HB.out.dp.cell]; rfl
  have b1 : wb.cell? ⟨w.heap.size + 1, 0, none⟩ = some (.string (bstr x)) := by rw [HB.out.nm.cell]; rfl
  cases hh : hasD d x with
  | true =>
    have HX : Hid (sMake x b d = (d, 8)) := Lib.hid (HX0.out.trans (if_pos hh))
    rw [hh] at HHS
    clear hh HX0
    go_wp2_with fail
    refine HHS.out.mono ?_
    rintro e w2 ⟨rfl, rfl⟩
    go_wp2_with fail
    go_ret
    refine ⟨8, rfl, ?_⟩
    rw [HX.out]
    exact ⟨rfl, On.more (H.out.back HK.out HOB.out) (by omega)⟩
  | false =>
    have HX1 := Lib.hid (HX0.out.trans (if_neg (by simp [hh])))
    rw [hh] at HHS
    have HCR := Lib.hid (create_on HOB.out (by omega) x (by omega))
    clear hh HX0
    generalize createD d x = r at *
    obtain ⟨d2, er⟩ := r
    go_wp2_with fail
    refine HHS.out.mono ?_
    rintro e w2 ⟨rfl, rfl⟩
    go_wp2_with fail
    refine HCR.out.mono ?_
    rintro e w2 ⟨rfl, ho2⟩
    have HO2 := Lib.hid ho2
    clear ho2 HCR HHS b0 b1
    by_cases he : er = 0
    · subst he
      have HX2 : Hid (sMake x b d = tidyD x (thenD (sAppend x b d2) sDir)) := Lib.hid (HX1.out.trans (if_neg (by simp)))
      clear HX1
      have HN : Hid (∀ b, w.heap.size ≤ b → b < wb.heap.size → ¬ More (More S w1 w) wb w2 b) := Lib.hid (fun b h1 h2 => off_set H.out HO2.out h1 h2)
      have HB2 := Lib.hid (show Boxes w2 w.heap.size (w.heap.size + 1) g x from ⟨H.out.blk HO2.out HB.out.dp (Nat.le_refl _), H.out.blk HO2.out HB.out.nm (by omega)⟩)
      have HR2 := Lib.hid (H.out.blk HO2.out HR.out (by omega))
      have hlt : w.heap.size + 1 + 1 < wb.heap.size := HR.out.lt
      obtain ⟨p, hp⟩ : ∃ p, p = w.heap.size := ⟨_, rfl⟩
      rw [← hp] at HB HR HB2 HR2 HN hlt ⊢
      clear hp
      go_wp2_with fail
      generalize hW : World.alloc w2 _ = w3
      have HK3 := Lib.hid (show Keeps w2 w3 from by rw [← hW]; exact (Keeps.refl _).alloc _)
      have HBB := Lib.hid (show Blk w3 w2.heap.size 32 #[cloV (147, #[], #[.pointer (some ⟨p, 0, none⟩), .pointer (some ⟨p + 1, 0, none⟩), .pointer (some ⟨p + 1 + 1, 0, none⟩)]), cloV (148, #[], #[.pointer (some ⟨p, 0, none⟩)])] from by
        rw [← hW]
        exact Blk.new _ _ _ rfl)
      clear hW
      have HO3 := Lib.hid (HO2.out.base HK3.out)
      have HS3 := Lib.hid ((HS.out.base H.out HK.out).base HO2.out HK3.out)
      have HST := Lib.hid (steps2_on HO3.out HBB.out (fun hy => by
          have h0 := HO2.out.mods.size
          rcases hy with hy | hy
          · have := HO2.out.lt _ hy
            omega
          · omega) (enters_of Try.func147 (by kernel_rfl) rfl _) (enters_of Try.func148 (by kernel_rfl) rfl _) (sAppend x b) sDir (k1 := k + 4) (k2 := k + 6) (by omega)
        (fun w' ho => make1_on ho (by omega) hx HS3.out hbl ⟨On.kept ho (HB2.out.dp.keeps HK3.out) (HN.out _ (Nat.le_refl _) (by omega)), On.kept ho (HB2.out.nm.keeps HK3.out) (HN.out _ (by omega) (by omega))⟩ (On.kept ho (HR2.out.keeps HK3.out) (HN.out _ (by omega) hlt)))
        (fun w' d' ho => make2_on ho (by omega) (On.kept ho (HB2.out.dp.keeps HK3.out) (HN.out _ (Nat.le_refl _) (by omega)))))
      generalize thenD (sAppend x b d2) sDir = q at *
      obtain ⟨d4, eq⟩ := q
      refine HST.out.mono ?_
      rintro e w4 ⟨c, rfl, hc, ho⟩
      have hc : c = eq := hc
      subst hc
      have HO4 := Lib.hid ho
      have HB4 := Lib.hid (show Boxes w4 p (p + 1) g x from ⟨On.kept ho (HB2.out.dp.keeps HK3.out) (HN.out _ (Nat.le_refl _) (by omega)), On.kept ho (HB2.out.nm.keeps HK3.out) (HN.out _ (by omega) (by omega))⟩)
      clear ho HST
      have b0 : w4.cell? ⟨p, 0, none⟩ = some (.pointer (some ⟨g, 0, none⟩)) := by rw [HB4.out.dp.cell]; rfl
      have b1 : w4.cell? ⟨p + 1, 0, none⟩ = some (.string (bstr x)) := by rw [HB4.out.nm.cell]; rfl
      by_cases h0 : c = 0
      · subst h0
        have HX : Hid (sMake x b d = (d4, 0)) := Lib.hid (HX2.out.trans (if_pos (.inl rfl)))
        go_wp2_with fail
        go_ret
        refine ⟨0, rfl, ?_⟩
        rw [HX.out]
        exact ⟨rfl, On.more (H.out.back HK.out (HO2.out.back HK3.out HO4.out)) (by omega)⟩
      · by_cases h11 : c = 11
        · subst h11
          have HX : Hid (sMake x b d = (d4, 11)) := Lib.hid (HX2.out.trans (if_pos (.inr rfl)))
          go_wp2_with fail
          go_ret
          refine ⟨11, rfl, ?_⟩
          rw [HX.out]
          exact ⟨rfl, On.more (H.out.back HK.out (HO2.out.back HK3.out HO4.out)) (by omega)⟩
        · have HX : Hid (sMake x b d = ((sUnlink x d4).1, c)) := Lib.hid (HX2.out.trans (if_neg (by simp [h0, h11])))
          have e1 : (c != 0) = true := by simp [h0]
          have e2 : (c != 11) = true := by simp [h11]
          have HUL := Lib.hid (sunlink_on HO4.out (by omega) x hxm)
          clear h0 h11
          go_wp2_with fail
          refine HUL.out.mono ?_
          rintro e w5 ⟨rfl, ho5⟩
          have HO5 := Lib.hid ho5
          clear ho5 HUL b0 b1
          go_wp2_with fail
          go_ret
          refine ⟨c, rfl, ?_⟩
          rw [HX.out]
          exact ⟨rfl, On.more (H.out.back HK.out (HO2.out.back HK3.out HO5.out)) (by omega)⟩
    · have HX : Hid (sMake x b d = (d2, er)) := Lib.hid (HX1.out.trans (if_pos he))
      have he' : (er != 0) = true := by simp [he]
      clear he
      go_wp2_with fail
      go_ret
      refine ⟨er, rfl, ?_⟩
      rw [HX.out]
      exact ⟨rfl, On.more (H.out.back HK.out HO2.out) (by omega)⟩
end
end Sf
end Go.Proofs.Ytchjncnolmiejaa

/- A log in memory; txlog.Open, Add, Len, Whole, Name. -/
namespace Go.Proofs.Ytchjncnolmiejaa
open Go.RowKit
namespace Txl
open Vd
/-- a disk beside a law's world; the blocks L are none of its -/
structure One (L : List Nat) (W w : World) (g : Nat) (d : Dsk) (k : Nat) (S : Nat → Prop) : Prop where
  dsk : DiskAt w S g d
  ls : ∀ y, S y → W.heap.size ≤ y ∧ y < w.heap.size ∧ y ∉ L
  ll : ∀ y ∈ L, y < w.heap.size
  keep : Keeps W w
  few : Few d k
def OneAt (L : List Nat) (W w : World) (g : Nat) (d : Dsk) (k : Nat) : Prop := ∃ S, One L W w g d k S
section
variable {L : List Nat} {W w wb w' : World} {g : Nat} {d d' : Dsk} {k k' : Nat} {S : Nat → Prop}
theorem One.keeps (h : One L W w g d k S) (hk : Keeps w w') : One L W w' g d k S :=
  ⟨h.dsk.keeps hk, fun y hy => ⟨(h.ls y hy).1, Nat.lt_of_lt_of_le (h.ls y hy).2.1 hk.size, (h.ls y hy).2.2⟩, fun y hy => Nat.lt_of_lt_of_le (h.ll y hy) hk.size, h.keep.trans hk, h.few⟩
theorem OneAt.keeps (h : OneAt L W w g d k) (hk : Keeps w w') : OneAt L W w' g d k := let ⟨_, h⟩ := h; ⟨_, h.keeps hk⟩
theorem OneAt.more (h : OneAt L W w g d k) (hk : k ≤ k') : OneAt L W w g d k' := let ⟨_, h⟩ := h; ⟨_, { h with few := h.few.mono hk }⟩
theorem OneAt.kp (h : OneAt L W w g d k) : Keeps W w := let ⟨_, h⟩ := h; h.keep
theorem OneAt.fw (h : OneAt L W w g d k) : Few d k := let ⟨_, h⟩ := h; h.few
theorem OneAt.lt (h : OneAt L W w g d k) : ∀ y ∈ L, y < w.heap.size := let ⟨_, h⟩ := h; h.ll
theorem OneAt.aside (h : OneAt L W w g d k) (hk : Keeps w w') {b : Nat} (hb : w.heap.size ≤ b) (hb' : b < w'.heap.size) : OneAt (b :: L) W w' g d k := by
  obtain ⟨S, h⟩ := h
  have h2 := h.keeps hk
  refine ⟨S, { h2 with ls := fun y hy => ⟨(h2.ls y hy).1, (h2.ls y hy).2.1, fun hh => ?_⟩, ll := fun y hy => ?_ }⟩
  · have := (h.ls y hy).2.1
    rcases List.mem_cons.1 hh with e | e
    · omega
    · exact (h.ls y hy).2.2 e
  · rcases List.mem_cons.1 hy with rfl | e
    · exact hb'
    · exact h2.ll y e
theorem OneAt.drop {L' : List Nat} (h : OneAt L W w g d k) (hl : ∀ y ∈ L', y ∈ L) : OneAt L' W w g d k := by
  obtain ⟨S, h⟩ := h
  exact ⟨S, { h with ls := fun y hy => ⟨(h.ls y hy).1, (h.ls y hy).2.1, fun hh => (h.ls y hy).2.2 (hl y hh)⟩, ll := fun y hy => h.ll y (hl y hy) }⟩
theorem One.on (h : One L W w g d k S) : On S w w g d k := ⟨h.dsk.wide (fun y hy => .inl hy), Mods.refl _ _, h.few, fun y hy => (h.ls y hy).2.1⟩
/-- what a call leaves -/
def OneRest (L : List Nat) (W w : World) (g : Nat) (d : Dsk) (k : Nat) (w' : World) : Prop := OneAt L W w' g d k ∧ Mods (fun y => W.heap.size ≤ y ∧ y ∉ L) w w'
theorem One.rest (h : One L W w g d k S) (ho : On S w w' g d' k') : OneRest L W w g d' k' w' := by
  have hs := ho.mods.size
  have hk := h.keep.size
  refine ⟨⟨More S w w', ho.dsk, fun y hy => ?_, fun y hy => Nat.lt_of_lt_of_le (h.ll y hy) hs, ho.mods.keeps h.keep (fun y hy => (h.ls y hy).1), ho.few⟩, ho.mods.mono (fun y hy => ⟨(h.ls y hy).1, (h.ls y hy).2.2⟩)⟩
  rcases hy with hy | hy
  · have := h.ls y hy
    exact ⟨this.1, by omega, this.2.2⟩
  · exact ⟨by omega, hy.2, fun hh => by have := h.ll y hh; omega⟩
theorem At.one (h : At W w g d k) : OneAt [] W w g d k := ⟨_, h.dsk, fun y hy => ⟨hy.1, hy.2, List.not_mem_nil⟩, fun y hy => absurd hy (List.not_mem_nil), h.keep, h.few⟩
theorem OneAt.read (h : OneAt L W w g d k) (x : Str) (hx : x.length ≤ maxLen) : Calls Try.prog 23 #[.pointer (some ⟨g, 0, none⟩), .string (bstr x)] w (Vd.ReadDid w (textD d x)) := by
  obtain ⟨S, h⟩ := h
  exact Vd.read_any w h.dsk x hx
theorem OneAt.make (h : OneAt L W w g d k) (hk : k ≤ 370) {x b : Str} {p0 : Option Addr} {c0 : Nat} (hx : x.length ≤ 100) (hs : ∀ T w', (∀ y, T y → W.heap.size ≤ y ∧ y ∉ L) → Mods T w w' → Row w' (.slice p0 b.length c0) (b.map u8v)) (hbl : b.length ≤ 1000000000) : Calls Try.prog 104 #[.pointer (some ⟨g, 0, none⟩), .string (bstr x), .slice p0 b.length c0] w fun e w' => e = .returned (.int .i64 (Sf.sMake x b d).2) ∧ OneRest L W w g (Sf.sMake x b d).1 (k + 8) w' := by
  obtain ⟨S, h⟩ := h
  refine (Sf.smake_on h.on hk hx (fun w2 hm => hs S w2 (fun y hy => ⟨(h.ls y hy).1, (h.ls y hy).2.2⟩) hm) hbl).mono ?_
  rintro e w' ⟨c, rfl, rfl, ho⟩
  exact ⟨rfl, h.rest ho⟩
theorem OneAt.append (h : OneAt L W w g d k) (hk : k ≤ 380) {x b : Str} {p0 : Option Addr} {c0 : Nat} (hx : x.length ≤ maxLen) (hs : ∀ T w', (∀ y, T y → W.heap.size ≤ y ∧ y ∉ L) → Mods T w w' → Row w' (.slice p0 b.length c0) (b.map u8v)) (hbl : b.length ≤ 1000000000) : Calls Try.prog 105 #[.pointer (some ⟨g, 0, none⟩), .string (bstr x), .slice p0 b.length c0] w fun e w' => e = .returned (.int .i64 (Sf.sAppend x b d).2) ∧ OneRest L W w g (Sf.sAppend x b d).1 (k + 3) w' := by
  obtain ⟨S, h⟩ := h
  refine (Sf.sappend_on h.on hk hx (fun w2 hm => hs S w2 (fun y hy => ⟨(h.ls y hy).1, (h.ls y hy).2.2⟩) hm) hbl).mono ?_
  rintro e w' ⟨c, rfl, rfl, ho⟩
  exact ⟨rfl, h.rest ho⟩
end
/-- a log: its disk, its name, how many transactions it has, whether that is all -/
def logA (g : Nat) (x : Str) (n : Nat) (whole : Bool) : Array Value := #[.pointer (some ⟨g, 0, none⟩), .string (bstr x), .int .i64 (n : Int), .bool whole]
theorem len_any (w : World) {b g : Nat} {x : Str} {n : Nat} {wh : Bool} (h : Blk w b 172 (logA g x n wh)) : Calls Try.prog 95 #[.pointer (some ⟨b, 0, none⟩)] w fun e w' => e = .returned (.int .i64 (n : Int)) ∧ w = w' := by
  have c2 : w.cell? ⟨b, 2, none⟩ = some (.int .i64 (n : Int)) := by rw [h.cell]; rfl
  clear h
  go_enter Try.func95, Try.ntmps95
  go_wp2_with fail
  go_ret
  exact ⟨rfl, rfl⟩
theorem whole_any (w : World) {b g : Nat} {x : Str} {n : Nat} {wh : Bool} (h : Blk w b 172 (logA g x n wh)) : Calls Try.prog 96 #[.pointer (some ⟨b, 0, none⟩)] w fun e w' => e = .returned (.bool wh) ∧ w = w' := by
  have c2 : w.cell? ⟨b, 3, none⟩ = some (.bool wh) := by rw [h.cell]; rfl
  clear h
  go_enter Try.func96, Try.ntmps96
  go_wp2_with fail
  go_ret
  exact ⟨rfl, rfl⟩
theorem name_any (w : World) {b g : Nat} {x : Str} {n : Nat} {wh : Bool} (h : Blk w b 172 (logA g x n wh)) : Calls Try.prog 97 #[.pointer (some ⟨b, 0, none⟩)] w fun e w' => e = .returned (.string (bstr x)) ∧ w = w' := by
  have c2 : w.cell? ⟨b, 1, none⟩ = some (.string (bstr x)) := by rw [h.cell]; rfl
  clear h
  go_enter Try.func97, Try.ntmps97
  go_wp2_with fail
  go_ret
  exact ⟨rfl, rfl⟩
/-- what Open makes of a disk: the disk, the error, the bytes that are replayed -/
def openD (d : Dsk) (x : Str) : Dsk × Int × Str :=
  if (textD d x).2 = 7 then ((Sf.sMake x [] d).1, (Sf.sMake x [] d).2, (textD d x).1) else (d, (textD d x).2, (textD d x).1)
def rep (s : Str) : List (Nat × List Item) × Int := replayF (Frm.rowR s).1
def OpenDid (L : List Nat) (W w : World) (g : Nat) (x : Str) (r : Dsk × Int × Str) (k : Nat) (e : Ending) (w' : World) : Prop :=
  if r.2.1 = 0 then ∃ b tv X, e = .returned (.tuple #[.pointer (some ⟨b, 0, none⟩), tv, .int .i64 0]) ∧ w.heap.size ≤ b ∧ OneAt (b :: L) W w' g r.1 k ∧ Mods (fun y => W.heap.size ≤ y ∧ y ∉ L) w w' ∧ Blk w' b 172 (logA g x (rep r.2.2).1.length (decide ((rep r.2.2).2 = (r.2.2.length : Int)))) ∧ TxsAt w' w.heap.size tv X ∧ X.map txP = (rep r.2.2).1
  else e = .returned (.tuple #[.pointer none, .slice none 0 0, .int .i64 r.2.1]) ∧ OneRest L W w g r.1 k w'
end Txl
end Go.Proofs.Ytchjncnolmiejaa

/- txlog.Open. -/
namespace Go.Proofs.Ytchjncnolmiejaa
open Go.RowKit
namespace Txl
open Vd
theorem row_none {w w' : World} {v : Value} (h : Row w v []) : Row w' v [] := by
  rcases h with ⟨a0, cap, h1, h2, h3, h4⟩ | ⟨b, off, cap, hv, h1, h2, -⟩
  · exact .inl ⟨a0, cap, h1, h2, h3, h4⟩
  · exact .inr ⟨b, off, cap, hv, h1, h2, fun i x hx => by simp at hx⟩
theorem openDid_no {L : List Nat} {W w w' : World} {g : Nat} {x : Str} {r : Dsk × Int × Str} {k : Nat} (hr : r.2.1 ≠ 0) (h : OneRest L W w g r.1 k w') : OpenDid L W w g x r k (.returned (.tuple #[.pointer none, .slice none 0 0, .int .i64 r.2.1])) w' := by
  unfold OpenDid
  rw [if_neg hr]
  exact ⟨rfl, h⟩
theorem openDid_yes {L : List Nat} {W w w' : World} {g : Nat} {x : Str} {r : Dsk × Int × Str} {k b : Nat} {tv : Value} {X : List TxX} {wh : Bool} (hr : r.2.1 = 0) (h1 : w.heap.size ≤ b) (h2 : OneAt (b :: L) W w' g r.1 k) (h3 : Mods (fun y => W.heap.size ≤ y ∧ y ∉ L) w w') (h4 : Blk w' b 172 #[.pointer (some ⟨g, 0, none⟩), .string (bstr x), .int .i64 (X.length : Int), .bool wh]) (hw : wh = decide ((rep r.2.2).2 = (r.2.2.length : Int))) (h5 : TxsAt w' w.heap.size tv X) (h6 : X.map txP = (rep r.2.2).1) : OpenDid L W w g x r k (.returned (.tuple #[.pointer (some ⟨b, 0, none⟩), tv, .int .i64 0])) w' := by
  unfold OpenDid
  rw [if_pos hr]
  have hl : X.length = (rep r.2.2).1.length := by rw [← h6, List.length_map]
  refine ⟨b, tv, X, rfl, h1, h2, h3, ?_, h5, h6⟩
  unfold logA
  rw [← hl, ← hw]
  exact h4
theorem TxsAt.lower {w : World} {base b2 : Nat} {v : Value} {X : List TxX} (h : TxsAt w base v X) (hb : b2 ≤ base) : TxsAt w b2 v X :=
  ⟨⟨h.own.1, h.own.2.elim Or.inl (fun ⟨q, cap, cur, hv, hq, r⟩ => Or.inr ⟨q, cap, cur, hv, Nat.le_trans hb hq, r⟩)⟩, fun x hx => (h.its x hx).lower hb, fun x hx y hy => (h.pay x hx y hy).lower hb⟩
set_option maxRecDepth 100000 in
set_option maxHeartbeats 4000000 in
theorem open_any {L : List Nat} {W w : World} {g : Nat} {d : Dsk} {k : Nat} (h : OneAt L W w g d k) (hk : k ≤ 360) (x : Str) (hx : x.length ≤ 100) : Calls Try.prog 40 #[.pointer (some ⟨g, 0, none⟩), .string (bstr x)] w (OpenDid L W w g x (openD d x) (k + 8)) := by
  have H := Lib.hid h
  have hxm : x.length ≤ maxLen := by unfold maxLen; omega
  have hsl0 : (textD d x).1.length ≤ 1000000000 := by
    obtain ⟨S, h⟩ := h
    obtain ⟨_, _, _, _, _, hd⟩ := h.dsk
    exact textD_len hd.fit x
  have HRD := Lib.hid (h.read x hxm)
  have HX0 : Hid (openD d x = if (textD d x).2 = 7 then ((Sf.sMake x [] d).1, (Sf.sMake x [] d).2, (textD d x).1) else (d, (textD d x).2, (textD d x).1)) := Lib.hid rfl
  have HS0 := Lib.hid (show (textD d x).2 = 7 → (textD d x).1 = [] from fun e => by
    cases ho : d.off with
    | true => simp [textD, ho]
    | false =>
      cases hl : Vd.look d.seen x with
      | none => simp [textD, ho, hl]
      | some i => simp [textD, ho, hl] at e)
  have HMK := Lib.hid (fun w' (hk' : Keeps w w') => (H.out.keeps hk').make (x := x) (b := []) (p0 := none) (c0 := 0) (by omega) hx (fun T w2 _ _ => .inl ⟨none, 0, rfl, rfl, Nat.zero_le _, fun _ => rfl⟩) (by simp))
  unfold Vd.ReadDid at HRD
  clear h
  generalize textD d x = r at *
  obtain ⟨s, er⟩ := r
  generalize Sf.sMake x [] d = mk at *
  obtain ⟨d2, e2⟩ := mk
  have hsl : s.length ≤ 549755813887 := by have : s.length ≤ 1000000000 := hsl0; omega
  simp only at HX0 HS0 HRD HMK
  clear hsl0
  go_enter Try.func40, Try.ntmps40
  go_wp2_with fail
  refine HRD.out.mono ?_
  rintro e w1 ⟨bv, rfl, hrow, hk1⟩
  obtain ⟨pb, cb, rfl, -, -⟩ := hrow.formB
  have HROW := Lib.hid hrow
  have HK1 := Lib.hid hk1
  clear hrow hk1 HRD
  by_cases e7 : er = 7
  · have HX := Lib.hid (HX0.out.trans (if_pos e7))
    have HS := Lib.hid (HS0.out e7)
    have t7 : (er == 7) = true := by simp [e7]
    clear HX0 HS0 e7
    go_wp2_with fail
    refine (HMK.out _ HK1.out).mono ?_
    rintro e w2 ⟨rfl, ho, hm⟩
    have HO := Lib.hid ho
    have HM := Lib.hid ((Mods.of_keeps HK1.out).trans hm (T := fun y => W.heap.size ≤ y ∧ y ∉ L) (S := fun y => W.heap.size ≤ y ∧ y ∉ L) (fun y hy _ => hy))
    clear ho hm HMK
    by_cases e0 : e2 = 0
    · subst e0
      have HROW2 := Lib.hid (show Row w2 (.slice pb s.length cb) (s.map u8v) from by
        have := HROW.out
        rw [HS.out] at this ⊢
        exact row_none this)
      have HRP := Lib.hid (replay_any (.slice pb s.length cb) s w2 HROW2.out hsl)
      have HRS : Hid (rep s = replayF (Frm.rowR s).1) := Lib.hid rfl
      rw [← HRS.out] at HRP
      unfold ReplayDid at HRP
      go_wp2_with fail
      refine HRP.out.mono ?_
      rintro e w5 ⟨tv, X, rfl, ht, hX, hk5⟩
      have HT5 := Lib.hid ht
      have HX5 := Lib.hid hX
      have HK5 := Lib.hid hk5
      obtain ⟨pt, ct, rfl, -, -⟩ := Frm.ownsRow_form ht.own
      have hXl : X.length = (rep s).1.length := by rw [← hX, List.length_map]
      have HXL := Lib.hid hXl
      obtain ⟨wh, hwh⟩ : ∃ wh, wh = decide ((rep s).2 = (s.length : Int)) := ⟨_, rfl⟩
      have HWH := Lib.hid hwh
      have hbe : ((rep s).2 == (s.length : Int)) = wh := by
        rw [hwh, Bool.eq_iff_iff]
        simp
      clear ht hX hk5 HRP hXl hwh
      go_wp2_with fail
      refine bodyPost_ret (v := .tuple #[.pointer (some ⟨w5.heap.size, 0, none⟩), .slice pt X.length ct, .int .i64 0]) (by simp [results, Try.results40, go_sem]) rfl ?_
      have hK6 : Keeps w2 (w5.alloc (.cells #[.pointer (some ⟨g, 0, none⟩), .string (bstr x), .int .i64 (X.length : Int), .bool wh] 172)) := HK5.out.alloc _
      have hB6 := Blk.new w5 172 #[.pointer (some ⟨g, 0, none⟩), .string (bstr x), .int .i64 (X.length : Int), .bool wh] rfl
      have hsz := HK5.out.size
      rw [HX.out]
      have hsm := HM.out.size
      refine openDid_yes rfl (by omega) (HO.out.aside hK6 hsz hB6.lt) (HM.out.then hK6) hB6 HWH.out ((HT5.out.keeps ((Keeps.refl _).alloc _)).lower hsm) HX5.out

    · have t0 : (e2 != 0) = true := by simp [e0]
      have HE0 := Lib.hid e0
      clear e0
      go_wp2_with fail
      refine bodyPost_ret (v := .tuple #[.pointer none, .slice none 0 0, .int .i64 e2]) (by simp [results, Try.results40, go_sem]) rfl ?_
      rw [HX.out]
      exact openDid_no HE0.out ⟨HO.out, HM.out⟩
  · have HX := Lib.hid (HX0.out.trans (if_neg e7))
    have t7 : (er == 7) = false := by simp [e7]
    clear HX0 HS0 e7 HMK
    by_cases e0 : er = 0
    · subst e0
      have HRP := Lib.hid (replay_any (.slice pb s.length cb) s w1 HROW.out hsl)
      have HRS : Hid (rep s = replayF (Frm.rowR s).1) := Lib.hid rfl
      rw [← HRS.out] at HRP
      unfold ReplayDid at HRP
      go_wp2_with fail
      refine HRP.out.mono ?_
      rintro e w5 ⟨tv, X, rfl, ht, hX, hk5⟩
      have HT5 := Lib.hid ht
      have HX5 := Lib.hid hX
      have HK5 := Lib.hid hk5
      obtain ⟨pt, ct, rfl, -, -⟩ := Frm.ownsRow_form ht.own
      have hXl : X.length = (rep s).1.length := by rw [← hX, List.length_map]
      have HXL := Lib.hid hXl
      obtain ⟨wh, hwh⟩ : ∃ wh, wh = decide ((rep s).2 = (s.length : Int)) := ⟨_, rfl⟩
      have HWH := Lib.hid hwh
      have hbe : ((rep s).2 == (s.length : Int)) = wh := by
        rw [hwh, Bool.eq_iff_iff]
        simp
      clear ht hX hk5 HRP hXl hwh
      go_wp2_with fail
      refine bodyPost_ret (v := .tuple #[.pointer (some ⟨w5.heap.size, 0, none⟩), .slice pt X.length ct, .int .i64 0]) (by simp [results, Try.results40, go_sem]) rfl ?_
      have hK6 : Keeps w1 (w5.alloc (.cells #[.pointer (some ⟨g, 0, none⟩), .string (bstr x), .int .i64 (X.length : Int), .bool wh] 172)) := HK5.out.alloc _
      have hB6 := Blk.new w5 172 #[.pointer (some ⟨g, 0, none⟩), .string (bstr x), .int .i64 (X.length : Int), .bool wh] rfl
      have hsz := HK5.out.size
      rw [HX.out]
      refine openDid_yes rfl (by have := HK1.out.size; omega) (((H.out.keeps HK1.out).more (by omega)).aside hK6 hsz hB6.lt) (Mods.of_keeps (HK1.out.trans hK6)) hB6 HWH.out ((HT5.out.keeps ((Keeps.refl _).alloc _)).lower HK1.out.size) HX5.out

    · have t0 : (er != 0) = true := by simp [e0]
      have HE0 := Lib.hid e0
      clear e0
      go_wp2_with fail
      refine bodyPost_ret (v := .tuple #[.pointer none, .slice none 0 0, .int .i64 er]) (by simp [results, Try.results40, go_sem]) rfl ?_
      rw [HX.out]
      exact openDid_no HE0.out ⟨(H.out.keeps HK1.out).more (by omega), Mods.of_keeps HK1.out⟩
end Txl
end Go.Proofs.Ytchjncnolmiejaa

/- txlog.Add. -/
namespace Go.Proofs.Ytchjncnolmiejaa
open Go.RowKit
namespace Txl
open Vd
def addD (d : Dsk) (x : Str) (n : Nat) (wh : Bool) (items : List Item) : (Dsk × Nat) × Int :=
  if wh = false then ((d, n), 12)
  else if txE ((n : Int) + 1) items ≠ 0 then ((d, n), txE ((n : Int) + 1) items)
  else if (Sf.sAppend x (txL ((n : Int) + 1) items) d).2 = 0 then (((Sf.sAppend x (txL ((n : Int) + 1) items) d).1, n + 1), 0)
  else (((Sf.sAppend x (txL ((n : Int) + 1) items) d).1, n), (Sf.sAppend x (txL ((n : Int) + 1) items) d).2)
theorem txE_items {n : Int} {items : List Item} (h : txE n items = 0) : items.length ≤ 1000 ∧ ∀ x ∈ items, x.length ≤ 4096 := by
  unfold txE at h
  split at h
  · cases h
  · split at h
    · cases h
    · split at h
      · cases h
      · rename_i h1 h2 h3
        refine ⟨by omega, fun x hx => ?_⟩
        refine Nat.le_of_not_lt (fun hb => h3 (List.any_eq_true.2 ⟨x, hx, by simpa [bigB] using hb⟩))
theorem txL_len {n : Int} {items : List Item} : (txL n items).length ≤ 9000000 := by
  unfold txL
  split
  · rename_i h
    obtain ⟨h1, h2⟩ := txE_items h
    have h3 := itemsL_le h2
    have h4 := headL_le n.toNat items.length
    have h5 := endL_le n.toNat
    have h6 : items.length * 8211 ≤ 1000 * 8211 := Nat.mul_le_mul_right _ h1
    simp only [List.length_append]
    omega
  · simp
/-- what Add leaves -/
def AddDid (L : List Nat) (W w : World) (g b : Nat) (x : Str) (wh : Bool) (r : (Dsk × Nat) × Int) (k : Nat) (e : Ending) (w' : World) : Prop := e = .returned (.int .i64 r.2) ∧ OneAt L W w' g r.1.1 k ∧ Blk w' b 172 (logA g x r.1.2 wh) ∧ Mods (fun y => W.heap.size ≤ y ∧ (y ∉ L ∨ y = b)) w w'
set_option maxRecDepth 100000 in
set_option maxHeartbeats 4000000 in
theorem add_any {L : List Nat} {W w : World} {g : Nat} {d : Dsk} {k b n : Nat} {x : Str} {wh : Bool} (h : OneAt L W w g d k) (hk : k ≤ 380) (hb : b ∈ L) (hbW : W.heap.size ≤ b) (hB : Blk w b 172 (logA g x n wh)) (hn : n ≤ 1000000000000) (hx : x.length ≤ maxLen) (v : Value) (l : List (Value × List UInt8)) (hr : Row w v (l.map (·.1))) (hp : ∀ y ∈ l, Frm.payOk w y) : Calls Try.prog 41 #[.pointer (some ⟨b, 0, none⟩), v] w (AddDid L W w g b x wh (addD d x n wh (l.map (·.2))) (k + 3)) := by
  have H := Lib.hid h
  have HB := Lib.hid hB
  have HL := Lib.hid hb
  have hcn : w.cell? ⟨b, 2, none⟩ = some (.int .i64 (n : Int)) := by rw [hB.cell]; rfl
  have hcw : w.cell? ⟨b, 3, none⟩ = some (.bool wh) := by rw [hB.cell]; rfl
  have HBY := Lib.hid (txBytes_any ((n : Int) + 1) (by omega) v l w hr hp)
  obtain ⟨pv, cv, rfl, -, -⟩ := hr.form
  rw [List.length_map] at HBY ⊢
  have HX0 : Hid (addD d x n wh (l.map (·.2)) = if wh = false then ((d, n), 12) else if txE ((n : Int) + 1) (l.map (·.2)) ≠ 0 then ((d, n), txE ((n : Int) + 1) (l.map (·.2))) else if (Sf.sAppend x (txL ((n : Int) + 1) (l.map (·.2))) d).2 = 0 then (((Sf.sAppend x (txL ((n : Int) + 1) (l.map (·.2))) d).1, n + 1), 0) else (((Sf.sAppend x (txL ((n : Int) + 1) (l.map (·.2))) d).1, n), (Sf.sAppend x (txL ((n : Int) + 1) (l.map (·.2))) d).2)) := Lib.hid rfl
  have HTL := Lib.hid (txL_len (n := (n : Int) + 1) (items := l.map (·.2)))
  generalize addD d x n wh (l.map (·.2)) = r at *
  clear h hB hb hr hp
  cases wh with
  | false =>
    have HX := Lib.hid (HX0.out.trans (if_pos rfl))
    go_enter Try.func41, Try.ntmps41
    go_wp2_with fail
    go_ret
    rw [HX.out]
    exact ⟨rfl, H.out.more (by omega), HB.out, Mods.refl _ _⟩
  | true =>
    have HX1 := Lib.hid (HX0.out.trans (if_neg (by simp)))
    generalize txL ((n : Int) + 1) (l.map (·.2)) = tl at *
    generalize txE ((n : Int) + 1) (l.map (·.2)) = te at *
    unfold Frm.RetSI at HBY
    clear HX0
    go_enter Try.func41, Try.ntmps41
    go_wp2_with fail
    refine HBY.out.mono ?_
    rintro e w1 ⟨tv, rfl, hown, hk1⟩
    have HO := Lib.hid hown
    have HK1 := Lib.hid hk1
    have HB1 := Lib.hid (HB.out.keeps hk1)
    have H1 := Lib.hid (H.out.keeps hk1)
    obtain ⟨pt, ct, rfl, -, -⟩ := hown.row.formB
    clear hown hk1 HBY hcn hcw
    by_cases he : te = 0
    · have HX2 := Lib.hid (HX1.out.trans (if_neg (by simp [he])))
      have t0 : (te == 0) = true := by simp [he]
      -- the bytes' block, if there is one, is none of the disk's
      have HSA : Hid (∃ L1, (∀ y ∈ L, y ∈ L1) ∧ OneAt L1 W w1 g d k ∧ ∀ T w', (∀ y, T y → W.heap.size ≤ y ∧ y ∉ L1) → Mods T w1 w' → Row w' (.slice pt tl.length ct) (tl.map u8v)) := Lib.hid (by
        cases pt with
        | none =>
          refine ⟨L, fun y hy => hy, H1.out, fun T w' _ _ => ?_⟩
          rcases HO.out.row with h | ⟨_, _, _, hv, -⟩
          · exact .inl h
          · simp at hv
        | some a =>
          obtain ⟨q, qo, qs⟩ := a
          have hq : w.heap.size ≤ q := HO.out.base q (by simp [Value.ownBlock])
          have hq2 : q < w1.heap.size := HO.out.block_lt q (by simp [Value.ownBlock])
          obtain ⟨q3, cap3, hv3, -⟩ := (HO.out.length_lt).resolve_left (fun hh => by simp at hh)
          simp only [Value.slice.injEq, Option.some.injEq, Addr.mk.injEq] at hv3
          obtain ⟨⟨rfl, rfl, rfl⟩, -, -⟩ := hv3
          exact ⟨q :: L, fun y hy => List.mem_cons_of_mem _ hy, H.out.aside HK1.out hq hq2, fun T w' hT hm => row_modsB HO.out.row hm (fun hh => (hT _ hh).2 (List.mem_cons_self ..))⟩)
      obtain ⟨L1, hL1, hA1, hRow⟩ := HSA.out
      have HL1 := Lib.hid hL1
      have HA1 := Lib.hid hA1
      have HRW := Lib.hid hRow
      clear hL1 hA1 hRow HSA he
      go_upto_region 5 with fail
      have HAC := Lib.hid ((HA1.out.keeps (Keeps.refl w1).drew).append (x := x) (b := tl) (p0 := pt) (c0 := ct) (by omega) hx (fun T w' hT hm => HRW.out T w' hT (show Mods T w1 w' from (Mods.refl T w1).drew.trans hm (fun y hy _ => hy))) (by have := HTL.out; omega))
      have HMD := Lib.hid (show Mods (fun y => W.heap.size ≤ y ∧ (y ∉ L ∨ y = b)) w w1.drew from Mods.of_keeps (HK1.out.trans (Keeps.refl w1).drew))
      generalize Sf.sAppend x tl d = sa at *
      obtain ⟨d3, e3⟩ := sa
      simp only at HAC HX2
      refine wp_region_noPanic ?_
      refine wp_region_held_drew (S := fun w' => Mods (fun y => y ≠ b) w1 w') (by kernel_rfl) ((Mods.refl (fun y => y ≠ b) w1).drew) (fun _ => ?_)
      have hHeld : Mods (fun y => y ≠ b) w1 (w1).drew := (Mods.refl (fun y => y ≠ b) w1).drew
      generalize World.drew w1 = xs at *
      refine wpAnyH_take (i := 0) (v := ?vv1) (by rfl) (by kernel_rfl) (by kernel_rfl) (by kernel_rfl) (by intro _ _ _ h; exact h) (Or.inl ⟨by kernel_rfl, ?hy1⟩) (by assumption) ?rest1
      case hy1 =>
        intro w' hSw
        have hSw : Mods (fun y => y ≠ b) w1 w' := hSw
        clear hSw
        go_simp
        try with_reducible rfl
      change wpAnyH _ _ _ _ _ _ _ (Act.put _ (some 24) _) _
      try simp only [Act.put, List.setIfInBounds_toArray, List.set_cons_zero, List.set_cons_succ]
      refine wpAnyH_take (i := 1) (v := ?vv2) (by rfl) (by kernel_rfl) (by kernel_rfl) (by kernel_rfl) (by intro _ _ _ h; exact h) (Or.inl ⟨by kernel_rfl, ?hy2⟩) (by assumption) ?rest2
      case hy2 =>
        intro w' hSw
        have hSw : Mods (fun y => y ≠ b) w1 w' := hSw
        clear hSw
        go_simp
        try with_reducible rfl
      change wpAnyH _ _ _ _ _ _ _ (Act.put _ (some 25) _) _
      try simp only [Act.put, List.setIfInBounds_toArray, List.set_cons_zero, List.set_cons_succ]
      refine wpAnyH_take (i := 2) (v := ?vv3) (by rfl) (by kernel_rfl) (by kernel_rfl) (by kernel_rfl) (by intro _ _ _ h; exact h) (Or.inl ⟨by kernel_rfl, ?hy3⟩) (by assumption) ?rest3
      case hy3 =>
        intro w' hSw
        have hSw : Mods (fun y => y ≠ b) w1 w' := hSw
        clear hSw
        go_simp
        try with_reducible rfl
      change wpAnyH _ _ _ _ _ _ _ (Act.put _ (some 26) _) _
      try simp only [Act.put, List.setIfInBounds_toArray, List.set_cons_zero, List.set_cons_succ]
      refine wpAnyH_take (i := 3) (v := ?vv4) (by rfl) (by kernel_rfl) (by kernel_rfl) (by kernel_rfl) (by intro _ _ _ h; exact h) (Or.inl ⟨by kernel_rfl, ?hy4⟩) (by assumption) ?rest4
      case hy4 =>
        intro w' hSw
        have hSw : Mods (fun y => y ≠ b) w1 w' := hSw
        have hBq := HB1.out.mods hSw (fun e => e rfl)
        have hx0 : World.cell? w' ⟨b, 0, none⟩ = some (.pointer (some ⟨g, 0, none⟩)) := by rw [hBq.cell]; rfl
        clear hSw
        go_simp
        try with_reducible rfl
      change wpAnyH _ _ _ _ _ _ _ (Act.put _ (some 27) _) _
      try simp only [Act.put, List.setIfInBounds_toArray, List.set_cons_zero, List.set_cons_succ]
      refine wpAnyH_take (i := 4) (v := ?vv5) (by rfl) (by kernel_rfl) (by kernel_rfl) (by kernel_rfl) (by intro _ _ _ h; exact h) (Or.inl ⟨by kernel_rfl, ?hy5⟩) (by assumption) ?rest5
      case hy5 =>
        intro w' hSw
        have hSw : Mods (fun y => y ≠ b) w1 w' := hSw
        clear hSw
        go_simp
        try with_reducible rfl
      change wpAnyH _ _ _ _ _ _ _ (Act.put _ (some 28) _) _
      try simp only [Act.put, List.setIfInBounds_toArray, List.set_cons_zero, List.set_cons_succ]
      refine wpAnyH_take (i := 5) (v := ?vv6) (by rfl) (by kernel_rfl) (by kernel_rfl) (by kernel_rfl) (by intro _ _ _ h; exact h) (Or.inl ⟨by kernel_rfl, ?hy6⟩) (by assumption) ?rest6
      case hy6 =>
        intro w' hSw
        have hSw : Mods (fun y => y ≠ b) w1 w' := hSw
        clear hSw
        go_simp
        try with_reducible rfl
      change wpAnyH _ _ _ _ _ _ _ (Act.put _ (some 29) _) _
      try simp only [Act.put, List.setIfInBounds_toArray, List.set_cons_zero, List.set_cons_succ]
      refine wpAnyH_take (i := 6) (v := ?vv7) (by rfl) (by kernel_rfl) (by kernel_rfl) (by kernel_rfl) (by intro _ _ _ h; exact h) (Or.inl ⟨by kernel_rfl, ?hy7⟩) (by assumption) ?rest7
      case hy7 =>
        intro w' hSw
        have hSw : Mods (fun y => y ≠ b) w1 w' := hSw
        clear hSw
        go_simp
        try with_reducible rfl
      change wpAnyH _ _ _ _ _ _ _ (Act.put _ (some 30) _) _
      try simp only [Act.put, List.setIfInBounds_toArray, List.set_cons_zero, List.set_cons_succ]
      refine wpAnyH_take (i := 7) (v := ?vv8) (by rfl) (by kernel_rfl) (by kernel_rfl) (by kernel_rfl) (by intro _ _ _ h; exact h) (Or.inl ⟨by kernel_rfl, ?hy8⟩) (by assumption) ?rest8
      case hy8 =>
        intro w' hSw
        have hSw : Mods (fun y => y ≠ b) w1 w' := hSw
        have hBq := HB1.out.mods hSw (fun e => e rfl)
        have hx0 : World.cell? w' ⟨b, 1, none⟩ = some (.string (bstr x)) := by rw [hBq.cell]; rfl
        clear hSw
        go_simp
        try with_reducible rfl
      change wpAnyH _ _ _ _ _ _ _ (Act.put _ (some 31) _) _
      try simp only [Act.put, List.setIfInBounds_toArray, List.set_cons_zero, List.set_cons_succ]
      refine wpAnyH_take (i := 8) (v := ?vv9) (by rfl) (by kernel_rfl) (by kernel_rfl) (by kernel_rfl) (by intro _ _ _ h; exact h) (Or.inl ⟨by kernel_rfl, ?hy9⟩) (by assumption) ?rest9
      case hy9 =>
        intro w' hSw
        have hSw : Mods (fun y => y ≠ b) w1 w' := hSw
        clear hSw
        go_simp
        try with_reducible rfl
      change wpAnyH _ _ _ _ _ _ _ (Act.put _ (some 32) _) _
      try simp only [Act.put, List.setIfInBounds_toArray, List.set_cons_zero, List.set_cons_succ]
      refine wpAnyH_ready (rs := [9]) (by kernel_rfl) (by simp) ?_
      refine AllReadyH.cons (o := _) rfl (fun K hK => ?_) ?_
      · go_simp
        refine HAC.out.mono ?_
        rintro e w2 ⟨rfl, ho, hm⟩
        have HO2 := Lib.hid ho
        have HM2 := Lib.hid (HMD.out.trans hm (T := fun y => W.heap.size ≤ y ∧ y ∉ L1) (fun y hy _ => ⟨hy.1, .inl (fun hh => hy.2 (HL1.out y hh))⟩))
        have hb := hHeld.trans hm (T := fun y => W.heap.size ≤ y ∧ y ∉ L1) (fun y hy _ e => hy.2 (by rw [e]; exact HL1.out b HL.out))
        clear ho hm HAC HMD
        go_wp2_with fail
        refine hK.out _ _ hb (fun _ => ?_)
        clear hK K hHeld
        have hHeld : Mods (fun y => y ≠ b) w1 w2 := hb
        clear hb
        try simp only [Act.put, List.setIfInBounds_toArray, List.set_cons_zero, List.set_cons_succ]
        refine wpAnyH_take (i := 10) (v := ?vv10) (by rfl) (by kernel_rfl) (by kernel_rfl) (by kernel_rfl) (by intro _ _ _ h; exact h) (Or.inl ⟨by kernel_rfl, ?hy10⟩) (by assumption) ?rest10
        case hy10 =>
          intro w' hSw
          have hSw : Mods (fun y => y ≠ b) w1 w' := hSw
          clear hSw
          go_simp
          try with_reducible rfl
        change wpAnyH _ _ _ _ _ _ _ (Act.put _ (some 6) _) _
        try simp only [Act.put, List.setIfInBounds_toArray, List.set_cons_zero, List.set_cons_succ]
        refine wpAnyH_done (by kernel_rfl) ?_ _
        refine NoPanic.normal ?_
        have HB2 := Lib.hid (HB1.out.mods hHeld (fun e => e rfl))
        clear hHeld
        by_cases h3 : e3 = 0
        · have HX := Lib.hid (HX2.out.trans (if_pos h3))
          have t3 : (e3 == 0) = true := by simp [h3]
          have c2 : w2.cell? ⟨b, 2, none⟩ = some (.int .i64 (n : Int)) := by rw [HB2.out.cell]; rfl
          have z2 : w2.frozen? ⟨b, 2, none⟩ = false := HB2.out.frozen _
          subst h3
          go_wp2_with fail
          go_ret
          rw [HX.out]
          obtain ⟨S, h9⟩ := HO2.out
          have hM : Mods (fun y => y = b) w2 (w2.setCell ⟨b, 2, none⟩ (.int .i64 ((n : Int) + 1))) := (Mods.refl (fun y => y = b) w2).setCell (p := ⟨b, 2, none⟩) (fun _ => rfl) _
          have h10 : One L1 W (w2.setCell ⟨b, 2, none⟩ (.int .i64 ((n : Int) + 1))) g d3 (k + 3) S := ⟨h9.dsk.apart hM (fun y hy e => by subst e; exact (h9.ls _ hy).2.2 (HL1.out _ HL.out)), fun y hy => by have := h9.ls y hy; exact ⟨this.1, Nat.lt_of_lt_of_le this.2.1 hM.size, this.2.2⟩, fun y hy => Nat.lt_of_lt_of_le (h9.ll y hy) hM.size, hM.keeps h9.keep (fun y hy => by subst hy; exact hbW), h9.few⟩
          refine ⟨rfl, (show OneAt L1 _ _ _ _ _ from ⟨S, h10⟩).drop HL1.out, ?_, HM2.out.trans hM (fun y hy _ => ⟨by subst hy; exact hbW, .inr hy⟩)⟩
          have := HB2.out.set_ 2 (.int .i64 ((n : Int) + 1))
          simpa [logA] using this
        · have HX := Lib.hid (HX2.out.trans (if_neg h3))
          have t3 : (e3 == 0) = false := by simp [h3]
          clear h3
          go_wp2_with fail
          go_ret
          rw [HX.out]
          exact ⟨rfl, HO2.out.drop HL1.out, HB2.out, HM2.out⟩
      exact AllReadyH.nil
    · have HX := Lib.hid (HX1.out.trans (if_pos he))
      have t0 : (te == 0) = false := by simp [he]
      clear he
      go_wp2_with fail
      go_ret
      rw [HX.out]
      exact ⟨rfl, H1.out.more (by omega), HB1.out, Mods.of_keeps HK1.out⟩
end Txl
end Go.Proofs.Ytchjncnolmiejaa

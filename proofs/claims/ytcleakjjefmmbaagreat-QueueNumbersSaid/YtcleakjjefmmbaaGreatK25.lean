/- Several texts in one: VdShelf, VdFix, VdNode2, VdBootPlain, VdFree, VdSyncDir, VdKnown. -/
import Derived.Shelf.SlMaps.Clone
import Derived.Test.YtcleakjjefmmbaaGreatProg
import Derived.Test.YtcleakjjefmmbaaGreatK24
import Derived.Laws.MakeOwn
import Derived.Laws.OwnMore
/- The shelf's contracts at this seat: maps.Clone of a map of names. -/
namespace Go.Proofs
open Go.Shelf
def Tryz.cloneNames_ren : Go.Shelf.Ren := ⟨fun | 5 => 34 | 7 => 80 | n => n, fun | 23 => 83 | 25 => 9 | 3 => 3 | 4 => 4 | 20 => 20 | n => n, fun | n => n⟩
theorem Tryz.cloneNames : Go.Proofs.SlLaysW.n5 Tryz.prog Tryz.cloneNames_ren := {
 mixed := by kernel_rfl
 f5 := ⟨Tryz.f34.name, by decide, Tryz.func34.trans (congrArg some (by kernel_rfl))⟩
 f7 := Tryz.func80.trans (congrArg some (by kernel_rfl))
 t4 := Tryz.underlying4
 a4 := Tryz.isAgg4
 z4 := Tryz.sizeOf4
 v4 := Tryz.zeroValue4
 t20 := Tryz.underlying20
 a20 := Tryz.isAgg20
 z20 := Tryz.sizeOf20
 v20 := Tryz.zeroValue20
 t23 := Tryz.underlying83
 a23 := Tryz.isAgg83
 z23 := Tryz.sizeOf83
 v23 := Tryz.zeroValue83 }
end Go.Proofs

/- Disk.fix, SyncDir. -/
namespace Go.Proofs.YtcleakjjefmmbaaGreat
open Go.RowKit Go.Shelf
namespace Vd
open Go.Maps
open Mbx (intElem)
theorem cloneNames_any (w : World) {b n : Nat} {l : Nms} (h : NamesAt w b n l) : Calls Tryz.prog 34 #[.map (some b)] w fun e w' => e = .returned (.map (some w.heap.size)) ∧ NamesAt w' w.heap.size n l ∧ Keeps w w' := by
 obtain ⟨D, h1, h2⟩ := h
 exact (AnyW.maps_Clone_owns Tryz.cloneNames 9 intElem b n D w h1).mono (fun e w' h => ⟨h.1, ⟨D, h.2.1, h2⟩, h.2.2.2⟩)
/-- the blocks of a disk behind calls: its own, and new ones -/
def Up (S : Nat → Prop) (w : World) (x : Nat) : Prop := S x ∨ w.heap.size ≤ x
section
variable {w w' : World} {S : Nat → Prop} {g b1 b2 : Nat} {nv mv : Value} {nb : List NB} {d : Dsk}
theorem DiskIn.tight (h : DiskIn w S g b1 b2 nv mv nb d) : DiskIn w (fun y => S y ∧ y < w.heap.size) g b1 b2 nv mv nb d :=
 {h with
  sg := ⟨h.sg, h.blk.lt⟩
  s1 := ⟨h.s1, h.seen.lt⟩
  s2 := ⟨h.s2, h.sure.lt⟩
  sn := fun y hy => ⟨h.sn y hy, (owns_ty h.row hy).lt⟩
  sm := fun y hy => ⟨h.sm y hy, (owns_ty h.mvs hy).lt⟩
  sb := fun p hp => by
   obtain ⟨i, hi, rfl⟩ := List.mem_iff_getElem.1 hp
   have hn := h.nod i hi (by rw [← h.len]; exact hi)
   have hs := h.sb _ hp
   exact ⟨⟨hs.1, hn.blk.lt⟩, fun y hy => ⟨hs.2 y hy, (owns_ty hn.pats hy).lt⟩⟩ }
theorem DiskAt.down (h : DiskAt w' (Up S w) g d) : DiskAt w' (More S w w') g d := by
 obtain ⟨_, _, _, _, _, h⟩ := h
 exact DiskAt.wide ⟨_, _, _, _, _, h.tight⟩ (fun y hy => hy.1.imp id (fun hh => ⟨hh, hy.2⟩))
theorem DiskIn.anew (h : DiskIn w S g b1 b2 nv mv nb d) {S' T : Nat → Prop} (hS : ∀ y, S y → S' y) (hM : Mods T w w') (hT : ∀ y, T y → y = g ∨ y = b1 ∨ y = b2 ∨ mv.ownBlock = some y) {d' : Dsk} (hd : d'.nodes = d.nodes) {b1' b2' : Nat} {mv' : Value}
  (hB : Blk w' g 89 (diskA d' nv b1' b2' mv')) (hs : NamesAt w' b1' d'.seen.length d'.seen) (hu : NamesAt w' b2' d'.sure.length d'.sure) (hm : w'.ownsRow 0 152 3 mv' d'.moves.length (d'.moves.flatMap mvC)) (h12 : b1' ≠ b2') (s1 : S' b1') (s2 : S' b2') (sm : ∀ y, mv'.ownBlock = some y → S' y) (hf : Fit d') : DiskIn w' S' g b1' b2' nv mv' nb d' := by
 have tg : Ty w g 89 := ⟨_, h.blk⟩
 have out : ∀ {y : Nat} {t : TypeId}, Ty w y t → 89 ≠ t → 152 ≠ t → ¬ T y := fun hy n1 n2 ht => by
  rcases hT _ ht with e | e | e | e
  ·exact Ty.ne tg hy n1 e.symm
  ·exact names_ty h.seen hy e.symm
  ·exact names_ty h.sure hy e.symm
  ·exact Ty.ne (owns_ty h.mvs e) hy n2 rfl
 exact
  {blk := hB
   row := Frm.ownsRow_mods h.row hM (fun y hy => out (owns_ty h.row hy) (by decide) (by decide))
   len := by rw [hd]; exact h.len
   nod := fun i h1 h2 => by
    have hh := h.nod i h1 (by rw [← hd]; exact h2)
    have he : d'.nodes[i] = d.nodes[i]'(by rw [← hd]; exact h2) := by simp [hd]
    rw [he]
    exact hh.mods hM (out ⟨_, hh.blk⟩ (by decide) (by decide)) (fun y hy => out (owns_ty hh.pats hy) (by decide) (by decide))
   sep := h.sep
   seen := hs
   sure := hu
   mvs := hm
   d12 := h12
   sg := hS _ h.sg
   s1 := s1
   s2 := s2
   sn := fun y hy => hS _ (h.sn y hy)
   sm := sm
   sb := fun p hp => ⟨hS _ (h.sb p hp).1, fun y hy => hS _ ((h.sb p hp).2 y hy)⟩
   fit := hf }
end
/-- the first nodes are stale -/
def staleTo (d : Dsk) (j : Nat) : Dsk := { d with nodes := (d.nodes.take j).map staleN ++ d.nodes.drop j }
theorem staleTo_zero (d : Dsk) : staleTo d 0 = d := by simp [staleTo]
theorem staleTo_len (d : Dsk) (j : Nat) : (staleTo d j).nodes.length = d.nodes.length := by simp [staleTo]; omega
theorem staleTo_all {d : Dsk} {j : Nat} (h : d.nodes.length ≤ j) : staleTo d j = { d with nodes := d.nodes.map staleN } := by
 simp [staleTo, List.take_of_length_le h, List.drop_of_length_le h]
theorem staleTo_get {d : Dsk} {j : Nat} (h : j < d.nodes.length) : (staleTo d j).nodes[j]'(by rw [staleTo_len]; exact h) = d.nodes[j] := by
 simp [staleTo, List.getElem_append, Nat.min_eq_left (Nat.le_of_lt h)]
theorem staleTo_succ {d : Dsk} {j : Nat} (h : j < d.nodes.length) : { staleTo d j with nodes := (staleTo d j).nodes.set j (staleN d.nodes[j]) } = staleTo d (j + 1) := by
 unfold staleTo
 simp only [Dsk.mk.injEq, true_and, and_true]
 have hl : ((d.nodes.take j).map staleN).length = j := by simp; omega
 rw [List.set_append_right _ _ (by omega), hl, Nat.sub_self, List.drop_eq_getElem_cons h, List.set_cons_zero, List.take_succ_eq_append_getElem h, List.map_append]
 simp only [List.map_cons, List.map_nil, List.append_assoc, List.singleton_append]
theorem fit_stale {d : Dsk} (h : Fit d) (j : Nat) : Fit (staleTo d j) := by
 have hm : ∀ x ∈ (staleTo d j).nodes, ∃ y ∈ d.nodes, x.seen = y.seen ∧ x.sure = y.sure ∧ x.pats = y.pats := fun x hx => by
  rcases List.mem_append.1 hx with hx | hx
  ·obtain ⟨y, hy, rfl⟩ := List.mem_map.1 hx
   exact ⟨y, List.mem_of_mem_take hy, rfl, rfl, rfl⟩
  ·exact ⟨x, List.mem_of_mem_drop hx, rfl, rfl, rfl⟩
 have hl := staleTo_len d j
 have hn : ∀ x ∈ (staleTo d j).nodes, x.seen.length ≤ 1000000000 ∧ x.sure.length ≤ 1000000000 := fun x hx => by
  obtain ⟨y, hy, e1, e2, -⟩ := hm x hx
  rw [e1, e2]
  exact h.ns y hy
 exact { h with
  is := fun p hp => by rw [hl]; exact h.is p hp
  iu := fun p hp => by rw [hl]; exact h.iu p hp
  im := fun p hp => by rw [hl]; exact h.im p hp
  ns := hn
  ps := fun x hx p hp => by
   obtain ⟨y, hy, -, -, e3⟩ := hm x hx
   rw [e3] at hp
   exact h.ps y hy p hp
  fr := fit_fr (fun x hx => (hn x hx).1) h.s1 }
set_option maxRecDepth 100000 in
set_option maxHeartbeats 4000000 in
theorem fix_any (w : World) {S : Nat → Prop} {g : Nat} {d : Dsk} (h : DiskAt w S g d) (hnl : d.nodes.length ≤ 1000000000) : Calls Tryz.prog 70 #[.pointer (some ⟨g, 0, none⟩)] w fun e w' => e = .returned (.tuple #[]) ∧ DiskAt w' (Up S w) g (fixD d) ∧ Mods S w w' := by
 obtain ⟨b1, b2, nv, mv, nb, h⟩ := h
 have HD := Lib.hid h
 have HCL := Lib.hid (cloneNames_any w h.seen)
 obtain ⟨-, c1, c2, c3, c4, -⟩ := h.cells
 have z3 : w.frozen? ⟨g, 3, none⟩ = false := h.blk.frozen _
 have z4 : w.frozen? ⟨g, 4, none⟩ = false := h.blk.frozen _
 obtain ⟨po, cap, rfl, -, -⟩ := Frm.ownsRow_form h.row
 have hln := h.len
 rw [hln] at c1
 clear h
 go_enter Tryz.func70, Tryz.ntmps70
 go_wp2_with fail
 refine HCL.out.mono ?_
 rintro e w1 ⟨rfl, hn1, hk1⟩
 have HB1 := Lib.hid (HD.out.blk.keeps hk1)
 have c3' : w1.cell? ⟨g, 3, none⟩ = some (.map (some b2)) := by rw [HB1.out.cell]; rfl
 have c4' : w1.cell? ⟨g, 4, none⟩ = some mv := by rw [HB1.out.cell]; rfl
 have z3' : w1.frozen? ⟨g, 3, none⟩ = false := HB1.out.frozen _
 have z4' : w1.frozen? ⟨g, 4, none⟩ = false := HB1.out.frozen _
 have HN1 := Lib.hid hn1
 have HK1 := Lib.hid hk1
 clear hn1 hk1 HCL c1 c2 c3 c4 z3 z4
 go_upto_region 1 with fail
 have HM2 := Lib.hid (((Mods.of_keeps (S := (· = g)) HK1.out).setCell (p := ⟨g, 3, none⟩) (fun _ => rfl) (.map (some w.heap.size))).setCell (p := ⟨g, 4, none⟩) (fun _ => rfl) (.slice none 0 0))
 have HB2 := Lib.hid (show Blk ((w1.setCell ⟨g, 3, none⟩ (.map (some w.heap.size))).setCell ⟨g, 4, none⟩ (.slice none 0 0)) g 89 (diskA { d with sure := d.seen, moves := [] } (.slice po nb.length cap) b1 w.heap.size (.slice none 0 0)) from (HB1.out.set_ 3 _).set_ 4 _)
 have HN2 := Lib.hid (HN1.out.mods (((Mods.refl (· = g) w1).setCell (p := ⟨g, 3, none⟩) (fun _ => rfl) (.map (some w.heap.size))).setCell (p := ⟨g, 4, none⟩) (fun _ => rfl) (.slice none 0 0)) (fun e => by have := HD.out.blk.lt; omega))
 clear c3' c4' z3' z4' HN1 HB1 HK1
 generalize (w1.setCell ⟨g, 3, none⟩ (.map (some w.heap.size))).setCell ⟨g, 4, none⟩ (.slice none 0 0) = w2 at *
 have HI := Lib.hid (show DiskIn w2 (Up S w) g b1 w.heap.size (.slice po nb.length cap) (.slice none 0 0) nb { d with sure := d.seen, moves := [] } from
  HD.out.anew (S' := Up S w) (T := (· = g)) (d' := { d with sure := d.seen, moves := [] }) (fun y hy => .inl hy) HM2.out (fun y hy => .inl hy) rfl HB2.out (HD.out.seen.mods HM2.out (fun e => HD.out.ng.1 e)) HN2.out (World.ownsRow_nil _ _ _ 3) (fun e => by have := HD.out.seen.lt; omega) (.inl HD.out.s1) (.inr (Nat.le_refl _)) (fun y hy => by simp [Value.ownBlock] at hy)
   (show Fit { d with sure := d.seen, moves := [] } from { HD.out.fit with s2 := HD.out.fit.s1, iu := HD.out.fit.is, im := fun p hp => by simp at hp, nm := fun p hp => by simp at hp }))
 obtain ⟨d0, hd0⟩ : ∃ d0, d0 = { d with sure := d.seen, moves := [] } := ⟨_, rfl⟩
 have hdn : d0.nodes = d.nodes := by rw [hd0]
 rw [← hd0] at HI
 have HX : Hid (fixD d = { d0 with nodes := d0.nodes.map staleN }) := Lib.hid (by rw [hd0]; rfl)
 have c1' : w2.cell? ⟨g, 1, none⟩ = some (.slice po nb.length cap) := by rw [HB2.out.cell]; rfl
 rw [← hdn] at hln hnl
 have HLN := Lib.hid hln
 rw [hln] at HI c1'
 obtain ⟨n, hnn⟩ : ∃ n, n = d0.nodes.length := ⟨_, rfl⟩
 rw [← hnn] at HI c1' hnl
 have HNN := Lib.hid hnn
 clear HB2 HN2 hd0 hln hnn hdn
 go_wp2_with fail
 go_loopw [20] (fun ix wr => ∃ j : Nat, ix = .int .i64 (j : Int) ∧ j ≤ n ∧ Hid ((∃ nb', DiskIn wr (Up S w) g b1 w.heap.size (.slice po n cap) (.slice none 0 0) nb' (staleTo d0 j)) ∧ Mods S w wr)) (fun ix _ => n - (RowKit.intOf ix).toNat)
 case atStart => exact ⟨0, rfl, Nat.zero_le _, Lib.hid ⟨⟨nb, by rw [staleTo_zero]; exact HI.out⟩, HM2.out.mono (fun y hy => by subst hy; exact HD.out.sg)⟩⟩
 case round =>
  obtain ⟨j, rfl, hj, HH⟩ := hrel
  by_cases hlt : j < n
  ·obtain ⟨nb', hD⟩ := HH.out.1
   have hjd : j < d0.nodes.length := by rw [← HNN.out]; exact hlt
   have hjs : j < (staleTo d0 j).nodes.length := by rw [staleTo_len]; exact hjd
   obtain ⟨gn, c, k, pv, hv, hnb, n0, hnd⟩ := hD.nodeAt hjs
   simp only [Value.slice.injEq] at hv
   obtain ⟨rfl, -, rfl⟩ := hv
   have n3 : wr.cell? ⟨k, 3, none⟩ = some (.bool (staleTo d0 j).nodes[j].fresh) := by rw [hnd.blk.cell]; rfl
   have z3 : wr.frozen? ⟨k, 3, none⟩ = false := hnd.blk.frozen _
   have HDJ := Lib.hid hD
   have HND := Lib.hid hnd
   have HNB := Lib.hid hnb
   have HJ := Lib.hid hjs
   generalize hfr : (staleTo d0 j).nodes[j].fresh = fr at n3
   have hlt' : (j : Int) < (n : Int) := by omega
   clear hD hnd hnb hjd hfr
   go_wp2_with fail
   go_roundw
   case rel =>
    have hB := HND.out.blk.set_ 3 (.bool false)
    have hM := (Mods.refl (· = k) wr).setCell (p := ⟨k, 3, none⟩) (fun _ => rfl) (.bool false)
    have hjd : j < d0.nodes.length := by have := HJ.out; rwa [staleTo_len] at this
    have hn : NodB (wr.setCell ⟨k, 3, none⟩ (.bool false)) (k, pv) (staleN d0.nodes[j]) := by
     rw [← staleTo_get hjd]
     exact ⟨hB, Frm.ownsRow_mods HND.out.pats hM (fun y hy e => Frm.ownsRow_ne HND.out.pats HND.out.blk (by decide) (by rw [hy, e]))⟩
    have hR := HDJ.out.node HJ.out HNB.out hM (fun y hy => .inl hy) hn (fun y hy => .inl hy) (by rw [staleTo_succ hjd]; exact fit_stale HI.out.fit _)
    rw [staleTo_succ hjd] at hR
    have hsz := HH.out.2.size
    exact ⟨j + 1, by simp, by omega, Lib.hid ⟨⟨_, hR.wide (fun y hy => hy.elim id (fun hh => .inr (by omega)))⟩, HH.out.2.trans hM (fun y hy hlt => by
     subst hy
     have := (HDJ.out.sb _ (List.mem_of_getElem? HNB.out)).1
     exact this.elim id (fun hh => by omega))⟩⟩
   case measure =>
    simp only [RowKit.intOf]
    omega
  ·have hlt' : decide ((j : Int) < (n : Int)) = false := by simp; omega
   have HJ : Hid (n ≤ j) := Lib.hid (by omega)
   go_wp2_with fail
   go_end0
   obtain ⟨nb', hD⟩ := HH.out.1
   rw [staleTo_all (by rw [← HNN.out]; exact HJ.out)] at hD
   exact ⟨rfl, by rw [HX.out]; exact ⟨_, _, _, _, _, hD⟩, HH.out.2⟩
end Vd
end Go.Proofs.YtcleakjjefmmbaaGreat

/- A node of the disk is changed, and beside it a block that is no one of the disk's. -/
namespace Go.Proofs.YtcleakjjefmmbaaGreat
open Go.RowKit
namespace Vd
open Go.Maps
theorem DiskIn.node2 {w w' : World} {S : Nat → Prop} {g b1 b2 : Nat} {nv mv : Value} {nb : List NB} {d : Dsk} (h : DiskIn w S g b1 b2 nv mv nb d) {i k : Nat} {pv : Value} (hi : i < d.nodes.length) (hk : nb[i]? = some (k, pv)) {T : Nat → Prop} (hM : Mods T w w') (hT : ∀ y, T y → y = k ∨ pv.ownBlock = some y ∨ ¬ S y) {x' : Nod} {pv' : Value} (hn : NodB w' (k, pv') x')
  (hp : ∀ y, pv'.ownBlock = some y → pv.ownBlock = some y ∨ (w.heap.size ≤ y ∧ y < w'.heap.size)) (hf : Fit { d with nodes := d.nodes.set i x' }) : DiskIn w' (More S w w') g b1 b2 nv mv (nb.set i (k, pv')) { d with nodes := d.nodes.set i x' } := by
 have hi' : i < nb.length := by rw [h.len]; exact hi
 have hki : nb[i] = (k, pv) := (List.getElem?_eq_some_iff.1 hk).2
 have hni := h.nod i hi' hi
 rw [hki] at hni
 have tk : Ty w k 95 := ⟨_, hni.blk⟩
 have tp : ∀ y, pv.ownBlock = some y → Ty w y 148 := fun y hy => owns_ty hni.pats hy
 have tT : ∀ y, S y → T y → Ty w y 95 ∨ Ty w y 148 := fun y hs hy => by
  rcases hT y hy with rfl | h2 | h2
  ·exact .inl tk
  ·exact .inr (tp y h2)
  ·exact absurd hs h2
 have nT : ∀ y t, S y → Ty w y t → t ≠ 95 → t ≠ 148 → ¬ T y := fun y t hs ht h1 h2 hy => by
  rcases tT y hs hy with hh | hh
  ·exact ht.ne hh h1 rfl
  ·exact ht.ne hh h2 rfl
 have nM : ∀ {b n : Nat} {l : Nms}, S b → NamesAt w b n l → ¬ T b := fun hs hn hy => by
  rcases tT _ hs hy with hh | hh <;> exact names_ty hn hh rfl
 have hsep : ∀ j (hj : j < nb.length), j ≠ i → ApartN nb[j] (k, pv) ∧ ApartN (k, pv) nb[j] := fun j hj hji => by
  have hs := List.pairwise_iff_getElem.1 h.sep
  rw [← hki]
  have sym : ∀ {p q : NB}, ApartN p q → ApartN q p := fun hh => ⟨fun e => hh.1 e.symm, fun y hy hy2 => hh.2 y hy2 hy⟩
  rcases Nat.lt_or_gt_of_ne hji with hlt | hlt
  ·exact ⟨hs j i hj hi' hlt, sym (hs j i hj hi' hlt)⟩
  ·exact ⟨sym (hs i j hi' hj hlt), hs i j hi' hj hlt⟩
 have hS : ∀ y, S y → More S w w' y := fun y hy => .inl hy
 refine ⟨h.blk.mods hM (nT g _ h.sg ⟨_, h.blk⟩ (by decide) (by decide)), ?_, by simp [h.len], ?_, ?_, h.seen.mods hM (nM h.s1 h.seen), h.sure.mods hM (nM h.s2 h.sure), Frm.ownsRow_mods h.mvs hM (fun y hy => nT y _ (h.sm y hy) (owns_ty h.mvs hy) (by decide) (by decide)), h.d12, hS _ h.sg, hS _ h.s1, hS _ h.s2, fun y hy => hS _ (h.sn y hy), fun y hy => hS _ (h.sm y hy), ?_, hf⟩
 ·have hm : (nb.set i (k, pv')).map (fun p => Value.pointer (some ⟨p.1, 0, none⟩)) = nb.map (fun p => Value.pointer (some ⟨p.1, 0, none⟩)) := by
   rw [List.map_set]
   refine List.ext_getElem? fun j => ?_
   rw [List.getElem?_set]
   split
   ·rename_i hji
    subst hji
    simp [hi', hki]
   ·rfl
  rw [hm, List.length_set]
  exact Frm.ownsRow_mods h.row hM (fun y hy => nT y _ (h.sn y hy) (owns_ty h.row hy) (by decide) (by decide))
 ·intro j h1 h2
  rw [List.length_set] at h1
  simp only [List.length_set] at h2
  by_cases hji : j = i
  ·subst hji
   simp only [List.getElem_set_self]
   exact hn
  ·rw [List.getElem_set_ne (fun e => hji e.symm)]
   simp only [List.getElem_set_ne (fun e => hji e.symm)]
   have hj := h.nod j h1 h2
   have hap := (hsep j h1 hji).1
   refine hj.mods hM (fun hy => ?_) (fun y hy hty => ?_)
   ·rcases hT _ hy with e | e | e
    ·exact hap.1 e
    ·exact (Ty.ne ⟨_, hj.blk⟩ (tp _ e) (by decide)) rfl
    ·exact e (h.sb _ (List.getElem_mem h1)).1
   ·rcases hT _ hty with e | e | e
    ·subst e
     exact (Ty.ne tk (owns_ty hj.pats hy) (by decide)) rfl
    ·exact hap.2 y hy e
    ·exact e ((h.sb _ (List.getElem_mem h1)).2 y hy)
 ·refine List.pairwise_iff_getElem.2 fun a b ha hb hab => ?_
  have ha' : a < nb.length := by simpa using ha
  have hb' : b < nb.length := by simpa using hb
  have hnew : ∀ j (hj : j < nb.length), j ≠ i → ApartN nb[j] (k, pv') := fun j hj hji => by
   refine ⟨(hsep j hj hji).1.1, fun y hy hy2 => ?_⟩
   rcases hp y hy2 with e | e
   ·exact (hsep j hj hji).1.2 y hy e
   ·have := (owns_ty (h.nod j hj (by rw [← h.len]; exact hj)).pats hy).lt
    omega
  have sym : ∀ {p q : NB}, ApartN p q → ApartN q p := fun hh => ⟨fun e => hh.1 e.symm, fun y hy hy2 => hh.2 y hy2 hy⟩
  by_cases hai : a = i
  ·subst hai
   rw [List.getElem_set_self, List.getElem_set_ne (by omega)]
   exact sym (hnew b hb' (by omega))
  ·rw [List.getElem_set_ne (fun e => hai e.symm)]
   by_cases hbi : b = i
   ·subst hbi
    rw [List.getElem_set_self]
    exact hnew a ha' hai
   ·rw [List.getElem_set_ne (fun e => hbi e.symm)]
    exact List.pairwise_iff_getElem.1 h.sep a b ha' hb' hab
 ·intro p hpm
  rcases List.mem_or_eq_of_mem_set hpm with hm | rfl
  ·exact ⟨hS _ (h.sb p hm).1, fun y hy => hS _ ((h.sb p hm).2 y hy)⟩
  ·have hkm : (k, pv) ∈ nb := List.mem_of_getElem? hk
   refine ⟨hS _ (h.sb _ hkm).1, fun y hy => ?_⟩
   rcases hp y hy with e | e
   ·exact hS _ ((h.sb _ hkm).2 y e)
   ·exact .inr e
end Vd
end Go.Proofs.YtcleakjjefmmbaaGreat

/- Boot, plain: what it keeps of the writes and of the names. -/
namespace Go.Proofs.YtcleakjjefmmbaaGreat
open Go.RowKit
namespace Vd
open Go.Maps
theorem bootPats_cons (p : Pat) (ps : List Pat) (s : Str) (k : List Int) : bootPats (p :: ps) s k = bootPats ps (if (keepN k p).1.b = [] then s else overL s (keepN k p).1.place (keepN k p).1.b) (keepN k p).2 := rfl
theorem keepN_b (k : List Int) (p : Pat) : (keepN k p).1.place = p.place ∧ (keepN k p).1.b.length ≤ p.b.length := by
 cases k <;> simp [keepN]
 omega
theorem bootStep_len {p : Pat} {s : Str} (k : List Int) (hs : s.length ≤ 1000000000) (hp : p.place + p.b.length ≤ 1000000000) : (if (keepN k p).1.b = [] then s else overL s (keepN k p).1.place (keepN k p).1.b).length ≤ 1000000000 := by
 obtain ⟨h1, h2⟩ := keepN_b k p
 split
 ·exact hs
 ·rw [overL_len, h1]
  omega
theorem bootPats_len : ∀ (ps : List Pat) (s : Str) (k : List Int), s.length ≤ 1000000000 → (∀ p ∈ ps, p.place + p.b.length ≤ 1000000000) → (bootPats ps s k).1.length ≤ 1000000000
 | [], s, k, hs, _ => hs
 |p :: ps, s, k, hs, hp => by
  rw [bootPats_cons]
  exact bootPats_len ps _ _ (bootStep_len k hs (hp p (List.mem_cons_self ..))) (fun q hq => hp q (List.mem_cons_of_mem _ hq))
theorem bootIx_cons (i : Nat) (L : List Nat) (ns : List Nod) (k : List Int) : bootIx (i :: L) ns k = bootIx L (ns.set i (bootN (ns.getD i zeroN) k)) (bootPats (ns.getD i zeroN).pats (ns.getD i zeroN).sure k).2 := rfl
theorem bootIx_len : ∀ (L : List Nat) (ns : List Nod) (k : List Int), (bootIx L ns k).1.length = ns.length
 | [], _, _ => rfl
 |i :: L, ns, k => by rw [bootIx_cons, bootIx_len L, List.length_set]
theorem fit_bootN {d : Dsk} (h : Fit d) {ns : List Nod} (hf : Fit { d with nodes := ns }) {i : Nat} (hi : i < ns.length) (k : List Int) : Fit { d with nodes := ns.set i (bootN (ns.getD i zeroN) k) } := by
 have hx : ns.getD i zeroN = ns[i] := by rw [List.getD_eq_getElem?_getD, List.getElem?_eq_getElem hi]; rfl
 have hl := bootPats_len ns[i].pats ns[i].sure k (hf.ns _ (List.getElem_mem hi)).2 (fun p hp => hf.ps _ (List.getElem_mem hi) p hp)
 have := fit_put hf (i := i) (x := bootN (ns.getD i zeroN) k) (by rw [hx]; exact ⟨hl, hl⟩) (fun p hp => by simp [bootN] at hp)
 exact this
/-- the names behind the first turns -/
def gaveN (d : Dsk) (j : Nat) : Nms := (d.moves.take j).foldl giveN d.sure
theorem gaveN_succ {d : Dsk} {j : Nat} (h : j < d.moves.length) : gaveN d (j + 1) = giveN (gaveN d j) d.moves[j] := by
 unfold gaveN
 rw [List.take_succ_eq_append_getElem h, List.foldl_append]
 rfl
theorem gaveN_all {d : Dsk} {j : Nat} (h : d.moves.length ≤ j) : gaveN d j = gaveN d d.moves.length := by
 unfold gaveN
 rw [List.take_of_length_le h, List.take_of_length_le (Nat.le_refl _)]
theorem gave_len (d : Dsk) : ∀ j, (gaveN d j).length ≤ d.sure.length + j
 | 0 => by simp [gaveN]
 |j + 1 => by
  by_cases h : j < d.moves.length
  ·rw [gaveN_succ h]
   have := give_len (gaveN d j) d.moves[j]
   have := gave_len d j
   omega
  ·rw [gaveN_all (by omega), ← gaveN_all (d := d) (j := j) (by omega)]
   have := gave_len d j
   omega
theorem gave_in {d : Dsk} (h : Fit d) : ∀ j, ∀ p ∈ gaveN d j, p.2 < d.nodes.length
 | 0, p, hp => h.iu p (by simpa [gaveN] using hp)
 |j + 1, p, hp => by
  by_cases hj : j < d.moves.length
  ·rw [gaveN_succ hj] at hp
   rcases give_mem hp with hp | rfl
   ·exact gave_in h j p hp
   ·exact h.im _ (List.getElem_mem hj)
  ·rw [gaveN_all (by omega), ← gaveN_all (d := d) (j := j) (by omega)] at hp
   exact gave_in h j p hp
theorem fit_gave {d : Dsk} (h : Fit d) (j : Nat) (hl : (gaveN d j).length ≤ 1024) : Fit { d with seen := gaveN d j } :=
 {h with
  s1 := hl
  is := gave_in h j
  fr := fit_fr (fun y hy => (h.ns y hy).1) hl }
end Vd
end Go.Proofs.YtcleakjjefmmbaaGreat

/- free, of a disk that New makes still. -/
namespace Go.Proofs.YtcleakjjefmmbaaGreat
open Go.RowKit
namespace Vd
open Go.Maps
open Mbx (intD intElem intElem_inv)
structure HalfIn (w : World) (g : Nat) (cs : Array Value) (b1 : Nat) (nv : Value) (nb : List NB) (room : Int) (nodes : List Nod) (seen : Nms) : Prop where
 blk : Blk w g 89 cs
 k0 : cs[0]? = some (.int .i64 room)
 k1 : cs[1]? = some nv
 k2 : cs[2]? = some (.map (some b1))
 row : w.ownsRow 0 92 1 nv nb.length (nb.map fun p => Value.pointer (some ⟨p.1, 0, none⟩))
 len : nb.length = nodes.length
 nod : ∀ i (h : i < nb.length) (h2 : i < nodes.length), NodB w nb[i] nodes[i]
 names : NamesAt w b1 seen.length seen
 is : ∀ p ∈ seen, p.2 < nodes.length
 r1 : 1 ≤ room
 r2 : room ≤ 4194304
 fr : (bytesN nodes seen : Int) ≤ 4000000000000000
theorem HalfIn.keeps {w w' : World} {g : Nat} {cs : Array Value} {b1 : Nat} {nv : Value} {nb : List NB} {room : Int} {nodes : List Nod} {seen : Nms} (h : HalfIn w g cs b1 nv nb room nodes seen) (k : Keeps w w') : HalfIn w' g cs b1 nv nb room nodes seen :=
 {h with blk := h.blk.keeps k, row := Frm.ownsRow_keeps h.row k, nod := fun i h1 h2 => (h.nod i h1 h2).keeps k, names := h.names.keeps k }
theorem HalfIn.cells {w : World} {g : Nat} {cs : Array Value} {b1 : Nat} {nv : Value} {nb : List NB} {room : Int} {nodes : List Nod} {seen : Nms} (h : HalfIn w g cs b1 nv nb room nodes seen) : w.cell? ⟨g, 0, none⟩ = some (.int .i64 room) ∧ w.cell? ⟨g, 1, none⟩ = some nv ∧ w.cell? ⟨g, 2, none⟩ = some (.map (some b1)) :=
 ⟨by rw [h.blk.cell]; exact h.k0, by rw [h.blk.cell]; exact h.k1, by rw [h.blk.cell]; exact h.k2⟩
set_option maxRecDepth 100000 in
set_option maxHeartbeats 2000000 in
theorem freeH_any (w : World) {g : Nat} {cs : Array Value} {b1 : Nat} {nv : Value} {nb : List NB} {room : Int} {nodes : List Nod} {seen : Nms} (h : HalfIn w g cs b1 nv nb room nodes seen) : Calls Tryz.prog 33 #[.pointer (some ⟨g, 0, none⟩)] w fun e w' => e = .returned (.int .i64 (room - bytesN nodes seen)) ∧ Keeps w w' := by
 obtain ⟨c0, c1, c2⟩ := h.cells
 have HD := Lib.hid h
 obtain ⟨D, hown, hr0⟩ := h.names
 have hr1 := h.r1
 have hr2 := h.r2
 have hfr := h.fr
 obtain ⟨pn, cn, rfl, hn1, hn2⟩ := Frm.ownsRow_form h.row
 have hnl := h.len
 have HR0 := Lib.hid hr0
 have HLS := Lib.hid (fun (left : Lit → Bool) => bytesN_sub (nodes := nodes) (a := seen.filter fun p => left (Lit.string p.1)) (List.filter_sublist))
 clear h hr0
 go_enter Tryz.func33, Tryz.ntmps33
 go_upto_region 3 with (at_range; refine wpList_range_own _ rfl _ 83 rfl 9 3 strKeyed Tryz.underlying83 _ b1 _ _ rfl hown ?_; intro w2 hrg0 hg0 hs0)
 obtain ⟨it, hit⟩ : ∃ it, it = w.heap.size := ⟨_, rfl⟩
 rw [← hit] at hrg0 hs0 ⊢
 have HI := Lib.hid hit
 have HK0 := Lib.hid (show Keeps w w2 from (Keeps.refl w).grown hg0 (fun k hk => by cases hk))
 have HRG := Lib.hid hrg0
 clear hrg0 hg0 hown hit c0 c1 c2
 go_frame
 go_loopw [3] (fun nn wr => ∃ (left : Lit → Bool) (cnt : Nat), nn = .int .i64 (room - bytesN nodes seen + leftN nodes seen left) ∧ Hid (wr.ranges Tryz.prog 9 intElem b1 it seen.length D left cnt ∧ Keeps w wr)) (fun _ wr => wr.rangeLeft b1 it)
 case atStart => exact ⟨_, _, by rw [leftN_all HR0.out]; congr 1; omega, Lib.hid ⟨HRG.out, HK0.out⟩⟩
 case round =>
  obtain ⟨left, cnt, rfl, HH⟩ := hrel
  clear HRG HK0
  have hrg := HH.out.1
  go_wp2_with (at_next; refine wpList_next_ranges _ rfl _ rfl 9 strKeyed intElem Value.string (Value.int .i64) (fun key kl hk => by obtain ⟨s, rfl, -, -⟩ := Go.WideMaps.string_of_keyOf Tryz.underlying9 hk; exact ⟨s, rfl⟩) (fun v y hv => intElem_form hv) b1 it _ _ _ _ rfl hrg ?_ ?_)
  ·intro _ hl0
   have HE := Lib.hid (leftN_end (nodes := nodes) (l := seen) hl0)
   rw [HE.out]
   have HK := Lib.hid HH.out.2
   clear hrg HH hl0
   go_wp2_with fail
   go_ret
   exact ⟨by simp, HK.out⟩
  ·intro x c kl yd yp w3 cnt3 hkey hlx hyv hat hrg3 hlt hg3 hs3 hen
   obtain ⟨s, hs, rfl, hsz⟩ := Go.WideMaps.string_of_keyOf Tryz.underlying9 hkey
   obtain rfl : x = s := by simpa using hs
   have hy1 : yd = intD c := by
    unfold intElem at hyv
    simp at hyv
    exact hyv.1.symm
   obtain ⟨X, hX⟩ : ∃ X, X = x.data.toList := ⟨_, rfl⟩
   rw [← hX] at hlx hat hrg3 hkey
   have hhas := has_true_of_atKey hat
   rw [(HR0.out.2.2 X).1] at hhas
   obtain ⟨i, hi⟩ := Option.isSome_iff_exists.1 hhas
   have hci : c = (i : Int) := by
    have h1 := (HR0.out.2.2 X).2 i hi .nil
    rw [hat .nil, hy1] at h1
    simpa [intD] using h1
   have hmem : (X, i) ∈ seen := (look_mem HR0.out.2.1).1 hi
   have hK3 : Keeps w w3 := HH.out.2.grown hg3 (fun k hk => by cases hk; have := HI.out; omega)
   have hin : i < nodes.length := HD.out.is _ hmem
   have hst := leftN_step (nodes := nodes) HR0.out.2.1 hmem hlx
   rw [List.getElem?_eq_getElem hin] at hst
   simp only [Option.map_some, Option.getD_some] at hst
   have hle := HLS.out left
   have hD3 := HD.out.keeps hK3
   obtain ⟨-, c1, -⟩ := hD3.cells
   obtain ⟨gn, cap, hv, -, -, -, hc⟩ := Frm.ownsRow_at hD3.row (by omega)
   simp only [Value.slice.injEq] at hv
   obtain ⟨rfl, -, rfl⟩ := hv
   have n0 : w3.cell? ⟨gn, i, none⟩ = some (.pointer (some ⟨(nb[i]'(by omega)).1, 0, none⟩)) := hc i _ (by simp [List.getElem?_eq_getElem (show i < nb.length by omega)])
   have n1 : w3.cell? ⟨(nb[i]'(by omega)).1, 0, none⟩ = some (.string (bstr nodes[i].seen)) := by rw [(hD3.nod i (by omega) hin).blk.cell]; rfl
   have hbs := bstr_size nodes[i].seen
   have HLE := Lib.hid (And.intro hrg.left_eq hlt)
   have HF := Lib.hid (And.intro hK3 hst)
   generalize (nb[i]'(by omega)).1 = nbi at *
   generalize hsl : nodes[i].seen.length = sl at *
   generalize bstr nodes[i].seen = bs at *
   subst hci
   have hw1 : IntKind.i64.wrap (room - (bytesN nodes seen : Int) + (leftN nodes seen left : Int) - (sl : Int)) = room - (bytesN nodes seen : Int) + (leftN nodes seen left : Int) - (sl : Int) := by
    have : leftN nodes seen left ≤ bytesN nodes seen := hle
    rw [IntKind.wrap_i64]; omega
   clear hs hyv hy1 hhas hi hmem hK3 hat HH hrg hst hle hD3 hc hkey
   go_wp2_with fail
   go_roundw
   case rel => exact ⟨_, cnt3, by rw [HF.out.2]; congr 1; omega, Lib.hid ⟨hrg3, HF.out.1⟩⟩
   case measure =>
    rw [hrg3.left_eq, HLE.out.1]
    exact HLE.out.2
end Vd
end Go.Proofs.YtcleakjjefmmbaaGreat

/- Disk.SyncDir. -/
namespace Go.Proofs.YtcleakjjefmmbaaGreat
open Go.RowKit
namespace Vd
open Go.Maps
set_option maxRecDepth 100000 in
set_option maxHeartbeats 4000000 in
theorem syncDir_any (w : World) {S : Nat → Prop} {g : Nat} {d : Dsk} (h : DiskAt w S g d) (hn : -1 ≤ d.count ∧ d.count ≤ 9000000000000000000) (hnl : d.nodes.length ≤ 1000000000) : Calls Tryz.prog 28 #[.pointer (some ⟨g, 0, none⟩)] w fun e w' => DskDid w (More S w w') g (syncDirD d) e w' := by
 have HC := Lib.hid (change_any w h hn)
 have HX0 : Hid (syncDirD d = if (changeD d).2 ≠ 0 then changeD d else (fixD (changeD d).1, 0)) := Lib.hid rfl
 have HNL : Hid ((changeD d).1.nodes.length ≤ 1000000000) := Lib.hid (by rw [(changeD_seen d).2.1]; exact hnl)
 clear h hnl
 unfold DskDid at HC ⊢
 generalize changeD d = cd at *
 obtain ⟨d1, er⟩ := cd
 simp only at HX0 HNL
 go_enter Tryz.func28, Tryz.ntmps28
 go_wp2_with fail
 refine HC.out.mono ?_
 rintro e w1 ⟨rfl, hd, hm⟩
 have HD := Lib.hid (show DiskAt w1 S g d1 from hd)
 have HM := Lib.hid hm
 clear hd hm HC
 by_cases he : er = 0
 ·subst he
  have HX := Lib.hid (HX0.out.trans (if_neg (by simp)))
  have HF := Lib.hid (fix_any w1 HD.out HNL.out)
  clear HX0 HNL
  go_wp2_with fail
  refine HF.out.mono ?_
  rintro e w2 ⟨rfl, hd2, hm2⟩
  have HD2 := Lib.hid hd2
  have HM2 := Lib.hid hm2
  clear hd2 hm2 HF
  go_wp2_with fail
  go_ret
  exact ⟨(congrArg (fun r : Dsk × Int => Ending.returned (Value.int .i64 r.2)) HX.out).symm, by rw [HX.out]; exact HD2.out.down.more HM.out, (HM.out.trans HM2.out (fun y hy _ => hy)).mono (fun y hy => .inl hy)⟩
 ·have HX := Lib.hid (HX0.out.trans (if_pos he))
  have he' : (er == 0) = false := by simp [he]
  clear he
  go_wp2_with fail
  go_ret
  exact ⟨(congrArg (fun r : Dsk × Int => Ending.returned (Value.int .i64 r.2)) HX.out).symm, by rw [HX.out]; exact HD.out.wide (fun y hy => .inl hy), HM.out.mono (fun y hy => .inl hy)⟩
end Vd
end Go.Proofs.YtcleakjjefmmbaaGreat

/- Disk.known: the nodes that have a name, or may come to have one again. -/
namespace Go.Proofs.YtcleakjjefmmbaaGreat
open Go.RowKit
namespace Vd
open Go.Maps
open Mbx (intD intElem intElem_inv)
def boolsA (n : Nat) (f : Nat → Bool) : Array Value := ((List.range n).map fun i => Value.bool (f i)).toArray
theorem boolsA_size (n : Nat) (f : Nat → Bool) : (boolsA n f).size = n := by simp [boolsA]
theorem boolsA_get {n : Nat} (f : Nat → Bool) {i : Nat} (h : i < n) : (boolsA n f)[i]? = some (.bool (f i)) := by simp [boolsA, h]
theorem boolsA_set {n : Nat} (f : Nat → Bool) (i : Nat) : (boolsA n f).setIfInBounds i (.bool true) = boolsA n (fun k => f k || decide (k = i)) := by
 apply Array.ext_getElem?
 intro j
 rw [Array.getElem?_setIfInBounds, boolsA_size]
 by_cases hj : j < n
 ·rw [boolsA_get _ hj, boolsA_get _ hj]
  split
  ·rename_i h; subst h; simp [hj]
  ·rename_i h
   have : ¬ j = i := fun e => h e.symm
   simp [this]
 ·rw [Array.getElem?_eq_none (by rw [boolsA_size]; omega), Array.getElem?_eq_none (by rw [boolsA_size]; omega)]
  split
  ·rw [if_neg (by omega)]
  ·rfl
theorem boolsA_new (n : Nat) : madeCells (Value.bool false).cells (n * 1) = boolsA n (fun _ => false) := by
 apply Array.ext_getElem?
 intro j
 rw [← Array.getElem?_toList, ← Array.getElem?_toList, Nat.mul_one]
 show (madeCells #[.bool false] n).toList[j]? = _
 rw [toList_madeCells_one]
 unfold boolsA
 rw [List.toList_toArray, List.getElem?_map, List.getElem?_replicate]
 by_cases hj : j < n
 ·rw [if_pos hj, List.getElem?_range hj]; rfl
 ·rw [if_neg hj, List.getElem?_eq_none (by simp; omega)]; rfl
theorem boolI : (Tryz.prog.info? 4).map (fun i => (i.zero, i.size, i.bytes)) = some (some (.bool false), 1, 1) := by kernel_rfl
theorem make_bools (w : World) (n : Nat) (hn : n ≤ 1099511627776) : (Instr.makeSlice 125 (.int .i64 (n : Int)) (.int .i64 (n : Int))).run Tryz.prog w = .ok (.slice (some ⟨w.heap.size, 0, none⟩) n n) (w.alloc (.cells (boolsA n (fun _ => false)) 4)) := by
 obtain ⟨i, hi, hz, hs, hby⟩ := info_parts boolI
 have := run_make (P := Tryz.prog) w 125 4 i (.bool false) Tryz.underlying125 hi hz .i64 .i64 n n (by omega) (by omega) (by rw [hby]; omega) (by omega)
 rw [this, hs, Int.toNat_natCast, boolsA_new]
/-- the nodes that names that have come tell -/
def markB (l : Nms) (left : Lit → Bool) (i : Nat) : Bool := l.any fun p => decide (p.2 = i) && !left (.string p.1)
theorem markB_all {D : DataW Unit} {l : Nms} (h : ReadsN D l) (i : Nat) : markB l (has D) i = false := by
 unfold markB
 rw [List.any_eq_false]
 intro p hp
 rw [(h.2.2 p.1).1, (look_mem h.2.1).2 (show (p.1, p.2) ∈ l from hp)]
 simp
theorem markB_end {l : Nms} {left : Lit → Bool} (h : ∀ kl, left kl = false) (i : Nat) : markB l left i = l.any fun p => decide (p.2 = i) := by
 unfold markB
 simp [h]
theorem markB_step {l : Nms} (hl : AscN l) {left : Lit → Bool} {x : Str} {i : Nat} (hx : (x, i) ∈ l) (k : Nat) : markB l (fun z => left z && !z.sameKey (.string x)) k = (markB l left k || decide (k = i)) := by
 rw [Bool.eq_iff_iff]
 unfold markB
 simp only [Bool.or_eq_true, List.any_eq_true, Bool.and_eq_true, decide_eq_true_eq, Bool.not_eq_true', Bool.and_eq_false_iff]
 constructor
 ·rintro ⟨p, hp, h1, h2⟩
  rcases h2 with h2 | h2
  ·exact .inl ⟨p, hp, h1, h2⟩
  ·right
   have hpx : p.1 = x := by simpa [Lit.sameKey] using h2
   have e1 := (look_mem hl).2 (show (p.1, p.2) ∈ l from hp)
   rw [hpx, (look_mem hl).2 hx] at e1
   have := Option.some.inj e1
   omega
 ·rintro (⟨p, hp, h1, h2⟩ | rfl)
  ·exact ⟨p, hp, h1, .inl h2⟩
  ·exact ⟨_, hx, rfl, .inr (by simp [Lit.sameKey])⟩
/-- the pointers to some of the nodes -/
def ptrsOf (nb : List NB) (L : List Nat) : List Value := L.map fun i => Value.pointer (some ⟨(nb.getD i (0, undef)).1, 0, none⟩)
def knownTo (d : Dsk) (j : Nat) : List Nat := (List.range j).filter (knownB d)
theorem knownTo_succ (d : Dsk) (j : Nat) : knownTo d (j + 1) = if knownB d j then knownTo d j ++ [j] else knownTo d j := by
 unfold knownTo
 rw [List.range_succ, List.filter_append]
 split <;> simp [*]
theorem knownTo_len (d : Dsk) (j : Nat) : (knownTo d j).length ≤ j := by
 have := List.length_filter_le (knownB d) (List.range j)
 simpa [knownTo] using this
def KnownDid (W : World) (nb : List NB) (L : List Nat) (e : Ending) (w' : World) : Prop := ∃ v, e = .returned v ∧ Own w' W.heap.size 92 v (ptrsOf nb L) ∧ Keeps W w'
theorem ranges_mods {R : Value → Option (DataW Unit × List MemPlace)} {P : Program} {k : TypeId} {w w' : World} {b r n cnt : Nat} {D : DataW Unit} {left : Lit → Bool} {S : Nat → Prop} (h : w.ranges P k R b r n D left cnt) (hM : Mods S w w') (h1 : ¬ S b) (h2 : ¬ S r) : w'.ranges P k R b r n D left cnt := by
 obtain ⟨es, clock, since, seen, c0, hb, F, hs, hD, hr, rest⟩ := h
 exact ⟨es, clock, since, seen, c0, hM.heap hb h1, F, hs, hD, hM.heap hr h2, rest⟩
theorem nodok1 : ElemOk Tryz.prog 86 92 8 := elemOk (z := .pointer none) Tryz.underlying86 (by kernel_rfl) rfl
def hasTo (d : Dsk) (j i : Nat) : Bool := (decide (1 ≤ j) && d.seen.any fun p => decide (p.2 = i)) || (decide (2 ≤ j) && d.sure.any fun p => decide (p.2 = i))
set_option maxRecDepth 100000 in
set_option maxHeartbeats 4000000 in
theorem known_any (w : World) {S : Nat → Prop} {g b1 b2 : Nat} {nv mv : Value} {nb : List NB} {d : Dsk} (h : DiskIn w S g b1 b2 nv mv nb d) (hnl : d.nodes.length ≤ 1000000000) : Calls Tryz.prog 65 #[.pointer (some ⟨g, 0, none⟩)] w (KnownDid w nb (knownL d)) := by
 have HD := Lib.hid h
 obtain ⟨-, c1, c2, c3, -⟩ := h.cells
 obtain ⟨po, cap, rfl, -, -⟩ := Frm.ownsRow_form h.row
 rw [h.len] at c1 HD
 have HLN := Lib.hid h.len
 clear h
 obtain ⟨n, hn⟩ : ∃ n, n = d.nodes.length := ⟨_, rfl⟩
 rw [← hn] at c1 HD hnl HLN
 have HN := Lib.hid hn
 clear hn
 have hmk := make_bools w n (by omega)
 unfold KnownDid
 go_enter Tryz.func65, Tryz.ntmps65
 go_upto_region 2 with fail
 generalize hW : World.alloc w _ = w1
 have HK1 := Lib.hid (show Keeps w w1 from by rw [← hW]; exact (Keeps.refl _).alloc _)
 have HB1 := Lib.hid (show Blk w1 w.heap.size 4 (boolsA n (fun _ => false)) from by rw [← hW]; exact Blk.new _ _ _ rfl)
 clear hW hmk
 obtain ⟨H, hH⟩ : ∃ H, H = w.heap.size := ⟨_, rfl⟩
 rw [← hH] at HB1 ⊢
 have HH := Lib.hid hH
 clear hH
 have c2' := keep1 HK1.out c2
 have c3' := keep1 HK1.out c3
 clear c1 c2 c3
 refine wp_region_noPanic ?_
 refine wp_region_held_drew (S := fun w' => Keeps (w1) w') (by kernel_rfl) ((Keeps.refl _).drew) (fun _ => ?_)
 have hHeld : Keeps (w1) (w1).drew := (Keeps.refl _).drew
 refine tq 0 17 ?_
 refine tq 1 18 ?_
 refine tq 2 19 ?_
 refine tq 3 20 ?_ (hy := fun w' hSw => by
  have hSw : Keeps _ w' := hSw
  have hx := keep1 hSw c2'
  clear hSw
  go_simp
  try with_reducible rfl)
 refine tq 4 21 ?_
 refine tq 5 22 ?_
 refine tq 6 23 ?_
 refine tq 7 24 ?_ (hy := fun w' hSw => by
  have hSw : Keeps _ w' := hSw
  have hx := keep1 hSw c3'
  clear hSw
  go_simp
  try with_reducible rfl)
 refine tq 10 27 ?_
 refine rd1 8 (fun K hK => ?_)
 generalize World.drew w1 = xs at *
 go_simp
 obtain ⟨M, hM⟩ : ∃ z, z = (World.heap xs).size := ⟨_, rfl⟩
 rw [← hM]
 have HM := Lib.hid (show Blk (World.alloc xs (.cells #[.map (some b1), .map (some b2)] 83)) M 83 #[.map (some b1), .map (some b2)] from Blk.new _ _ _ hM)
 have hb := hHeld.alloc (.cells #[.map (some b1), .map (some b2)] 83)
 have HMS := Lib.hid (show w1.heap.size ≤ M from by rw [hM]; exact hHeld.size)
 generalize World.alloc xs (.cells #[.map (some b1), .map (some b2)] 83) = w2 at *
 clear hM
 have HK2 := Lib.hid hb
 refine bk1 hK hb ?_
 clear hK K hHeld hb
 intro hHeld
 refine tq 9 26 ?_
 refine wpAnyH_done (by kernel_rfl) ?_ _
 refine NoPanic.normal ?_
 have HB2 := Lib.hid (HB1.out.keeps HK2.out)
 have HK := Lib.hid (HK1.out.trans HK2.out)
 have HLT := Lib.hid (show H < M from by have := HB1.out.lt; have := HMS.out; omega)
 clear c2' c3' HB1 HK1 HMS HK2
 go_wp2_with fail
 go_loopw [27] (fun ix wr => ∃ j : Nat, ix = .int .i64 (j : Int) ∧ j ≤ 2 ∧ Hid (Blk wr H 4 (boolsA n (hasTo d j)) ∧ Keeps w wr ∧ Blk wr M 83 #[.map (some b1), .map (some b2)])) (fun ix _ => 2 - (RowKit.intOf ix).toNat)
 case atStart => exact ⟨0, rfl, by omega, Lib.hid ⟨HB2.out, HK.out, HM.out⟩⟩
 case round =>
  obtain ⟨j, rfl, hj, HR⟩ := hrel
  by_cases hlt : j < 2
  ·obtain ⟨bj, l, hcell, hnam, hst, hbl⟩ : ∃ bj l, wr.cell? ⟨M, j, none⟩ = some (.map (some bj)) ∧ NamesAt w bj l.length l ∧ (∀ i, hasTo d (j + 1) i = (hasTo d j i || l.any fun p => decide (p.2 = i))) ∧ (∀ p ∈ l, p.2 < n) := by
    rcases (show j = 0 ∨ j = 1 by omega) with rfl | rfl
    ·exact ⟨b1, d.seen, by rw [HR.out.2.2.cell]; rfl, HD.out.seen, fun i => by simp [hasTo], fun p hp => by rw [HN.out]; exact HD.out.fit.is p hp⟩
    ·exact ⟨b2, d.sure, by rw [HR.out.2.2.cell]; rfl, HD.out.sure, fun i => by simp [hasTo], fun p hp => by rw [HN.out]; exact HD.out.fit.iu p hp⟩
   have hjl : (j : Int) < 2 := by omega
   have HST := Lib.hid (And.intro hst hbl)
   obtain ⟨D, hown0, hr0⟩ := hnam
   have HR0 := Lib.hid hr0
   have HBJ := Lib.hid (show bj < H from by rw [HH.out]; exact hown0.lt)
   have hown := map_keepsS hown0 HR.out.2.1
   clear hown0 hr0 hst hbl
   go_upto_region 6 with (at_range; refine wpList_range_own _ rfl _ 83 rfl 9 3 strKeyed Tryz.underlying83 _ bj _ _ rfl hown ?_; intro w3 hrg0 hg0 hs0)
   obtain ⟨it, hit⟩ : ∃ it, it = wr.heap.size := ⟨_, rfl⟩
   rw [← hit] at hrg0 hs0 ⊢
   have hk3 : Keeps wr w3 := (Keeps.refl wr).grown hg0 (fun k hk => by cases hk)
   have HI := Lib.hid (show H < it ∧ M < it ∧ bj < it from by have h1 := HR.out.1.lt; have h2 := HR.out.2.2.lt; have h3 := HBJ.out; rw [hit]; omega)
   have HRG := Lib.hid (And.intro hrg0 hk3)
   clear hrg0 hg0 hown hit hk3 hcell
   go_frame
   go_loopw [] (fun wq => ∃ (left : Lit → Bool) (cnt : Nat), Hid (wq.ranges Tryz.prog 9 intElem bj it l.length D left cnt ∧ Blk wq H 4 (boolsA n (fun i => hasTo d j i || markB l left i)) ∧ Keeps w wq ∧ Blk wq M 83 #[.map (some b1), .map (some b2)])) (fun wq => wq.rangeLeft bj it)
   case atStart => exact ⟨_, _, Lib.hid ⟨HRG.out.1, by
    have := HR.out.1.keeps HRG.out.2
    have e : (fun i => hasTo d j i || markB l (has D) i) = hasTo d j := by funext i; rw [markB_all HR0.out, Bool.or_false]
    rw [e]
    exact this, HR.out.2.1.trans HRG.out.2, HR.out.2.2.keeps HRG.out.2⟩⟩
   case round =>
    obtain ⟨left, cnt, HQ⟩ := hrel
    clear HRG
    have hrg := HQ.out.1
    rename World => wq
    go_wp2_with (at_next; refine wpList_next_ranges _ rfl _ rfl 9 strKeyed intElem Value.string (Value.int .i64) (fun key kl hk => by obtain ⟨s, rfl, -, -⟩ := Go.WideMaps.string_of_keyOf Tryz.underlying9 hk; exact ⟨s, rfl⟩) (fun v y hv => intElem_form hv) bj it _ _ _ _ rfl hrg ?_ ?_)
    ·intro _ hl0
     have HE := Lib.hid (show Blk wq H 4 (boolsA n (hasTo d (j + 1))) from by
      have := HQ.out.2.1
      have e : (fun i => hasTo d j i || markB l left i) = hasTo d (j + 1) := by funext i; rw [markB_end hl0, HST.out.1]
      rwa [e] at this)
     have HE2 := Lib.hid HQ.out.2.2
     clear hrg HQ hl0
     go_wp2_with fail
     go_roundw
     case rel => exact ⟨j + 1, by simp, by omega, Lib.hid ⟨HE.out, HE2.out.1, HE2.out.2⟩⟩
     case measure =>
      simp only [RowKit.intOf]
      omega
    ·intro x c kl yd yp w4 cnt4 hkey hlx hyv hat hrg4 hlt4 hg4 hs4 hen
     obtain ⟨s, hs, rfl, hsz⟩ := Go.WideMaps.string_of_keyOf Tryz.underlying9 hkey
     obtain rfl : x = s := by simpa using hs
     have hy1 : yd = intD c := by
      unfold intElem at hyv
      simp at hyv
      exact hyv.1.symm
     obtain ⟨X, hX⟩ : ∃ X, X = x.data.toList := ⟨_, rfl⟩
     rw [← hX] at hlx hat hrg4 hkey
     have hhas := has_true_of_atKey hat
     rw [(HR0.out.2.2 X).1] at hhas
     obtain ⟨i, hi⟩ := Option.isSome_iff_exists.1 hhas
     have hci : c = (i : Int) := by
      have h1 := (HR0.out.2.2 X).2 i hi .nil
      rw [hat .nil, hy1] at h1
      simpa [intD] using h1
     have hmem : (X, i) ∈ l := (look_mem HR0.out.2.1).1 hi
     have hin : i < n := HST.out.2 _ hmem
     have hin' : (i : Int) < (n : Int) := by omega
     have hK4 : Mods (· = it) wq w4 := (Mods.refl (· = it) wq).grown hg4 (fun k hk _ => by cases hk; rfl)
     have hB4 := HQ.out.2.1.mods hK4 (by have := HI.out; omega)
     have hM4 := HQ.out.2.2.2.mods hK4 (by have := HI.out; omega)
     have hc4 : w4.cell? ⟨H, i, none⟩ = some (.bool (hasTo d j i || markB l left i)) := by rw [hB4.cell, boolsA_get _ hin]
     have hz4 : w4.frozen? ⟨H, i, none⟩ = false := hB4.frozen _
     have HKW := Lib.hid (show Keeps w w4 from hK4.keeps HQ.out.2.2.1 (fun y hy => by have h1 := HI.out; have h2 := HH.out; omega))
     have HF := Lib.hid (And.intro hB4 (And.intro hM4 hmem))
     have HLE := Lib.hid (show cnt4 < wq.rangeLeft bj it from by rw [hrg.left_eq]; exact hlt4)
     have HRG4 := Lib.hid hrg4
     subst hci
     generalize (hasTo d j i || markB l left i) = vb at hc4
     clear hs hyv hy1 hhas hi hmem hat hkey hrg hK4 hB4 hM4 HQ hrg4 hlt4 hg4
     go_wp2_with fail
     go_roundw
     case rel =>
      have hMS := (Mods.refl (· = H) w4).setCell (p := ⟨H, i, none⟩) (fun _ => rfl) (.bool true)
      have hI := HI.out
      have hJ := HBJ.out
      refine ⟨_, cnt4, Lib.hid ⟨ranges_mods HRG4.out hMS (by omega) (by omega), ?_, hMS.keeps HKW.out (fun y hy => by have := HH.out; omega), HF.out.2.1.mods hMS (by have := HLT.out; omega)⟩⟩
      have h1 := HF.out.1.set_ i (.bool true)
      rw [boolsA_set] at h1
      have e : (fun k => (hasTo d j k || markB l left k) || decide (k = i)) = fun k => hasTo d j k || markB l (fun z => left z && !z.sameKey (.string X)) k := by
       funext k
       rw [markB_step HR0.out.2.1 HF.out.2.2, Bool.or_assoc]
      rwa [e] at h1
     case measure =>
      have hMS := (Mods.refl (· = H) w4).setCell (p := ⟨H, i, none⟩) (fun _ => rfl) (.bool true)
      have hI := HI.out
      have hJ := HBJ.out
      rw [(ranges_mods HRG4.out hMS (by omega) (by omega)).left_eq]
      exact HLE.out
  ·have hj2 : j = 2 := by omega
   subst hj2
   have HE := Lib.hid (show Blk wr H 4 (boolsA n (hasTo d 2)) ∧ Keeps w wr from ⟨HR.out.1, HR.out.2.1⟩)
   have HD3 := Lib.hid (HD.out.keeps HR.out.2.1)
   obtain ⟨-, c1, -⟩ := HD3.out.cells
   clear HR
   go_wp2_with fail
   go_loopw [8, 46] (fun ov ix ws => ∃ (j : Nat) (pp : Option Addr) (cp : Nat), ix = .int .i64 (j : Int) ∧ j ≤ n ∧ ov = .slice pp (ptrsOf nb (knownTo d j)).length cp ∧ Hid (Own ws wr.heap.size 92 ov (ptrsOf nb (knownTo d j)) ∧ Keeps wr ws)) (fun _ ix _ => n - (RowKit.intOf ix).toNat)
   case atStart => exact ⟨0, none, 0, rfl, Nat.zero_le _, rfl, Lib.hid ⟨Own.nil _ _ _, Keeps.refl _⟩⟩
   case round =>
    obtain ⟨j, pp, cp, rfl, hj, rfl, HO⟩ := hrel
    rename World => ws
    by_cases hlt : j < n
    ·have hjn : j < d.nodes.length := by rw [← HN.out]; exact hlt
     have hD := HD3.out.keeps HO.out.2
     obtain ⟨gn, c, k, pv, hv, hnb, n0, hnd⟩ := hD.nodeAt hjn
     simp only [Value.slice.injEq] at hv
     obtain ⟨rfl, -, rfl⟩ := hv
     have n3 : ws.cell? ⟨k, 3, none⟩ = some (.bool d.nodes[j].fresh) := by rw [hnd.blk.cell]; rfl
     have h3 : ws.cell? ⟨H, j, none⟩ = some (.bool (hasTo d 2 j)) := by rw [(HE.out.1.keeps HO.out.2).cell, boolsA_get _ hlt]
     have hlt' : (j : Int) < (n : Int) := by omega
     have HKL : Hid ((ptrsOf nb (knownTo d j)).length ≤ n) := Lib.hid (by have := knownTo_len d j; simp [ptrsOf]; omega)
     have hkb : knownB d j = (hasTo d 2 j || d.nodes[j].fresh) := by
      unfold knownB hasTo
      rw [nodD_get hjn]
      simp
     have HKN := Lib.hid (show ∀ b, knownB d j = b → ptrsOf nb (knownTo d (j + 1)) = if b then ptrsOf nb (knownTo d j) ++ [.pointer (some ⟨k, 0, none⟩)] else ptrsOf nb (knownTo d j) from fun b hb => by
      rw [knownTo_succ, hb]
      cases b
      ·rfl
      ·simp [ptrsOf, List.getD_eq_getElem?_getD, hnb])
     rw [hkb] at HKN
     generalize d.nodes[j].fresh = fr at n3 HKN
     generalize hasTo d 2 j = hh at h3 HKN
     clear hkb hD hnd hnb hjn
     cases hh with
     |true =>
      have HKY := Lib.hid (HKN.out true rfl)
      clear HKN
      go_wp2_with (at_builtin; refine wpList_app1 (base := wr.heap.size) nodok1 rfl _ _ rfl (.slice pp (ptrsOf nb (knownTo d j)).length cp) (.slice (some ⟨ws.heap.size, 0, none⟩) 1 1) (ptrsOf nb (knownTo d j)) [.pointer (some ⟨k, 0, none⟩)] rfl rfl ((HO.out.1).alloc _) (row_alloc rfl rfl rfl (by decide)) (by simp [Value.oneCell']) (by have := HKL.out; simp; omega) (by decide) (by rw [Frm.alloc_size]; have := HO.out.2.size; omega) ?_; intro v5 w5 ho5 hg5 hf5; obtain ⟨p5, c5, rfl, -, -⟩ := ho5.row.form; have HO5 := Lib.hid ho5; have HG5 := Lib.hid hg5; clear ho5 hg5 hf5)
      go_roundw
      case rel =>
       refine ⟨.slice p5 (ptrsOf nb (knownTo d (j + 1))).length c5, _, _, .int .i64 ((j + 1 : Nat) : Int), ⟨j + 1, rfl, by omega, ⟨p5, c5, rfl⟩, Lib.hid ⟨?_, ?_⟩⟩, ?_, rfl, rfl, by simp⟩
       ·rw [HKY.out]; simpa using HO5.out
       ·exact (HO.out.2.alloc _).grown HG5.out (fun x hx => HO.out.1.base x hx)
       ·rw [HKY.out]; simp
      case measure =>
       simp only [RowKit.intOf]
       omega
     |false =>
      cases fr with
      |true =>
       have HKY := Lib.hid (HKN.out true rfl)
       clear HKN
       go_wp2_with (at_builtin; refine wpList_app1 (base := wr.heap.size) nodok1 rfl _ _ rfl (.slice pp (ptrsOf nb (knownTo d j)).length cp) (.slice (some ⟨ws.heap.size, 0, none⟩) 1 1) (ptrsOf nb (knownTo d j)) [.pointer (some ⟨k, 0, none⟩)] rfl rfl ((HO.out.1).alloc _) (row_alloc rfl rfl rfl (by decide)) (by simp [Value.oneCell']) (by have := HKL.out; simp; omega) (by decide) (by rw [Frm.alloc_size]; have := HO.out.2.size; omega) ?_; intro v5 w5 ho5 hg5 hf5; obtain ⟨p5, c5, rfl, -, -⟩ := ho5.row.form; have HO5 := Lib.hid ho5; have HG5 := Lib.hid hg5; clear ho5 hg5 hf5)
       go_roundw
       case rel =>
        refine ⟨.slice p5 (ptrsOf nb (knownTo d (j + 1))).length c5, _, _, .int .i64 ((j + 1 : Nat) : Int), ⟨j + 1, rfl, by omega, ⟨p5, c5, rfl⟩, Lib.hid ⟨?_, ?_⟩⟩, ?_, rfl, rfl, by simp⟩
        ·rw [HKY.out]; simpa using HO5.out
        ·exact (HO.out.2.alloc _).grown HG5.out (fun x hx => HO.out.1.base x hx)
        ·rw [HKY.out]; simp
       case measure =>
        simp only [RowKit.intOf]
        omega
      |false =>
       have HKY := Lib.hid (HKN.out false rfl)
       clear HKN
       go_wp2_with fail
       go_roundw
       case rel =>
        refine ⟨j + 1, pp, cp, by simp, by omega, ?_, Lib.hid ⟨?_, HO.out.2⟩⟩
        ·rw [HKY.out]; rfl
        ·rw [HKY.out]; exact HO.out.1
       case measure =>
        simp only [RowKit.intOf]
        omega
    ·have hjn : j = n := by omega
     subst hjn
     have hlt' : decide ((j : Int) < (j : Int)) = false := by simp
     go_wp2_with fail
     go_ret
     exact ⟨.slice pp (ptrsOf nb (knownTo d j)).length cp, rfl, by have := HO.out.1.lower HE.out.2.size; rw [HN.out] at this ⊢; exact this, HE.out.2.trans HO.out.2⟩
end Vd
end Go.Proofs.YtcleakjjefmmbaaGreat

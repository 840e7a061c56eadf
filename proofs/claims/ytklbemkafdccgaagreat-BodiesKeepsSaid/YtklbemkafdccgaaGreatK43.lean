/- Several texts in one: VdShelf, VdFix, VdBootPlain, VdFree, VdSyncDir, VdKnown, VdNext. -/
import Derived.Shelf.SlMaps.Clone
import Derived.Test.YtklbemkafdccgaaGreatProg
import Derived.Test.YtklbemkafdccgaaGreatK42
import Derived.Laws.MakeOwn
import Derived.Laws.OwnMore
import Derived.BigQuiet
/- The shelf's contracts at this seat: maps.Clone of a map of names. -/
namespace Go.Proofs
open Go.Shelf
def Tryz.cloneNames_ren : Go.Shelf.Ren := ⟨fun | 5 => 74 | 7 => 111 | n => n, fun | 23 => 128 | 25 => 9 | 3 => 3 | 4 => 4 | 20 => 20 | n => n, fun | n => n⟩
theorem Tryz.cloneNames : Go.Proofs.SlLaysW.n5 Tryz.prog Tryz.cloneNames_ren := {
 mixed := by kernel_rfl
 f5 := ⟨Tryz.f74.name, by decide, Tryz.func74.trans (congrArg some (by kernel_rfl))⟩
 f7 := Tryz.func111.trans (congrArg some (by kernel_rfl))
 t4 := Tryz.underlying4
 a4 := Tryz.isAgg4
 z4 := Tryz.sizeOf4
 v4 := Tryz.zeroValue4
 t20 := Tryz.underlying20
 a20 := Tryz.isAgg20
 z20 := Tryz.sizeOf20
 v20 := Tryz.zeroValue20
 t23 := Tryz.underlying128
 a23 := Tryz.isAgg128
 z23 := Tryz.sizeOf128
 v23 := Tryz.zeroValue128 }
end Go.Proofs

/- Disk.fix, SyncDir. -/
namespace Go.Proofs.YtklbemkafdccgaaGreat
open Go.RowKit Go.Shelf
namespace Vd
open Go.Maps
open Mbx (intElem)
theorem cloneNames_any (w : World) {b n : Nat} {l : Nms} (h : NamesAt w b n l) : Calls Tryz.prog 74 #[.map (some b)] w fun e w' => e = .returned (.map (some w.heap.size)) ∧ NamesAt w' w.heap.size n l ∧ Keeps w w' := by
 obtain ⟨D, h1, h2⟩ := h
 exact (AnyW.maps_Clone_owns Tryz.cloneNames 9 intElem b n D w h1).mono (fun e w' h => ⟨h.1, ⟨D, h.2.1, h2⟩, h.2.2.2⟩)
/-- the blocks of a disk behind calls: its own, and new ones -/
def Up (S : Nat → Prop) (w : World) (x : Nat) : Prop := S x ∨ w.heap.size ≤ x
section
variable {w w' : World} {S : Nat → Prop} {g b1 b2 : Nat} {nv mv : Value} {nb : List NB} {d : Dsk}
theorem DiskIn.tight (h : DiskIn w S g b1 b2 nv mv nb d) : DiskIn w (fun y => S y ∧ y < w.heap.size) g b1 b2 nv mv nb d :=
 {h with
  sg := ⟨h.sg, h.blk.lt⟩
  s1 := ⟨h.s1, h.seen.lt⟩
  s2 := ⟨h.s2, h.sure.lt⟩
  sn := fun y hy => ⟨h.sn y hy, (owns_ty h.row hy).lt⟩
  sm := fun y hy => ⟨h.sm y hy, (owns_ty h.mvs hy).lt⟩
  sb := fun p hp => by
   obtain ⟨i, hi, rfl⟩ := List.mem_iff_getElem.1 hp
   have hn := h.nod i hi (by rw [← h.len]; exact hi)
   have hs := h.sb _ hp
   exact ⟨⟨hs.1, hn.blk.lt⟩, fun y hy => ⟨hs.2 y hy, (owns_ty hn.pats hy).lt⟩⟩ }
theorem DiskAt.down (h : DiskAt w' (Up S w) g d) : DiskAt w' (More S w w') g d := by
 obtain ⟨_, _, _, _, _, h⟩ := h
 exact DiskAt.wide ⟨_, _, _, _, _, h.tight⟩ (fun y hy => hy.1.imp id (fun hh => ⟨hh, hy.2⟩))
theorem DiskIn.anew (h : DiskIn w S g b1 b2 nv mv nb d) {S' T : Nat → Prop} (hS : ∀ y, S y → S' y) (hM : Mods T w w') (hT : ∀ y, T y → y = g ∨ y = b1 ∨ y = b2 ∨ mv.ownBlock = some y) {d' : Dsk} (hd : d'.nodes = d.nodes) {b1' b2' : Nat} {mv' : Value}
  (hB : Blk w' g 134 (diskA d' nv b1' b2' mv')) (hs : NamesAt w' b1' d'.seen.length d'.seen) (hu : NamesAt w' b2' d'.sure.length d'.sure) (hm : w'.ownsRow 0 231 3 mv' d'.moves.length (d'.moves.flatMap mvC)) (h12 : b1' ≠ b2') (s1 : S' b1') (s2 : S' b2') (sm : ∀ y, mv'.ownBlock = some y → S' y) (hf : Fit d') : DiskIn w' S' g b1' b2' nv mv' nb d' := by
 have tg : Ty w g 134 := ⟨_, h.blk⟩
 have out : ∀ {y : Nat} {t : TypeId}, Ty w y t → 134 ≠ t → 231 ≠ t → ¬ T y := fun hy n1 n2 ht => by
  rcases hT _ ht with e | e | e | e
  ·exact Ty.ne tg hy n1 e.symm
  ·exact names_ty h.seen hy e.symm
  ·exact names_ty h.sure hy e.symm
  ·exact Ty.ne (owns_ty h.mvs e) hy n2 rfl
 exact
  {blk := hB
   row := Frm.ownsRow_mods h.row hM (fun y hy => out (owns_ty h.row hy) (by decide) (by decide))
   len := by rw [hd]; exact h.len
   nod := fun i h1 h2 => by
    have hh := h.nod i h1 (by rw [← hd]; exact h2)
    have he : d'.nodes[i] = d.nodes[i]'(by rw [← hd]; exact h2) := by simp [hd]
    rw [he]
    exact hh.mods hM (out ⟨_, hh.blk⟩ (by decide) (by decide)) (fun y hy => out (owns_ty hh.pats hy) (by decide) (by decide))
   sep := h.sep
   seen := hs
   sure := hu
   mvs := hm
   d12 := h12
   sg := hS _ h.sg
   s1 := s1
   s2 := s2
   sn := fun y hy => hS _ (h.sn y hy)
   sm := sm
   sb := fun p hp => ⟨hS _ (h.sb p hp).1, fun y hy => hS _ ((h.sb p hp).2 y hy)⟩
   fit := hf }
end
/-- the first nodes are stale -/
def staleTo (d : Dsk) (j : Nat) : Dsk := { d with nodes := (d.nodes.take j).map staleN ++ d.nodes.drop j }
theorem staleTo_zero (d : Dsk) : staleTo d 0 = d := by simp [staleTo]
theorem staleTo_len (d : Dsk) (j : Nat) : (staleTo d j).nodes.length = d.nodes.length := by simp [staleTo]; omega
theorem staleTo_all {d : Dsk} {j : Nat} (h : d.nodes.length ≤ j) : staleTo d j = { d with nodes := d.nodes.map staleN } := by
 simp [staleTo, List.take_of_length_le h, List.drop_of_length_le h]
theorem staleTo_get {d : Dsk} {j : Nat} (h : j < d.nodes.length) : (staleTo d j).nodes[j]'(by rw [staleTo_len]; exact h) = d.nodes[j] := by
 simp [staleTo, List.getElem_append, Nat.min_eq_left (Nat.le_of_lt h)]
theorem staleTo_succ {d : Dsk} {j : Nat} (h : j < d.nodes.length) : { staleTo d j with nodes := (staleTo d j).nodes.set j (staleN d.nodes[j]) } = staleTo d (j + 1) := by
 unfold staleTo
 simp only [Dsk.mk.injEq, true_and, and_true]
 have hl : ((d.nodes.take j).map staleN).length = j := by simp; omega
 rw [List.set_append_right _ _ (by omega), hl, Nat.sub_self, List.drop_eq_getElem_cons h, List.set_cons_zero, List.take_succ_eq_append_getElem h, List.map_append]
 simp only [List.map_cons, List.map_nil, List.append_assoc, List.singleton_append]
theorem fit_stale {d : Dsk} (h : Fit d) (j : Nat) : Fit (staleTo d j) := by
 have hm : ∀ x ∈ (staleTo d j).nodes, ∃ y ∈ d.nodes, x.seen = y.seen ∧ x.sure = y.sure ∧ x.pats = y.pats := fun x hx => by
  rcases List.mem_append.1 hx with hx | hx
  ·obtain ⟨y, hy, rfl⟩ := List.mem_map.1 hx
   exact ⟨y, List.mem_of_mem_take hy, rfl, rfl, rfl⟩
  ·exact ⟨x, List.mem_of_mem_drop hx, rfl, rfl, rfl⟩
 have hl := staleTo_len d j
 have hn : ∀ x ∈ (staleTo d j).nodes, x.seen.length ≤ 1000000000 ∧ x.sure.length ≤ 1000000000 := fun x hx => by
  obtain ⟨y, hy, e1, e2, -⟩ := hm x hx
  rw [e1, e2]
  exact h.ns y hy
 exact { h with
  is := fun p hp => by rw [hl]; exact h.is p hp
  iu := fun p hp => by rw [hl]; exact h.iu p hp
  im := fun p hp => by rw [hl]; exact h.im p hp
  ns := hn
  ps := fun x hx p hp => by
   obtain ⟨y, hy, -, -, e3⟩ := hm x hx
   rw [e3] at hp
   exact h.ps y hy p hp
  fr := fit_fr (fun x hx => (hn x hx).1) h.s1 }
set_option maxRecDepth 100000 in
set_option maxHeartbeats 4000000 in
theorem fix_any (w : World) {S : Nat → Prop} {g : Nat} {d : Dsk} (h : DiskAt w S g d) (hnl : d.nodes.length ≤ 1000000000) : Calls Tryz.prog 178 #[.pointer (some ⟨g, 0, none⟩)] w fun e w' => e = .returned (.tuple #[]) ∧ DiskAt w' (Up S w) g (fixD d) ∧ Mods S w w' := by
 obtain ⟨b1, b2, nv, mv, nb, h⟩ := h
 have HD := Lib.hid h
 have HCL := Lib.hid (cloneNames_any w h.seen)
 obtain ⟨-, c1, c2, c3, c4, -⟩ := h.cells
 have z3 : w.frozen? ⟨g, 3, none⟩ = false := h.blk.frozen _
 have z4 : w.frozen? ⟨g, 4, none⟩ = false := h.blk.frozen _
 obtain ⟨po, cap, rfl, -, -⟩ := Frm.ownsRow_form h.row
 have hln := h.len
 rw [hln] at c1
 clear h
 go_enter Tryz.func178, Tryz.ntmps178
 go_wp2_with fail
 refine HCL.out.mono ?_
 rintro e w1 ⟨rfl, hn1, hk1⟩
 have HB1 := Lib.hid (HD.out.blk.keeps hk1)
 have c3' : w1.cell? ⟨g, 3, none⟩ = some (.map (some b2)) := by rw [HB1.out.cell]; rfl
 have c4' : w1.cell? ⟨g, 4, none⟩ = some mv := by rw [HB1.out.cell]; rfl
 have z3' : w1.frozen? ⟨g, 3, none⟩ = false := HB1.out.frozen _
 have z4' : w1.frozen? ⟨g, 4, none⟩ = false := HB1.out.frozen _
 have HN1 := Lib.hid hn1
 have HK1 := Lib.hid hk1
 clear hn1 hk1 HCL c1 c2 c3 c4 z3 z4
 go_upto_region 1 with fail
 have HM2 := Lib.hid (((Mods.of_keeps (S := (· = g)) HK1.out).setCell (p := ⟨g, 3, none⟩) (fun _ => rfl) (.map (some w.heap.size))).setCell (p := ⟨g, 4, none⟩) (fun _ => rfl) (.slice none 0 0))
 have HB2 := Lib.hid (show Blk ((w1.setCell ⟨g, 3, none⟩ (.map (some w.heap.size))).setCell ⟨g, 4, none⟩ (.slice none 0 0)) g 134 (diskA { d with sure := d.seen, moves := [] } (.slice po nb.length cap) b1 w.heap.size (.slice none 0 0)) from (HB1.out.set_ 3 _).set_ 4 _)
 have HN2 := Lib.hid (HN1.out.mods (((Mods.refl (· = g) w1).setCell (p := ⟨g, 3, none⟩) (fun _ => rfl) (.map (some w.heap.size))).setCell (p := ⟨g, 4, none⟩) (fun _ => rfl) (.slice none 0 0)) (fun e => by have := HD.out.blk.lt; omega))
 clear c3' c4' z3' z4' HN1 HB1 HK1
 generalize (w1.setCell ⟨g, 3, none⟩ (.map (some w.heap.size))).setCell ⟨g, 4, none⟩ (.slice none 0 0) = w2 at *
 have HI := Lib.hid (show DiskIn w2 (Up S w) g b1 w.heap.size (.slice po nb.length cap) (.slice none 0 0) nb { d with sure := d.seen, moves := [] } from
  HD.out.anew (S' := Up S w) (T := (· = g)) (d' := { d with sure := d.seen, moves := [] }) (fun y hy => .inl hy) HM2.out (fun y hy => .inl hy) rfl HB2.out (HD.out.seen.mods HM2.out (fun e => HD.out.ng.1 e)) HN2.out (World.ownsRow_nil _ _ _ 3) (fun e => by have := HD.out.seen.lt; omega) (.inl HD.out.s1) (.inr (Nat.le_refl _)) (fun y hy => by simp [Value.ownBlock] at hy)
   (show Fit { d with sure := d.seen, moves := [] } from { HD.out.fit with s2 := HD.out.fit.s1, iu := HD.out.fit.is, im := fun p hp => by simp at hp, nm := fun p hp => by simp at hp }))
 obtain ⟨d0, hd0⟩ : ∃ d0, d0 = { d with sure := d.seen, moves := [] } := ⟨_, rfl⟩
 have hdn : d0.nodes = d.nodes := by rw [hd0]
 rw [← hd0] at HI
 have HX : Hid (fixD d = { d0 with nodes := d0.nodes.map staleN }) := Lib.hid (by rw [hd0]; rfl)
 have c1' : w2.cell? ⟨g, 1, none⟩ = some (.slice po nb.length cap) := by rw [HB2.out.cell]; rfl
 rw [← hdn] at hln hnl
 have HLN := Lib.hid hln
 rw [hln] at HI c1'
 obtain ⟨n, hnn⟩ : ∃ n, n = d0.nodes.length := ⟨_, rfl⟩
 rw [← hnn] at HI c1' hnl
 have HNN := Lib.hid hnn
 clear HB2 HN2 hd0 hln hnn hdn
 go_wp2_with fail
 go_loopw [20] (fun ix wr => ∃ j : Nat, ix = .int .i64 (j : Int) ∧ j ≤ n ∧ Hid ((∃ nb', DiskIn wr (Up S w) g b1 w.heap.size (.slice po n cap) (.slice none 0 0) nb' (staleTo d0 j)) ∧ Mods S w wr)) (fun ix _ => n - (RowKit.intOf ix).toNat)
 case atStart => exact ⟨0, rfl, Nat.zero_le _, Lib.hid ⟨⟨nb, by rw [staleTo_zero]; exact HI.out⟩, HM2.out.mono (fun y hy => by subst hy; exact HD.out.sg)⟩⟩
 case round =>
  obtain ⟨j, rfl, hj, HH⟩ := hrel
  by_cases hlt : j < n
  ·obtain ⟨nb', hD⟩ := HH.out.1
   have hjd : j < d0.nodes.length := by rw [← HNN.out]; exact hlt
   have hjs : j < (staleTo d0 j).nodes.length := by rw [staleTo_len]; exact hjd
   obtain ⟨gn, c, k, pv, hv, hnb, n0, hnd⟩ := hD.nodeAt hjs
   simp only [Value.slice.injEq] at hv
   obtain ⟨rfl, -, rfl⟩ := hv
   have n3 : wr.cell? ⟨k, 3, none⟩ = some (.bool (staleTo d0 j).nodes[j].fresh) := by rw [hnd.blk.cell]; rfl
   have z3 : wr.frozen? ⟨k, 3, none⟩ = false := hnd.blk.frozen _
   have HDJ := Lib.hid hD
   have HND := Lib.hid hnd
   have HNB := Lib.hid hnb
   have HJ := Lib.hid hjs
   generalize hfr : (staleTo d0 j).nodes[j].fresh = fr at n3
   have hlt' : (j : Int) < (n : Int) := by omega
   clear hD hnd hnb hjd hfr
   go_wp2_with fail
   go_roundw
   case rel =>
    have hB := HND.out.blk.set_ 3 (.bool false)
    have hM := (Mods.refl (· = k) wr).setCell (p := ⟨k, 3, none⟩) (fun _ => rfl) (.bool false)
    have hjd : j < d0.nodes.length := by have := HJ.out; rwa [staleTo_len] at this
    have hn : NodB (wr.setCell ⟨k, 3, none⟩ (.bool false)) (k, pv) (staleN d0.nodes[j]) := by
     rw [← staleTo_get hjd]
     exact ⟨hB, Frm.ownsRow_mods HND.out.pats hM (fun y hy e => Frm.ownsRow_ne HND.out.pats HND.out.blk (by decide) (by rw [hy, e]))⟩
    have hR := HDJ.out.node HJ.out HNB.out hM (fun y hy => .inl hy) hn (fun y hy => .inl hy) (by rw [staleTo_succ hjd]; exact fit_stale HI.out.fit _)
    rw [staleTo_succ hjd] at hR
    have hsz := HH.out.2.size
    exact ⟨j + 1, by simp, by omega, Lib.hid ⟨⟨_, hR.wide (fun y hy => hy.elim id (fun hh => .inr (by omega)))⟩, HH.out.2.trans hM (fun y hy hlt => by
     subst hy
     have := (HDJ.out.sb _ (List.mem_of_getElem? HNB.out)).1
     exact this.elim id (fun hh => by omega))⟩⟩
   case measure =>
    simp only [RowKit.intOf]
    omega
  ·have hlt' : decide ((j : Int) < (n : Int)) = false := by simp; omega
   have HJ : Hid (n ≤ j) := Lib.hid (by omega)
   go_wp2_with fail
   go_end0
   obtain ⟨nb', hD⟩ := HH.out.1
   rw [staleTo_all (by rw [← HNN.out]; exact HJ.out)] at hD
   exact ⟨rfl, by rw [HX.out]; exact ⟨_, _, _, _, _, hD⟩, HH.out.2⟩
end Vd
end Go.Proofs.YtklbemkafdccgaaGreat

/- Boot, plain: what it keeps of the writes and of the names. -/
namespace Go.Proofs.YtklbemkafdccgaaGreat
open Go.RowKit
namespace Vd
open Go.Maps
/-- the names behind the first turns -/
def gaveN (d : Dsk) (j : Nat) : Nms := (d.moves.take j).foldl giveN d.sure
end Vd
end Go.Proofs.YtklbemkafdccgaaGreat

/- free, of a disk that New makes still. -/
namespace Go.Proofs.YtklbemkafdccgaaGreat
open Go.RowKit
namespace Vd
open Go.Maps
open Mbx (intD intElem intElem_inv)
structure HalfIn (w : World) (g : Nat) (cs : Array Value) (b1 : Nat) (nv : Value) (nb : List NB) (room : Int) (nodes : List Nod) (seen : Nms) : Prop where
 blk : Blk w g 134 cs
 k0 : cs[0]? = some (.int .i64 room)
 k1 : cs[1]? = some nv
 k2 : cs[2]? = some (.map (some b1))
 row : w.ownsRow 0 137 1 nv nb.length (nb.map fun p => Value.pointer (some ⟨p.1, 0, none⟩))
 len : nb.length = nodes.length
 nod : ∀ i (h : i < nb.length) (h2 : i < nodes.length), NodB w nb[i] nodes[i]
 names : NamesAt w b1 seen.length seen
 is : ∀ p ∈ seen, p.2 < nodes.length
 r1 : 1 ≤ room
 r2 : room ≤ 4194304
 fr : (bytesN nodes seen : Int) ≤ 4000000000000000
theorem HalfIn.keeps {w w' : World} {g : Nat} {cs : Array Value} {b1 : Nat} {nv : Value} {nb : List NB} {room : Int} {nodes : List Nod} {seen : Nms} (h : HalfIn w g cs b1 nv nb room nodes seen) (k : Keeps w w') : HalfIn w' g cs b1 nv nb room nodes seen :=
 {h with blk := h.blk.keeps k, row := Frm.ownsRow_keeps h.row k, nod := fun i h1 h2 => (h.nod i h1 h2).keeps k, names := h.names.keeps k }
theorem HalfIn.cells {w : World} {g : Nat} {cs : Array Value} {b1 : Nat} {nv : Value} {nb : List NB} {room : Int} {nodes : List Nod} {seen : Nms} (h : HalfIn w g cs b1 nv nb room nodes seen) : w.cell? ⟨g, 0, none⟩ = some (.int .i64 room) ∧ w.cell? ⟨g, 1, none⟩ = some nv ∧ w.cell? ⟨g, 2, none⟩ = some (.map (some b1)) :=
 ⟨by rw [h.blk.cell]; exact h.k0, by rw [h.blk.cell]; exact h.k1, by rw [h.blk.cell]; exact h.k2⟩
set_option maxRecDepth 100000 in
set_option maxHeartbeats 2000000 in
theorem freeH_any (w : World) {g : Nat} {cs : Array Value} {b1 : Nat} {nv : Value} {nb : List NB} {room : Int} {nodes : List Nod} {seen : Nms} (h : HalfIn w g cs b1 nv nb room nodes seen) : Calls Tryz.prog 73 #[.pointer (some ⟨g, 0, none⟩)] w fun e w' => e = .returned (.int .i64 (room - bytesN nodes seen)) ∧ Keeps w w' := by
 obtain ⟨c0, c1, c2⟩ := h.cells
 have HD := Lib.hid h
 obtain ⟨D, hown, hr0⟩ := h.names
 have hr1 := h.r1
 have hr2 := h.r2
 have hfr := h.fr
 obtain ⟨pn, cn, rfl, hn1, hn2⟩ := Frm.ownsRow_form h.row
 have hnl := h.len
 have HR0 := Lib.hid hr0
 have HLS := Lib.hid (fun (left : Lit → Bool) => bytesN_sub (nodes := nodes) (a := seen.filter fun p => left (Lit.string p.1)) (List.filter_sublist))
 clear h hr0
 go_enter Tryz.func73, Tryz.ntmps73
 go_upto_region 3 with (at_range; refine wpList_range_own _ rfl _ 128 rfl 9 3 strKeyed Tryz.underlying128 _ b1 _ _ rfl hown ?_; intro w2 hrg0 hg0 hs0)
 obtain ⟨it, hit⟩ : ∃ it, it = w.heap.size := ⟨_, rfl⟩
 rw [← hit] at hrg0 hs0 ⊢
 have HI := Lib.hid hit
 have HK0 := Lib.hid (show Keeps w w2 from (Keeps.refl w).grown hg0 (fun k hk => by cases hk))
 have HRG := Lib.hid hrg0
 clear hrg0 hg0 hown hit c0 c1 c2
 go_frame
 go_loopw [3] (fun nn wr => ∃ (left : Lit → Bool) (cnt : Nat), nn = .int .i64 (room - bytesN nodes seen + leftN nodes seen left) ∧ Hid (wr.ranges Tryz.prog 9 intElem b1 it seen.length D left cnt ∧ Keeps w wr)) (fun _ wr => wr.rangeLeft b1 it)
 case atStart => exact ⟨_, _, by rw [leftN_all HR0.out]; congr 1; omega, Lib.hid ⟨HRG.out, HK0.out⟩⟩
 case round =>
  obtain ⟨left, cnt, rfl, HH⟩ := hrel
  clear HRG HK0
  have hrg := HH.out.1
  go_wp2_with (at_next; refine wpList_next_ranges _ rfl _ rfl 9 strKeyed intElem Value.string (Value.int .i64) (fun key kl hk => by obtain ⟨s, rfl, -, -⟩ := Go.WideMaps.string_of_keyOf Tryz.underlying9 hk; exact ⟨s, rfl⟩) (fun v y hv => intElem_form hv) b1 it _ _ _ _ rfl hrg ?_ ?_)
  ·intro _ hl0
   have HE := Lib.hid (leftN_end (nodes := nodes) (l := seen) hl0)
   rw [HE.out]
   have HK := Lib.hid HH.out.2
   clear hrg HH hl0
   go_wp2_with fail
   go_ret
   exact ⟨by simp, HK.out⟩
  ·intro x c kl yd yp w3 cnt3 hkey hlx hyv hat hrg3 hlt hg3 hs3 hen
   obtain ⟨s, hs, rfl, hsz⟩ := Go.WideMaps.string_of_keyOf Tryz.underlying9 hkey
   obtain rfl : x = s := by simpa using hs
   have hy1 : yd = intD c := by
    unfold intElem at hyv
    simp at hyv
    exact hyv.1.symm
   obtain ⟨X, hX⟩ : ∃ X, X = x.data.toList := ⟨_, rfl⟩
   rw [← hX] at hlx hat hrg3 hkey
   have hhas := has_true_of_atKey hat
   rw [(HR0.out.2.2 X).1] at hhas
   obtain ⟨i, hi⟩ := Option.isSome_iff_exists.1 hhas
   have hci : c = (i : Int) := by
    have h1 := (HR0.out.2.2 X).2 i hi .nil
    rw [hat .nil, hy1] at h1
    simpa [intD] using h1
   have hmem : (X, i) ∈ seen := (look_mem HR0.out.2.1).1 hi
   have hK3 : Keeps w w3 := HH.out.2.grown hg3 (fun k hk => by cases hk; have := HI.out; omega)
   have hin : i < nodes.length := HD.out.is _ hmem
   have hst := leftN_step (nodes := nodes) HR0.out.2.1 hmem hlx
   rw [List.getElem?_eq_getElem hin] at hst
   simp only [Option.map_some, Option.getD_some] at hst
   have hle := HLS.out left
   have hD3 := HD.out.keeps hK3
   obtain ⟨-, c1, -⟩ := hD3.cells
   obtain ⟨gn, cap, hv, -, -, -, hc⟩ := Frm.ownsRow_at hD3.row (by omega)
   simp only [Value.slice.injEq] at hv
   obtain ⟨rfl, -, rfl⟩ := hv
   have n0 : w3.cell? ⟨gn, i, none⟩ = some (.pointer (some ⟨(nb[i]'(by omega)).1, 0, none⟩)) := hc i _ (by simp [List.getElem?_eq_getElem (show i < nb.length by omega)])
   have n1 : w3.cell? ⟨(nb[i]'(by omega)).1, 0, none⟩ = some (.string (bstr nodes[i].seen)) := by rw [(hD3.nod i (by omega) hin).blk.cell]; rfl
   have hbs := bstr_size nodes[i].seen
   have HLE := Lib.hid (And.intro hrg.left_eq hlt)
   have HF := Lib.hid (And.intro hK3 hst)
   generalize (nb[i]'(by omega)).1 = nbi at *
   generalize hsl : nodes[i].seen.length = sl at *
   generalize bstr nodes[i].seen = bs at *
   subst hci
   have hw1 : IntKind.i64.wrap (room - (bytesN nodes seen : Int) + (leftN nodes seen left : Int) - (sl : Int)) = room - (bytesN nodes seen : Int) + (leftN nodes seen left : Int) - (sl : Int) := by
    have : leftN nodes seen left ≤ bytesN nodes seen := hle
    rw [IntKind.wrap_i64]; omega
   clear hs hyv hy1 hhas hi hmem hK3 hat HH hrg hst hle hD3 hc hkey
   go_wp2_with fail
   go_roundw
   case rel => exact ⟨_, cnt3, by rw [HF.out.2]; congr 1; omega, Lib.hid ⟨hrg3, HF.out.1⟩⟩
   case measure =>
    rw [hrg3.left_eq, HLE.out.1]
    exact HLE.out.2
end Vd
end Go.Proofs.YtklbemkafdccgaaGreat

/- Disk.SyncDir. -/
namespace Go.Proofs.YtklbemkafdccgaaGreat
open Go.RowKit
namespace Vd
open Go.Maps
set_option maxRecDepth 100000 in
set_option maxHeartbeats 4000000 in
theorem syncDir_any (w : World) {S : Nat → Prop} {g : Nat} {d : Dsk} (h : DiskAt w S g d) (hn : -1 ≤ d.count ∧ d.count ≤ 9000000000000000000) (hnl : d.nodes.length ≤ 1000000000) : Calls Tryz.prog 135 #[.pointer (some ⟨g, 0, none⟩)] w fun e w' => DskDid w (More S w w') g (syncDirD d) e w' := by
 have HC := Lib.hid (change_any w h hn)
 have HX0 : Hid (syncDirD d = if (changeD d).2 ≠ 0 then changeD d else (fixD (changeD d).1, 0)) := Lib.hid rfl
 have HNL : Hid ((changeD d).1.nodes.length ≤ 1000000000) := Lib.hid (by rw [(changeD_seen d).2.1]; exact hnl)
 clear h hnl
 unfold DskDid at HC ⊢
 generalize changeD d = cd at *
 obtain ⟨d1, er⟩ := cd
 simp only at HX0 HNL
 go_enter Tryz.func135, Tryz.ntmps135
 go_wp2_with fail
 refine HC.out.mono ?_
 rintro e w1 ⟨rfl, hd, hm⟩
 have HD := Lib.hid (show DiskAt w1 S g d1 from hd)
 have HM := Lib.hid hm
 clear hd hm HC
 by_cases he : er = 0
 ·subst he
  have HX := Lib.hid (HX0.out.trans (if_neg (by simp)))
  have HF := Lib.hid (fix_any w1 HD.out HNL.out)
  clear HX0 HNL
  go_wp2_with fail
  refine HF.out.mono ?_
  rintro e w2 ⟨rfl, hd2, hm2⟩
  have HD2 := Lib.hid hd2
  have HM2 := Lib.hid hm2
  clear hd2 hm2 HF
  go_wp2_with fail
  go_ret
  exact ⟨(congrArg (fun r : Dsk × Int => Ending.returned (Value.int .i64 r.2)) HX.out).symm, by rw [HX.out]; exact HD2.out.down.more HM.out, (HM.out.trans HM2.out (fun y hy _ => hy)).mono (fun y hy => .inl hy)⟩
 ·have HX := Lib.hid (HX0.out.trans (if_pos he))
  have he' : (er == 0) = false := by simp [he]
  clear he
  go_wp2_with fail
  go_ret
  exact ⟨(congrArg (fun r : Dsk × Int => Ending.returned (Value.int .i64 r.2)) HX.out).symm, by rw [HX.out]; exact HD.out.wide (fun y hy => .inl hy), HM.out.mono (fun y hy => .inl hy)⟩
end Vd
end Go.Proofs.YtklbemkafdccgaaGreat

/- Disk.known: the nodes that have a name, or may come to have one again. -/
namespace Go.Proofs.YtklbemkafdccgaaGreat
open Go.RowKit
namespace Vd
open Go.Maps
open Mbx (intD intElem intElem_inv)
def boolsA (n : Nat) (f : Nat → Bool) : Array Value := ((List.range n).map fun i => Value.bool (f i)).toArray
/-- the nodes that names that have come tell -/
def markB (l : Nms) (left : Lit → Bool) (i : Nat) : Bool := l.any fun p => decide (p.2 = i) && !left (.string p.1)
/-- the pointers to some of the nodes -/
def ptrsOf (nb : List NB) (L : List Nat) : List Value := L.map fun i => Value.pointer (some ⟨(nb.getD i (0, undef)).1, 0, none⟩)
def knownTo (d : Dsk) (j : Nat) : List Nat := (List.range j).filter (knownB d)
def KnownDid (W : World) (nb : List NB) (L : List Nat) (e : Ending) (w' : World) : Prop := ∃ v, e = .returned v ∧ Own w' W.heap.size 137 v (ptrsOf nb L) ∧ Keeps W w'
def hasTo (d : Dsk) (j i : Nat) : Bool := (decide (1 ≤ j) && d.seen.any fun p => decide (p.2 = i)) || (decide (2 ≤ j) && d.sure.any fun p => decide (p.2 = i))
end Vd
end Go.Proofs.YtklbemkafdccgaaGreat

/- keepers.next: how many bytes of the next write are kept. -/
namespace Go.Proofs.YtklbemkafdccgaaGreat
open Go.RowKit
namespace Vd
open Go.Maps
def patA (p : Pat) : Array Value := #[.int .i64 (p.place : Int), .string (bstr p.b)]
def nKeep (ks : List Int) (p : Pat) : Nat := match ks with
 | [] => 0
 |a :: _ => (min (max a 0) (p.b.length : Int)).toNat
end Vd
end Go.Proofs.YtklbemkafdccgaaGreat

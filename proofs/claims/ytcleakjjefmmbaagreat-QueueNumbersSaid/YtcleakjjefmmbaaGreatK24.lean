/- Several texts in one: VdRest, VdWrite, VdAppend, VdRename, RfPlain. -/
import Derived.Test.YtcleakjjefmmbaaGreatVdCreate
import Derived.Test.YtcleakjjefmmbaaGreatVdOver
import Derived.StillTailTactics
/- What Append, Pwrite, Rename, Unlink, SyncDir, Boot make of a disk, plain; what holds of a disk behind them. -/
namespace Go.Proofs.YtcleakjjefmmbaaGreat
open Go.RowKit
namespace Vd
open Go.Maps
def zeroN : Nod := ⟨[], [], [], false⟩
def nodD (d : Dsk) (i : Nat) : Nod := d.nodes.getD i zeroN
def putD (d : Dsk) (i : Nat) (x : Nod) : Dsk := { d with nodes := d.nodes.set i x }
def wroteN (x : Nod) (p : Pat) : Nod := { x with seen := overL x.seen p.place p.b, pats := x.pats ++ [p] }
def writeD (d : Dsk) (i : Nat) (p : Pat) : Dsk × Int :=
 if freeD d < ((overL (nodD d i).seen p.place p.b).length : Int) - ((nodD d i).seen.length : Int) then (d, 10) else (putD d i (wroteN (nodD d i) p), 0)
def appendD (d : Dsk) (x b : Str) : Dsk × Int :=
 if (touchD d x).2.2 ≠ 0 then ((touchD d x).1, (touchD d x).2.2)
 else writeD (touchD d x).1 (touchD d x).2.1 ⟨(nodD (touchD d x).1 (touchD d x).2.1).seen.length, b⟩
def renameD (d : Dsk) (x y : Str) : Dsk × Int :=
 if (changeD d).2 ≠ 0 then changeD d
 else if namedB y = false then ((changeD d).1, 3)
 else if (look d.seen x).isSome then (turnD (changeD d).1 ⟨(look d.seen x).getD 0, y, false⟩, 0)
 else ((changeD d).1, 7)
def unlinkD (d : Dsk) (x : Str) : Dsk × Int :=
 if (touchD d x).2.2 ≠ 0 then ((touchD d x).1, (touchD d x).2.2)
 else (turnD (touchD d x).1 ⟨(touchD d x).2.1, [], false⟩, 0)
def staleN (x : Nod) : Nod := { x with fresh := false }
def fixD (d : Dsk) : Dsk := { d with sure := d.seen, moves := [], nodes := d.nodes.map staleN }
def syncDirD (d : Dsk) : Dsk × Int := if (changeD d).2 ≠ 0 then changeD d else (fixD (changeD d).1, 0)
/-- a node that has a name, or may come to have one again -/
def knownB (d : Dsk) (i : Nat) : Bool := d.seen.any (fun p => decide (p.2 = i)) || d.sure.any (fun p => decide (p.2 = i)) || (nodD d i).fresh
def knownL (d : Dsk) : List Nat := (List.range d.nodes.length).filter (knownB d)
def keepN (k : List Int) (p : Pat) : Pat × List Int := match k with
 | [] => (⟨p.place, []⟩, [])
 |a :: k => (⟨p.place, p.b.take (min (max a 0) (p.b.length : Int)).toNat⟩, k)
def bootPats : List Pat → Str → List Int → Str × List Int
 | [], s, k => (s, k)
 |p :: ps, s, k => bootPats ps (if (keepN k p).1.b = [] then s else overL s (keepN k p).1.place (keepN k p).1.b) (keepN k p).2
def bootN (x : Nod) (k : List Int) : Nod := ⟨(bootPats x.pats x.sure k).1, (bootPats x.pats x.sure k).1, [], x.fresh⟩
def bootIx : List Nat → List Nod → List Int → List Nod × List Int
 | [], ns, k => (ns, k)
 |i :: is, ns, k => bootIx is (ns.set i (bootN (ns.getD i zeroN) k)) (bootPats (ns.getD i zeroN).pats (ns.getD i zeroN).sure k).2
def bootD (d : Dsk) (turns : Int) (keep : List Int) : Dsk × Int :=
 if d.off = false then (d, 13)
 else ({ fixD { d with nodes := (bootIx (knownL d) d.nodes keep).1, seen := (d.moves.take turns.toNat).foldl giveN d.sure } with off := false, fail := (-1, 0), crash := (-1, 0) }, 0)

theorem overL_len (s b : Str) (p : Nat) : (overL s p b).length = max s.length (p + b.length) := by
 unfold overL
 simp
 omega
theorem bytesN_le {nodes : List Nod} {B : Nat} (hB : ∀ x ∈ nodes, x.seen.length ≤ B) : ∀ l : Nms, bytesN nodes l ≤ l.length * B
 | [] => by simp [bytesN]
 |p :: l => by
  have ih := bytesN_le hB l
  unfold bytesN at ih ⊢
  rw [List.map_cons, List.sum_cons, List.length_cons, Nat.succ_mul]
  have : ((nodes[p.2]?).map (·.seen.length)).getD 0 ≤ B := by
   cases h : nodes[p.2]? with
   |none => simp
   |some x => simp; exact hB x (List.mem_of_getElem? h)
  omega
theorem bytesN_mem {nodes : List Nod} {l : Nms} {p : Str × Nat} (h : p ∈ l) {x : Nod} (hx : nodes[p.2]? = some x) : x.seen.length ≤ bytesN nodes l := by
 induction l with
 |nil => simp at h
 |cons q l ih =>
  unfold bytesN at ih ⊢
  rw [List.map_cons, List.sum_cons]
  rcases List.mem_cons.1 h with rfl | h
  ·rw [hx]; simp
  ·have := ih h; omega
theorem fit_fr {nodes : List Nod} (h : ∀ x ∈ nodes, x.seen.length ≤ 1000000000) {l : Nms} (hl : l.length ≤ 1024) : (bytesN nodes l : Int) ≤ 4000000000000000 := by
 have := bytesN_le h l
 have : l.length * 1000000000 ≤ 1024 * 1000000000 := Nat.mul_le_mul_right _ hl
 omega
theorem fit_put {d : Dsk} (h : Fit d) {i : Nat} {x : Nod} (h1 : x.seen.length ≤ 1000000000 ∧ x.sure.length ≤ 1000000000) (h2 : ∀ p ∈ x.pats, p.place + p.b.length ≤ 1000000000) : Fit (putD d i x) := by
 have hm : ∀ y ∈ (putD d i x).nodes, y ∈ d.nodes ∨ y = x := fun y hy => (List.mem_or_eq_of_mem_set hy)
 have hn : ∀ y ∈ (putD d i x).nodes, y.seen.length ≤ 1000000000 ∧ y.sure.length ≤ 1000000000 := fun y hy => by
  rcases hm y hy with hh | rfl
  ·exact h.ns y hh
  ·exact h1
 exact { h with
  is := fun p hp => by simpa [putD] using h.is p hp
  iu := fun p hp => by simpa [putD] using h.iu p hp
  im := fun m hm => by simpa [putD] using h.im m hm
  ns := hn
  ps := fun y hy p hp => by
   rcases hm y hy with hh | rfl
   ·exact h.ps y hh p hp
   ·exact h2 p hp
  fr := fit_fr (fun y hy => (hn y hy).1) h.s1 }
theorem nodD_get {d : Dsk} {i : Nat} (hi : i < d.nodes.length) : nodD d i = d.nodes[i] := by
 unfold nodD
 rw [List.getD_eq_getElem?_getD, List.getElem?_eq_getElem hi]
 rfl
/-- what fits is no more than there is room -/
theorem fit_write {d : Dsk} (h : Fit d) {i : Nat} (hi : i < d.nodes.length) (hs : ∃ y, (y, i) ∈ d.seen) {p : Pat} (hf : ¬ freeD d < ((overL (nodD d i).seen p.place p.b).length : Int) - ((nodD d i).seen.length : Int)) : Fit (putD d i (wroteN (nodD d i) p)) := by
 obtain ⟨y, hy⟩ := hs
 rw [nodD_get hi] at hf ⊢
 have h1 := bytesN_mem hy (List.getElem?_eq_getElem hi)
 have h2 := h.r2
 have h3 := h.ns _ (List.getElem_mem hi)
 unfold freeD at hf
 have h4 := overL_len d.nodes[i].seen p.b p.place
 refine fit_put h ⟨?_, h3.2⟩ fun q hq => ?_
 ·show (overL _ _ _).length ≤ _
  omega
 ·rcases List.mem_append.1 hq with hq | hq
  ·exact h.ps _ (List.getElem_mem hi) q hq
  ·simp at hq
   subst hq
   omega
theorem fit_turn {d : Dsk} (h : Fit d) {m : Mv} (hm : m.name.length ≤ 32) (hi : m.node < d.nodes.length) (hl : (giveN d.seen m).length ≤ 1024) : Fit (turnD d m) :=
 {h with
  s1 := hl
  is := fun p hp => by
   rcases give_mem hp with hp | rfl
   ·exact h.is p hp
   ·exact hi
  im := fun p hp => by
   rcases List.mem_append.1 hp with hp | hp
   ·exact h.im p hp
   ·simp at hp; subst hp; exact hi
  nm := fun p hp => by
   rcases List.mem_append.1 hp with hp | hp
   ·exact h.nm p hp
   ·simp at hp; subst hp; exact hm
  fr := fit_fr (fun y hy => (h.ns y hy).1) hl }
end Vd
end Go.Proofs.YtcleakjjefmmbaaGreat

/- Disk.write, Append. -/
namespace Go.Proofs.YtcleakjjefmmbaaGreat
open Go.RowKit
namespace Vd
open Go.Maps
theorem patok : ElemOkS Tryz.prog 93 148 2 24 := elemOkS (z := .agg #[.int .i64 0, .string (bstr [])]) Tryz.underlying93 (by kernel_rfl) rfl
set_option maxRecDepth 100000 in
set_option maxHeartbeats 4000000 in
theorem write_any (w : World) {S : Nat → Prop} {g : Nat} {d : Dsk} (h : DiskAt w S g d) {i : Nat} (hi : i < d.nodes.length) (hs : ∃ y, (y, i) ∈ d.seen) (p : Pat) (hp : p.b.length ≤ 1000000000) (hpl : p.place ≤ 2000000000) (hpn : (nodD d i).pats.length ≤ 1000000000) : Calls Tryz.prog 188 #[.pointer (some ⟨g, 0, none⟩), .int .i64 (i : Int), .agg #[.int .i64 (p.place : Int), .string (bstr p.b)]] w fun e w' => DskDid w (More S w w') g (writeD d i p) e w' := by
 have HD0 := Lib.hid h
 obtain ⟨b1, b2, nv, mv, nb, h⟩ := h
 have HW := Lib.hid (fit_write h.fit hi hs (p := p))
 have HX0 : Hid (writeD d i p = if freeD d < ((overL (nodD d i).seen p.place p.b).length : Int) - ((nodD d i).seen.length : Int) then (d, 10) else (putD d i (wroteN (nodD d i) p), 0)) := Lib.hid rfl
 have HNS := Lib.hid (h.fit.ns _ (List.getElem_mem hi)).1
 obtain ⟨gn, c, k, pv, rfl, hnb, n0, hnd⟩ := h.nodeAt hi
 rw [nodD_get hi] at HW HX0 hpn
 obtain ⟨-, c1, -⟩ := h.cells
 have HI := Lib.hid h
 have HNB := Lib.hid hnb
 have HP := Lib.hid hp
 have HPN := Lib.hid hpn
 obtain ⟨pp, cp, rfl, -, -⟩ := Frm.ownsRow_form hnd.pats
 have HND := Lib.hid hnd
 have HFR := Lib.hid (fun w' (hk : Keeps w w') => free_any w' (HD0.out.keeps hk))
 have HNK := Lib.hid (Frm.ownsRow_ne hnd.pats hnd.blk (by decide))
 obtain ⟨nd, hnde⟩ : ∃ nd, nd = d.nodes[i] := ⟨_, rfl⟩
 rw [← hnde] at HND HW HX0 HNS HPN HNK HNB
 have hpx : nd.seen.length ≤ 1000000000 := HNS.out
 have n1 : w.cell? ⟨k, 0, none⟩ = some (.string (bstr nd.seen)) := by rw [HND.out.blk.cell]; rfl
 have hin : (i : Int) < (d.nodes.length : Int) := by omega
 have HIN := Lib.hid hi
 obtain ⟨z, hz⟩ : ∃ z, z = overL nd.seen p.place p.b := ⟨_, rfl⟩
 have hzl : z.length = max nd.seen.length (p.place + p.b.length) := by rw [hz, overL_len]
 have HZ := Lib.hid hz
 rw [← hz] at HX0 HW
 have HND0 := Lib.hid hnde
 clear h hnb hnd hs hpn hnde hz
 unfold DskDid
 go_enter Tryz.func188, Tryz.ntmps188
 go_upto_region 1 with fail
 generalize hW : World.alloc w _ = w1
 have HK1 := Lib.hid (show Keeps w w1 from by rw [← hW]; exact (Keeps.refl _).alloc _)
 have HM := Lib.hid (show Blk w1 w.heap.size 148 #[.int .i64 (p.place : Int), .string (bstr p.b)] from by rw [← hW]; exact Blk.new _ _ _ rfl)
 clear hW
 have c1' := keep1 HK1.out c1
 have n0' := keep1 HK1.out n0
 clear c1 n0
 obtain ⟨q, hq⟩ : ∃ q, q = w.heap.size := ⟨_, rfl⟩
 rw [← hq] at HM ⊢
 have HQ := Lib.hid hq
 clear hq
 have n1' : w1.cell? ⟨k, 0, none⟩ = some (.string (bstr nd.seen)) := keep1 HK1.out n1
 have m0 : w1.cell? ⟨q, 0, none⟩ = some (.int .i64 (p.place : Int)) := by rw [HM.out.cell]; rfl
 have m1 : w1.cell? ⟨q, 1, none⟩ = some (.string (bstr p.b)) := by rw [HM.out.cell]; rfl
 have hpb : p.b.length ≤ 1000000000 := HP.out
 have HOV := Lib.hid (over_any nd.seen p.b p.place (by omega) (by omega) (by omega))
 rw [← HZ.out] at HOV
 clear n1
 go_upto_region 2 with fail
 clear c1' n0'
 refine wp_region_noPanic ?_
 refine wp_region_held_drew (S := fun w' => Keeps (w1) w') (by kernel_rfl) ((Keeps.refl _).drew) (fun _ => ?_)
 have hHeld : Keeps (w1) (w1).drew := (Keeps.refl _).drew
 refine tq 0 16 ?_ (hy := fun w' hSw => by
  have hSw : Keeps _ w' := hSw
  have h0 := keep1 hSw m0
  have h1 := keep1 hSw m1
  clear hSw
  go_simp
  try with_reducible rfl)
 refine tq 1 17 ?_
 refine tq 2 18 ?_
 refine tq 3 19 ?_
 refine tq 4 20 ?_ (hy := fun w' hSw => by
  have hSw : Keeps _ w' := hSw
  have h0 := keep1 hSw n1'
  clear hSw
  go_simp
  try with_reducible rfl)
 refine rd1 5 (fun K hK => ?_)
 go_simp
 refine (HOV.out _).mono ?_
 rintro e w2 ⟨rfl, hk⟩
 have hb : Keeps _ w2 := hHeld.trans hk
 have HK2 := Lib.hid hb
 go_wp2_with fail
 refine bk1 hK hb ?_
 clear hK K hHeld hb hk
 intro hHeld
 refine tq 6 8 ?_
 refine wpAnyH_done (by kernel_rfl) ?_ _
 refine NoPanic.normal ?_
 have n2 : w2.cell? ⟨k, 0, none⟩ = some (.string (bstr nd.seen)) := keep1 HK2.out n1'
 have HZL := Lib.hid hzl
 have hzb : (z.length : Int) ≤ 4000000000 := by omega
 have hz0 : 0 ≤ (z.length : Int) := Int.natCast_nonneg _
 have hsz := bstr_size z
 have hsn := bstr_size nd.seen
 have hwr : IntKind.i64.wrap ((z.length : Int) - (nd.seen.length : Int)) = (z.length : Int) - (nd.seen.length : Int) := by rw [IntKind.wrap_i64]; omega
 clear hzl n1' m0 m1 HOV
 by_cases hlt : freeD d < (z.length : Int) - (nd.seen.length : Int)
 ·have HRES := Lib.hid (HX0.out.trans (if_pos hlt))
  have ht : decide (freeD d < (z.length : Int) - (nd.seen.length : Int)) = true := by simp [hlt]
  clear HX0 HW hlt
  go_upto_region 3 with fail
  refine wp_region_noPanic ?_
  refine wp_region_held_drew (S := fun w' => Keeps (w2) w') (by kernel_rfl) ((Keeps.refl _).drew) (fun _ => ?_)
  have hHeld : Keeps (w2) (w2).drew := (Keeps.refl _).drew
  refine tq 0 22 ?_
  refine tq 1 23 ?_
  refine tq 2 24 ?_
  refine tq 3 25 ?_
  refine tq 4 26 ?_
  refine tq 5 27 ?_ (hy := fun w' hSw => by
   have hSw : Keeps _ w' := hSw
   have h0 := keep1 hSw n2
   clear hSw
   go_simp
   try with_reducible rfl)
  refine tq 6 28 ?_
  refine tq 7 29 ?_
  refine tq 8 30 ?_
  refine rd1 9 (fun K hK => ?_)
  go_simp
  refine (HFR.out _ (HK1.out.trans (HK2.out.trans hHeld))).mono ?_
  rintro e w3 ⟨rfl, hk⟩
  have hb : Keeps _ w3 := hHeld.trans hk
  have HK3 := Lib.hid hb
  go_wp2_with fail
  refine bk1 hK hb ?_
  clear hK K hHeld hb hk
  intro hHeld
  refine tq 10 32 ?_
  refine wpAnyH_done (by kernel_rfl) ?_ _
  refine NoPanic.normal ?_
  go_wp2_with fail
  go_ret
  have hK := HK1.out.trans (HK2.out.trans HK3.out)
  exact ⟨(congrArg (fun r : Dsk × Int => Ending.returned (Value.int .i64 r.2)) HRES.out).symm, by rw [HRES.out]; exact (HD0.out.keeps hK).wide (fun y hy => .inl hy), Mods.of_keeps hK⟩
 ·have HRES := Lib.hid (HX0.out.trans (if_neg hlt))
  have HFT := Lib.hid (HW.out (by omega))
  have ht : decide (freeD d < (z.length : Int) - (nd.seen.length : Int)) = false := by simp [hlt]
  clear HX0 HW hlt
  go_upto_region 3 with fail
  refine wp_region_noPanic ?_
  refine wp_region_held_drew (S := fun w' => Keeps (w2) w') (by kernel_rfl) ((Keeps.refl _).drew) (fun _ => ?_)
  have hHeld : Keeps (w2) (w2).drew := (Keeps.refl _).drew
  refine tq 0 22 ?_
  refine tq 1 23 ?_
  refine tq 2 24 ?_
  refine tq 3 25 ?_
  refine tq 4 26 ?_
  refine tq 5 27 ?_ (hy := fun w' hSw => by
   have hSw : Keeps _ w' := hSw
   have h0 := keep1 hSw n2
   clear hSw
   go_simp
   try with_reducible rfl)
  refine tq 6 28 ?_
  refine tq 7 29 ?_
  refine tq 8 30 ?_
  refine rd1 9 (fun K hK => ?_)
  go_simp
  refine (HFR.out _ (HK1.out.trans (HK2.out.trans hHeld))).mono ?_
  rintro e w3 ⟨rfl, hk⟩
  have hb : Keeps _ w3 := hHeld.trans hk
  have HK3 := Lib.hid hb
  go_wp2_with fail
  refine bk1 hK hb ?_
  clear hK K hHeld hb hk
  intro hHeld
  refine tq 10 32 ?_
  refine wpAnyH_done (by kernel_rfl) ?_ _
  refine NoPanic.normal ?_
  have n3 : w3.cell? ⟨k, 0, none⟩ = some (.string (bstr nd.seen)) := keep1 HK3.out n2
  have HK := Lib.hid (HK1.out.trans (HK2.out.trans HK3.out))
  have z3 : w3.frozen? ⟨k, 0, none⟩ = false := (HND.out.blk.keeps HK.out).frozen _
  clear n2 hwr ht
  go_upto_region 6 with fail
  have HMq0 := Lib.hid (HM.out.keeps (HK2.out.trans HK3.out))
  have HQK := Lib.hid (show q ≠ k from fun e => by have h1 := HND.out.blk.lt; have h2 := HQ.out; omega)
  have HNQ : Hid ((Value.slice pp nd.pats.length cp).ownBlock ≠ some q) := Lib.hid (fun e => by have h1 := (owns_ty HND.out.pats e).lt; have h2 := HQ.out; omega)
  have HB4 := Lib.hid (show Blk (World.setCell w3 ⟨k, 0, none⟩ (.string (bstr z))) k 95 #[.string (bstr z), .string (bstr nd.sure), (Value.slice pp nd.pats.length cp), .bool nd.fresh] from by have := (HND.out.blk.keeps HK.out).set_ 0 (.string (bstr z)); simpa using this)
  have HM4 := Lib.hid ((Mods.of_keeps (S := (· = k)) HK.out).setCell (p := ⟨k, 0, none⟩) (fun _ => rfl) (.string (bstr z)))
  have HV4 := Lib.hid (Frm.ownsRow_mods HND.out.pats HM4.out (fun y hy e => HNK.out (by rw [hy, e])))
  have HMq4 := Lib.hid (HMq0.out.far HQK.out (p := ⟨k, 0, none⟩) (.string (bstr z)))
  have hpn2 : nd.pats.length ≤ 1000000000 := HPN.out
  clear n3 z3 HMq0
  generalize World.setCell w3 ⟨k, 0, none⟩ (.string (bstr z)) = w4 at *
  have HS4 := Lib.hid HM4.out.size
  have HX := Lib.hid HB4.out.drew
  have HR := Lib.hid (Frm.ownsRow_keeps HV4.out (Keeps.refl w4).drew)
  have HMx := Lib.hid HMq4.out.drew
  refine wp_region_noPanic ?_
  refine wp_region_held_drew (S := fun w' => Mods (fun y => y = k ∨ (Value.slice pp nd.pats.length cp).ownBlock = some y) w4 w') (by kernel_rfl) ((Mods.refl (fun y => y = k ∨ (Value.slice pp nd.pats.length cp).ownBlock = some y) w4).drew) (fun _ => ?_)
  have hHeld : Mods (fun y => y = k ∨ (Value.slice pp nd.pats.length cp).ownBlock = some y) w4 (w4).drew := (Mods.refl (fun y => y = k ∨ (Value.slice pp nd.pats.length cp).ownBlock = some y) w4).drew
  generalize World.drew w4 = xs at *
  refine tq 0 37 ?_
  refine tq 1 38 ?_
  refine tq 2 39 ?_
  refine tq 3 40 ?_
  refine tq 5 42 ?_ (hy := fun w' hSw => by
   have hSw : Mods (fun y => y = k ∨ (Value.slice pp nd.pats.length cp).ownBlock = some y) w4 w' := hSw
   have hBq := HMq4.out.mods hSw (fun hh => hh.elim (fun e => HQK.out e) HNQ.out)
   have hx0 : World.cell? w' ⟨q, 0, none⟩ = some (.int .i64 (p.place : Int)) := by rw [hBq.cell]; rfl
   have hx1 : World.cell? w' ⟨q, 1, none⟩ = some (.string (bstr p.b)) := by rw [hBq.cell]; rfl
   clear hSw
   go_simp
   try with_reducible rfl)
  refine wpAnyH_ready (rs := [4, 6]) (by kernel_rfl) (by simp) ?_
  refine AllReadyH.cons (o := _) rfl (fun K hK => ?_) ?_
  ·have hx : World.cell? xs ⟨k, 2, none⟩ = some (Value.slice pp nd.pats.length cp) := by rw [HX.out.cell]; rfl
   go_simp
   clear hx
   have hb := hHeld
   refine bkm hK hb ?_
   clear hK K hHeld
   have hHeld : Mods (fun y => y = k ∨ (Value.slice pp nd.pats.length cp).ownBlock = some y) w4 xs := hb
   clear hb
   refine rd1 6 (fun K hK => ?_)
   go_simp
   obtain ⟨b6, hb6⟩ : ∃ z, z = (World.heap xs).size := ⟨_, rfl⟩
   have HB6 : Hid (Blk (World.alloc xs (.cells #[.int .i64 (p.place : Int), .string (bstr p.b)] 148)) b6 148 #[.int .i64 (p.place : Int), .string (bstr p.b)]) := Lib.hid (Blk.new _ _ _ hb6)
   have HX := Lib.hid (HX.out.alloc (.cells #[.int .i64 (p.place : Int), .string (bstr p.b)] 148))
   have HR := Lib.hid (Frm.ownsRow_keeps HR.out ((Keeps.refl _).alloc (.cells #[.int .i64 (p.place : Int), .string (bstr p.b)] 148)))
   have HMx := Lib.hid (HMx.out.alloc (.cells #[.int .i64 (p.place : Int), .string (bstr p.b)] 148))
   have hb := hHeld.alloc (.cells #[.int .i64 (p.place : Int), .string (bstr p.b)] 148)
   have HBB := Lib.hid hb6
   clear hb6
   generalize World.alloc xs (.cells #[.int .i64 (p.place : Int), .string (bstr p.b)] 148) = x6 at *
   refine bkm hK hb ?_
   clear hK K hHeld
   have hHeld : Mods (fun y => y = k ∨ (Value.slice pp nd.pats.length cp).ownBlock = some y) w4 x6 := hb
   clear hb
   refine rd1 7 (fun K hK => ?_)
   refine step_appF (base := 0) patok (by decide) rfl _ _ rfl (Value.slice pp nd.pats.length cp) nd.pats.length 1 1 ⟨b6, 0, none⟩ (nd.pats.flatMap patC) [.int .i64 (p.place : Int), .string (bstr p.b)] rfl (congrArg (fun g => Value.slice (some ⟨g, 0, none⟩) 1 1) HBB.out.symm) HR.out rfl (fun j y hy => by rw [Go.WideShapes.add_plain, HB6.out.cell, Nat.zero_add]; simpa using hy) (by simp [Value.oneCell']) (by omega) (by decide) (Nat.zero_le _) ?_
   intro v7 x7 ho7 hg7 hf7
   have HZ7 := Lib.hid hHeld.size
   obtain ⟨p7, c7, rfl, -, -⟩ := Frm.ownsRow_form ho7
   have H7 := Lib.hid ho7
   have HF7 := Lib.hid (fun y hy => (hf7 y hy).imp id (fun hh => Nat.le_trans HZ7.out hh))
   have HX := Lib.hid (HX.out.grown hg7 HNK.out)
   have HMx := Lib.hid (HMx.out.grown hg7 HNQ.out)
   have hb := hHeld.grown hg7 (fun k hk _ => .inr hk)
   clear ho7 hg7 hf7 HB6
   show K (Act.put _ (some 44) _) x7
   refine bkm hK hb ?_
   clear hK K hHeld
   have hHeld : Mods (fun y => y = k ∨ (Value.slice pp nd.pats.length cp).ownBlock = some y) w4 x7 := hb
   clear hb
   refine tq 8 45 ?_
   refine tq 9 46 ?_
   refine rd1 10 (fun K hK => ?_)
   have hx : World.cell? x7 ⟨k, 2, none⟩ = some (Value.slice pp nd.pats.length cp) := by rw [HX.out.cell]; rfl
   have hz : World.frozen? x7 ⟨k, 2, none⟩ = false := HX.out.frozen 2
   go_simp
   have HX3 := Lib.hid (HX.out.set_ 2 (.slice p7 (nd.pats.length + 1) c7))
   have H7s := Lib.hid (Frm.ownsRow_mods (S := fun x => x = k) H7.out ((Mods.refl (fun x => x = k) _).setCell (p := ⟨k, 2, none⟩) (fun _ => rfl) (.slice p7 (nd.pats.length + 1) c7)) (fun x hx e => Frm.ownsRow_ne H7.out HX.out (by decide) (by rw [hx, e])))
   have hb := hHeld.setCell (p := ⟨k, 2, none⟩) (fun _ => .inl rfl) (.slice p7 (nd.pats.length + 1) c7)
   clear hx hz HX H7
   generalize World.setCell x7 ⟨k, 2, none⟩ (.slice p7 (nd.pats.length + 1) c7) = xF at *
   refine bkm hK hb ?_
   clear hK K hHeld
   have hHeld : Mods (fun y => y = k ∨ (Value.slice pp nd.pats.length cp).ownBlock = some y) w4 xF := hb
   clear hb
   refine wpAnyH_done (by kernel_rfl) ?_ _
   refine NoPanic.normal ?_
   go_wp2_with fail
   go_ret
   have hMF : Mods (fun y => y = k ∨ (Value.slice pp nd.pats.length cp).ownBlock = some y) w xF := (HM4.out.mono (fun y hy => .inl hy)).trans hHeld (fun y hy _ => hy)
   have hN : NodB xF (k, .slice p7 (nd.pats.length + 1) c7) (wroteN nd p) := ⟨by have h1 := HX3.out; rw [HZ.out] at h1; simpa [wroteN] using h1, by have h1 := H7s.out; simpa [wroteN, patC] using h1⟩
   have hR := HI.out.node HIN.out HNB.out hMF (fun y hy => hy) hN (fun y hy => (HF7.out y hy).imp id (fun hh => ⟨Nat.le_trans HS4.out hh, (owns_ty H7s.out hy).lt⟩)) HFT.out
   refine ⟨(congrArg (fun r : Dsk × Int => Ending.returned (Value.int .i64 r.2)) HRES.out).symm, by rw [HRES.out]; exact ⟨_, _, _, _, _, hR⟩, hMF.mono (fun y hy => .inl ?_)⟩
   have hin := HI.out.sb _ (List.mem_of_getElem? HNB.out)
   rcases hy with rfl | hy
   ·exact hin.1
   ·exact hin.2 _ hy
  refine AllReadyH.cons (o := _) rfl (fun K hK => ?_) ?_
  ·go_simp
   obtain ⟨b6, hb6⟩ : ∃ z, z = (World.heap xs).size := ⟨_, rfl⟩
   have HB6 : Hid (Blk (World.alloc xs (.cells #[.int .i64 (p.place : Int), .string (bstr p.b)] 148)) b6 148 #[.int .i64 (p.place : Int), .string (bstr p.b)]) := Lib.hid (Blk.new _ _ _ hb6)
   have HX := Lib.hid (HX.out.alloc (.cells #[.int .i64 (p.place : Int), .string (bstr p.b)] 148))
   have HR := Lib.hid (Frm.ownsRow_keeps HR.out ((Keeps.refl _).alloc (.cells #[.int .i64 (p.place : Int), .string (bstr p.b)] 148)))
   have HMx := Lib.hid (HMx.out.alloc (.cells #[.int .i64 (p.place : Int), .string (bstr p.b)] 148))
   have hb := hHeld.alloc (.cells #[.int .i64 (p.place : Int), .string (bstr p.b)] 148)
   have HBB := Lib.hid hb6
   clear hb6
   generalize World.alloc xs (.cells #[.int .i64 (p.place : Int), .string (bstr p.b)] 148) = x6 at *
   refine bkm hK hb ?_
   clear hK K hHeld
   have hHeld : Mods (fun y => y = k ∨ (Value.slice pp nd.pats.length cp).ownBlock = some y) w4 x6 := hb
   clear hb
   refine rd1 4 (fun K hK => ?_)
   have hx : World.cell? x6 ⟨k, 2, none⟩ = some (Value.slice pp nd.pats.length cp) := by rw [HX.out.cell]; rfl
   go_simp
   clear hx
   have hb := hHeld
   refine bkm hK hb ?_
   clear hK K hHeld
   have hHeld : Mods (fun y => y = k ∨ (Value.slice pp nd.pats.length cp).ownBlock = some y) w4 x6 := hb
   clear hb
   refine rd1 7 (fun K hK => ?_)
   refine step_appF (base := 0) patok (by decide) rfl _ _ rfl (Value.slice pp nd.pats.length cp) nd.pats.length 1 1 ⟨b6, 0, none⟩ (nd.pats.flatMap patC) [.int .i64 (p.place : Int), .string (bstr p.b)] rfl (congrArg (fun g => Value.slice (some ⟨g, 0, none⟩) 1 1) HBB.out.symm) HR.out rfl (fun j y hy => by rw [Go.WideShapes.add_plain, HB6.out.cell, Nat.zero_add]; simpa using hy) (by simp [Value.oneCell']) (by omega) (by decide) (Nat.zero_le _) ?_
   intro v7 x7 ho7 hg7 hf7
   have HZ7 := Lib.hid hHeld.size
   obtain ⟨p7, c7, rfl, -, -⟩ := Frm.ownsRow_form ho7
   have H7 := Lib.hid ho7
   have HF7 := Lib.hid (fun y hy => (hf7 y hy).imp id (fun hh => Nat.le_trans HZ7.out hh))
   have HX := Lib.hid (HX.out.grown hg7 HNK.out)
   have HMx := Lib.hid (HMx.out.grown hg7 HNQ.out)
   have hb := hHeld.grown hg7 (fun k hk _ => .inr hk)
   clear ho7 hg7 hf7 HB6
   show K (Act.put _ (some 44) _) x7
   refine bkm hK hb ?_
   clear hK K hHeld
   have hHeld : Mods (fun y => y = k ∨ (Value.slice pp nd.pats.length cp).ownBlock = some y) w4 x7 := hb
   clear hb
   refine tq 8 45 ?_
   refine tq 9 46 ?_
   refine rd1 10 (fun K hK => ?_)
   have hx : World.cell? x7 ⟨k, 2, none⟩ = some (Value.slice pp nd.pats.length cp) := by rw [HX.out.cell]; rfl
   have hz : World.frozen? x7 ⟨k, 2, none⟩ = false := HX.out.frozen 2
   go_simp
   have HX3 := Lib.hid (HX.out.set_ 2 (.slice p7 (nd.pats.length + 1) c7))
   have H7s := Lib.hid (Frm.ownsRow_mods (S := fun x => x = k) H7.out ((Mods.refl (fun x => x = k) _).setCell (p := ⟨k, 2, none⟩) (fun _ => rfl) (.slice p7 (nd.pats.length + 1) c7)) (fun x hx e => Frm.ownsRow_ne H7.out HX.out (by decide) (by rw [hx, e])))
   have hb := hHeld.setCell (p := ⟨k, 2, none⟩) (fun _ => .inl rfl) (.slice p7 (nd.pats.length + 1) c7)
   clear hx hz HX H7
   generalize World.setCell x7 ⟨k, 2, none⟩ (.slice p7 (nd.pats.length + 1) c7) = xF at *
   refine bkm hK hb ?_
   clear hK K hHeld
   have hHeld : Mods (fun y => y = k ∨ (Value.slice pp nd.pats.length cp).ownBlock = some y) w4 xF := hb
   clear hb
   refine wpAnyH_done (by kernel_rfl) ?_ _
   refine NoPanic.normal ?_
   go_wp2_with fail
   go_ret
   have hMF : Mods (fun y => y = k ∨ (Value.slice pp nd.pats.length cp).ownBlock = some y) w xF := (HM4.out.mono (fun y hy => .inl hy)).trans hHeld (fun y hy _ => hy)
   have hN : NodB xF (k, .slice p7 (nd.pats.length + 1) c7) (wroteN nd p) := ⟨by have h1 := HX3.out; rw [HZ.out] at h1; simpa [wroteN] using h1, by have h1 := H7s.out; simpa [wroteN, patC] using h1⟩
   have hR := HI.out.node HIN.out HNB.out hMF (fun y hy => hy) hN (fun y hy => (HF7.out y hy).imp id (fun hh => ⟨Nat.le_trans HS4.out hh, (owns_ty H7s.out hy).lt⟩)) HFT.out
   refine ⟨(congrArg (fun r : Dsk × Int => Ending.returned (Value.int .i64 r.2)) HRES.out).symm, by rw [HRES.out]; exact ⟨_, _, _, _, _, hR⟩, hMF.mono (fun y hy => .inl ?_)⟩
   have hin := HI.out.sb _ (List.mem_of_getElem? HNB.out)
   rcases hy with rfl | hy
   ·exact hin.1
   ·exact hin.2 _ hy
  exact AllReadyH.nil
end Vd
end Go.Proofs.YtcleakjjefmmbaaGreat

/- Disk.Append, Pwrite, Rename, Unlink. -/
namespace Go.Proofs.YtcleakjjefmmbaaGreat
open Go.RowKit
namespace Vd
open Go.Maps
theorem touch_fst (d : Dsk) (x : Str) : (touchD d x).1 = (changeD d).1 := by
 unfold touchD
 split <;> rfl
theorem touch_seen {d : Dsk} (hf : Fit d) (ha : AscN d.seen) {x : Str} (h : (touchD d x).2.2 = 0) : (touchD d x).2.1 < (touchD d x).1.nodes.length ∧ (x, (touchD d x).2.1) ∈ (touchD d x).1.seen := by
 obtain ⟨h1, h2⟩ := touch_in hf ha h
 refine ⟨h1, ?_⟩
 rw [touch_fst, (changeD_seen d).1]
 exact (look_mem ha).1 h2
theorem touch_nodes (d : Dsk) (x : Str) : (touchD d x).1.nodes = d.nodes ∧ (touchD d x).1.moves = d.moves := by
 rw [touch_fst]
 exact ⟨(changeD_seen d).2.1, (changeD_seen d).2.2.2.1⟩
theorem DskDid.up {S : Nat → Prop} {w w1 w2 : World} {g : Nat} {r : Dsk × Int} {e : Ending} (h : DskDid w1 (More S w1 w2) g r e w2) (k : Mods S w w1) : DskDid w (More S w w2) g r e w2 :=
 ⟨h.1, h.2.1.more k, (k.more h.2.2).mono (fun y hy => .inl hy)⟩
set_option maxRecDepth 100000 in
set_option maxHeartbeats 4000000 in
theorem append_any (w : World) {S : Nat → Prop} {g : Nat} {d : Dsk} (h : DiskAt w S g d) (hn : -1 ≤ d.count ∧ d.count ≤ 9000000000000000000) (x : Str) (hx : x.length ≤ maxLen) {bv : Value} {b : Str} (hb : ∀ w', Mods S w w' → Row w' bv (b.map u8v)) (hbl : b.length ≤ 1000000000) (hpn : ∀ y ∈ d.nodes, y.pats.length ≤ 1000000000) : Calls Tryz.prog 129 #[.pointer (some ⟨g, 0, none⟩), .string (bstr x), bv] w fun e w' => DskDid w (More S w w') g (appendD d x b) e w' := by
 have HT := Lib.hid (touch_any w h hn x hx)
 have HIN : Hid ((touchD d x).2.2 = 0 → (touchD d x).2.1 < (touchD d x).1.nodes.length ∧ (x, (touchD d x).2.1) ∈ (touchD d x).1.seen) := Lib.hid (fun hh => by
  obtain ⟨b1, b2, nv, mv, nb, h⟩ := h
  exact touch_seen h.fit h.seen.asc hh)
 have HPN : Hid (∀ y ∈ (touchD d x).1.nodes, y.pats.length ≤ 1000000000) := Lib.hid (by rw [(touch_nodes d x).1]; exact hpn)
 have HX0 : Hid (appendD d x b = if (touchD d x).2.2 ≠ 0 then ((touchD d x).1, (touchD d x).2.2)
  else writeD (touchD d x).1 (touchD d x).2.1 ⟨(nodD (touchD d x).1 (touchD d x).2.1).seen.length, b⟩) := Lib.hid rfl
 have HB := Lib.hid hb
 clear h hb hpn
 unfold TouchDid at HT
 generalize touchD d x = td at *
 obtain ⟨d1, i, er⟩ := td
 go_enter Tryz.func129, Tryz.ntmps129
 go_wp2_with fail
 refine HT.out.mono ?_
 rintro e w1 ⟨rfl, hd, hm⟩
 have HD := Lib.hid (show DiskAt w1 S g d1 from hd)
 have HM := Lib.hid hm
 clear hd hm HT
 by_cases he : er = 0
 ·subst he
  obtain ⟨hin, hse⟩ := HIN.out rfl
  have HX : Hid (appendD d x b = writeD d1 i ⟨d1.nodes[i].seen.length, b⟩) := Lib.hid ((HX0.out.trans (if_neg (by simp))).trans (by rw [nodD_get hin]))
  obtain ⟨b1, b2, nv, mv, nb, hd⟩ := HD.out
  have hfs := hd.fit.ns _ (List.getElem_mem hin)
  obtain ⟨gn, c, k, pv, rfl, -, n0, hnd⟩ := hd.nodeAt hin
  obtain ⟨-, c1, -⟩ := hd.cells
  have n1 : w1.cell? ⟨k, 0, none⟩ = some (.string (bstr d1.nodes[i].seen)) := by rw [hnd.blk.cell]; rfl
  have HWR := Lib.hid (write_any (w1.drew) (HD.out.keeps (Keeps.refl w1).drew) hin ⟨_, hse⟩ ⟨d1.nodes[i].seen.length, b⟩ hbl (show d1.nodes[i].seen.length ≤ _ by omega) (by rw [nodD_get hin]; exact HPN.out _ (List.getElem_mem hin)))
  have hsz := bstr_size d1.nodes[i].seen
  have hil : (i : Int) < (d1.nodes.length : Int) := by omega
  generalize d1.nodes[i].seen = sx at *
  clear hd hnd HX0 HIN hse hfs
  have HCS := Lib.hid (show (World.drew w1).cell? ⟨g, 1, none⟩ = some (Value.slice (some ⟨gn, 0, none⟩) d1.nodes.length c) ∧ (World.drew w1).cell? ⟨gn, i, none⟩ = some (.pointer (some ⟨k, 0, none⟩)) ∧ (World.drew w1).cell? ⟨k, 0, none⟩ = some (.string (bstr sx)) from ⟨c1, n0, n1⟩)
  clear c1 n0 n1
  go_upto_region 4 with fail
  refine wp_region_noPanic ?_
  refine wp_region_held_drew (S := fun w' => Mods S w1 w') (by kernel_rfl) ((Mods.refl S w1).drew) (fun _ => ?_)
  have hHeld : Mods S w1 (w1).drew := (Mods.refl S w1).drew
  generalize World.drew w1 = xs at *
  refine tq 0 18 ?_
  refine tq 1 19 ?_
  refine tq 2 20 ?_
  refine tq 3 21 ?_
  refine tq 4 22 ?_
  refine tq 6 24 ?_
  refine tq 13 31 ?_
  refine tq 14 32 ?_ (hy := fun w' hSw => by
   have hSw : Mods S w1 w' := hSw
   have hc := Frm.str_at' (HB.out w' (HM.out.trans hSw (fun x hx _ => hx)))
   clear hSw
   go_simp
   try with_reducible rfl)
  refine rd1 5 (fun K hK => ?_)
  have hx := HCS.out.1
  go_simp
  clear hx
  have hb := hHeld
  refine bkm hK hb ?_
  clear hK K hHeld
  have hHeld : Mods S w1 xs := hb
  clear hb
  refine tq 7 25 ?_
  refine rd1 8 (fun K hK => ?_)
  have hx := HCS.out.2.1
  go_simp
  clear hx
  have hb := hHeld
  refine bkm hK hb ?_
  clear hK K hHeld
  have hHeld : Mods S w1 xs := hb
  clear hb
  refine tq 9 27 ?_
  refine tq 10 28 ?_
  refine rd1 11 (fun K hK => ?_)
  have hx := HCS.out.2.2
  go_simp
  clear hx
  have hb := hHeld
  refine bkm hK hb ?_
  clear hK K hHeld
  have hHeld : Mods S w1 xs := hb
  clear hb
  refine tq 12 30 ?_
  refine tq 15 33 ?_
  refine rd1 16 (fun K hK => ?_)
  go_simp
  refine HWR.out.mono ?_
  intro e yA hdid
  have HR := Lib.hid (hdid.up (HM.out.trans hHeld (fun x hx _ => hx)))
  have hb := hHeld.more hdid.2.2
  obtain ⟨rfl, -, -⟩ := hdid
  go_wp2_with fail
  refine bkm hK hb ?_
  clear hK K hHeld
  have hHeld : Mods S w1 yA := hb
  clear hb
  refine tq 17 6 ?_
  refine wpAnyH_done (by kernel_rfl) ?_ _
  refine NoPanic.normal ?_
  go_wp2_with fail
  go_ret
  rw [HX.out]
  exact HR.out
 ·have HX := Lib.hid (HX0.out.trans (if_pos he))
  have he' : (er != 0) = true := by simp [he]
  clear he
  go_wp2_with fail
  go_ret
  exact ⟨(congrArg (fun r : Dsk × Int => Ending.returned (Value.int .i64 r.2)) HX.out).symm, by rw [HX.out]; exact HD.out.wide (fun y hy => .inl hy), HM.out.mono (fun y hy => .inl hy)⟩
end Vd
end Go.Proofs.YtcleakjjefmmbaaGreat

/- Disk.Rename, Unlink. -/
namespace Go.Proofs.YtcleakjjefmmbaaGreat
open Go.RowKit
namespace Vd
open Go.Maps
theorem give_put_len (l : Nms) (m : Mv) : (giveN l m).length ≤ (dropN l m.node).length + 1 := by
 unfold giveN
 split
 ·omega
 ·unfold putN
  have := two_lens (fun p : Str × Nat => decide (p.1 < m.name)) (fun p => decide (m.name < p.1)) (apartS m.name) (dropN l m.node)
  simp only [List.length_append, List.length_cons]
  omega
theorem give_len_in {l : Nms} {m : Mv} {x : Str} (h : (x, m.node) ∈ l) : (giveN l m).length ≤ l.length := by
 have h1 := give_put_len l m
 have h2 : (dropN l m.node).length < l.length := List.length_filter_lt_length_iff_exists.2 ⟨_, h, by simp⟩
 omega
set_option maxRecDepth 100000 in
set_option maxHeartbeats 4000000 in
theorem rename_any (w : World) {S : Nat → Prop} {g : Nat} {d : Dsk} (h : DiskAt w S g d) (hn : -1 ≤ d.count ∧ d.count ≤ 9000000000000000000) (x y : Str) (hx : x.length ≤ 9000000000000000000) (hy : y.length ≤ 9000000000000000000) (hml : d.moves.length ≤ 1000000000) : Calls Tryz.prog 135 #[.pointer (some ⟨g, 0, none⟩), .string (bstr x), .string (bstr y)] w fun e w' => DskDid w (More S w w') g (renameD d x y) e w' := by
 have HC := Lib.hid (change_any w h hn)
 have HSE := Lib.hid (changeD_seen d)
 have HX0 : Hid (renameD d x y = if (changeD d).2 ≠ 0 then changeD d
  else if namedB y = false then ((changeD d).1, 3)
  else if (look d.seen x).isSome then (turnD (changeD d).1 ⟨(look d.seen x).getD 0, y, false⟩, 0)
  else ((changeD d).1, 7)) := Lib.hid rfl
 have HBD := Lib.hid hml
 clear h hml
 unfold DskDid at HC ⊢
 generalize changeD d = cd at *
 obtain ⟨d1, er⟩ := cd
 simp only at HSE HX0
 obtain ⟨e1, e2, e3, e4, e5⟩ := HSE.out
 rw [← e1] at HX0
 rw [← e4] at HBD
 clear HSE e1 e2 e3 e4 e5
 go_enter Tryz.func135, Tryz.ntmps135
 go_wp2_with fail
 refine HC.out.mono ?_
 rintro e w1 ⟨rfl, hd, hm⟩
 have HD := Lib.hid (show DiskAt w1 S g d1 from hd)
 have HM := Lib.hid hm
 clear hd hm HC
 by_cases he : er = 0
 ·subst he
  have HX1 := Lib.hid (HX0.out.trans (if_neg (by simp)))
  clear HX0
  have HNM := Lib.hid (named_any y (by omega) w1)
  cases hnx : namedB y with
  |false =>
   have HX := Lib.hid (HX1.out.trans (if_pos hnx))
   rw [hnx] at HNM
   clear hnx HX1
   go_wp2_with fail
   refine HNM.out.mono ?_
   rintro e w2 ⟨rfl, rfl⟩
   go_wp2_with fail
   go_ret
   exact ⟨(congrArg (fun r : Dsk × Int => Ending.returned (Value.int .i64 r.2)) HX.out).symm, by rw [HX.out]; exact HD.out.wide (fun y hy => .inl hy), HM.out.mono (fun y hy => .inl hy)⟩
  |true =>
   have HX2 := Lib.hid (HX1.out.trans (if_neg (by simp [hnx])))
   have hy32 := named_32 hnx
   rw [hnx] at HNM
   clear hnx HX1
   have HF := Lib.hid (find_any w1 HD.out x (by unfold maxLen; omega))
   go_wp2_with fail
   refine HNM.out.mono ?_
   rintro e w2 ⟨rfl, rfl⟩
   unfold findE at HF
   cases hlk : look d1.seen x with
   |none =>
    have HX := Lib.hid (HX2.out.trans (if_neg (by rw [hlk]; simp)))
    rw [hlk] at HF
    simp only [Option.getD_none, Option.isSome_none] at HF
    clear hlk HX2
    go_wp2_with fail
    refine HF.out.mono ?_
    rintro e w2 ⟨rfl, rfl⟩
    go_wp2_with fail
    go_ret
    exact ⟨(congrArg (fun r : Dsk × Int => Ending.returned (Value.int .i64 r.2)) HX.out).symm, by rw [HX.out]; exact HD.out.wide (fun y hy => .inl hy), HM.out.mono (fun y hy => .inl hy)⟩
   |some i =>
    have HX : Hid (renameD d x y = (turnD d1 ⟨i, y, false⟩, 0)) := Lib.hid ((HX2.out.trans (if_pos (by rw [hlk]; rfl))).trans (by rw [hlk]; rfl))
    rw [hlk] at HF
    simp only [Option.getD_some, Option.isSome_some] at HF
    have HTN : Hid (Calls Tryz.prog 155 #[.pointer (some ⟨g, 0, none⟩), .agg #[.int .i64 (i : Int), .string (bstr y), .bool false]] w1 fun e w' => e = .returned (.tuple #[]) ∧ DiskAt w' (More S w1 w') g (turnD d1 ⟨i, y, false⟩) ∧ Mods S w1 w') := Lib.hid (by
     obtain ⟨b1, b2, nv, mv, nb, hd⟩ := HD.out
     have hmem := (look_mem hd.seen.asc).1 hlk
     exact turn_any w1 HD.out ⟨i, y, false⟩ hy32 HBD.out (fit_turn hd.fit hy32 (hd.fit.is _ hmem) (Nat.le_trans (give_len_in (m := ⟨i, y, false⟩) hmem) hd.fit.s1)))
    clear hlk HX2
    go_wp2_with fail
    refine HF.out.mono ?_
    rintro e w2 ⟨rfl, rfl⟩
    go_wp2_with fail
    refine HTN.out.mono ?_
    rintro e w2 ⟨rfl, hd2, hm2⟩
    have HD2 := Lib.hid hd2
    have HM2 := Lib.hid hm2
    clear hd2 hm2 HTN
    go_wp2_with fail
    go_ret
    exact ⟨(congrArg (fun r : Dsk × Int => Ending.returned (Value.int .i64 r.2)) HX.out).symm, by rw [HX.out]; exact HD2.out.more HM.out, (HM.out.trans HM2.out (fun y hy _ => hy)).mono (fun y hy => .inl hy)⟩
 ·have HX := Lib.hid (HX0.out.trans (if_pos he))
  have he' : (er != 0) = true := by simp [he]
  clear he
  go_wp2_with fail
  go_ret
  exact ⟨(congrArg (fun r : Dsk × Int => Ending.returned (Value.int .i64 r.2)) HX.out).symm, by rw [HX.out]; exact HD.out.wide (fun y hy => .inl hy), HM.out.mono (fun y hy => .inl hy)⟩

set_option maxRecDepth 100000 in
set_option maxHeartbeats 4000000 in
theorem unlink_any (w : World) {S : Nat → Prop} {g : Nat} {d : Dsk} (h : DiskAt w S g d) (hn : -1 ≤ d.count ∧ d.count ≤ 9000000000000000000) (x : Str) (hx : x.length ≤ maxLen) (hml : d.moves.length ≤ 1000000000) : Calls Tryz.prog 83 #[.pointer (some ⟨g, 0, none⟩), .string (bstr x)] w fun e w' => DskDid w (More S w w') g (unlinkD d x) e w' := by
 have HT := Lib.hid (touch_any w h hn x hx)
 have HIN : Hid ((touchD d x).2.2 = 0 → (touchD d x).2.1 < (touchD d x).1.nodes.length ∧ (x, (touchD d x).2.1) ∈ (touchD d x).1.seen) := Lib.hid (fun hh => by
  obtain ⟨b1, b2, nv, mv, nb, h⟩ := h
  exact touch_seen h.fit h.seen.asc hh)
 have HML : Hid ((touchD d x).1.moves.length ≤ 1000000000) := Lib.hid (by rw [(touch_nodes d x).2]; exact hml)
 have HX0 : Hid (unlinkD d x = if (touchD d x).2.2 ≠ 0 then ((touchD d x).1, (touchD d x).2.2)
  else (turnD (touchD d x).1 ⟨(touchD d x).2.1, [], false⟩, 0)) := Lib.hid rfl
 clear h hml
 unfold TouchDid at HT
 unfold DskDid
 generalize touchD d x = td at *
 obtain ⟨d1, i, er⟩ := td
 go_enter Tryz.func83, Tryz.ntmps83
 go_wp2_with fail
 refine HT.out.mono ?_
 rintro e w1 ⟨rfl, hd, hm⟩
 have HD := Lib.hid (show DiskAt w1 S g d1 from hd)
 have HM := Lib.hid hm
 clear hd hm HT
 by_cases he : er = 0
 ·subst he
  obtain ⟨hin, hse⟩ := HIN.out rfl
  have HX := Lib.hid (HX0.out.trans (if_neg (by simp)))
  have HTN : Hid (Calls Tryz.prog 155 #[.pointer (some ⟨g, 0, none⟩), .agg #[.int .i64 (i : Int), .string (bstr []), .bool false]] w1 fun e w' => e = .returned (.tuple #[]) ∧ DiskAt w' (More S w1 w') g (turnD d1 ⟨i, [], false⟩) ∧ Mods S w1 w') := Lib.hid (by
   obtain ⟨b1, b2, nv, mv, nb, hd⟩ := HD.out
   exact turn_any w1 HD.out ⟨i, [], false⟩ (by simp) HML.out (fit_turn hd.fit (by simp) hin (Nat.le_trans (give_len_in (m := ⟨i, [], false⟩) hse) hd.fit.s1)))
  clear hin hse HIN HX0
  go_wp2_with fail
  refine HTN.out.mono ?_
  rintro e w2 ⟨rfl, hd2, hm2⟩
  have HD2 := Lib.hid hd2
  have HM2 := Lib.hid hm2
  clear hd2 hm2 HTN
  go_wp2_with fail
  go_ret
  exact ⟨(congrArg (fun r : Dsk × Int => Ending.returned (Value.int .i64 r.2)) HX.out).symm, by rw [HX.out]; exact HD2.out.more HM.out, (HM.out.trans HM2.out (fun y hy _ => hy)).mono (fun y hy => .inl hy)⟩
 ·have HX := Lib.hid (HX0.out.trans (if_pos he))
  have he' : (er == 0) = false := by simp [he]
  clear he
  go_wp2_with fail
  go_ret
  exact ⟨(congrArg (fun r : Dsk × Int => Ending.returned (Value.int .i64 r.2)) HX.out).symm, by rw [HX.out]; exact HD.out.wide (fun y hy => .inl hy), HM.out.mono (fun y hy => .inl hy)⟩
end Vd
end Go.Proofs.YtcleakjjefmmbaaGreat

/- The document's disk, plain: lists of files, names, turns and writes. -/
namespace Go.Proofs.YtcleakjjefmmbaaGreat
open Go.RowKit
namespace Vd
structure RFil where
 now : Str
 sure : Str
 waits : List Pat
structure RTurn where
 frm : Str
 dst : Str
 file : Int
structure RDsk where
 files : List RFil
 now : Nms
 sure : Nms
 waits : List RTurn
 cap : Int
 down : Bool
 calls : Int
 fail : Int
 crash : Int
 err : Int
def withoutL (l : Nms) (x : Str) : Nms := l.filter fun p => decide (p.1 ≠ x)
def doR (l : Nms) (t : RTurn) : Nms :=
 if t.file < 0 then
  match look l t.frm with
  |none => l
  |some f => if t.dst = [] then withoutL l t.frm else putN (withoutL l t.frm) t.dst f
 else if t.dst = [] then l else putN l t.dst t.file.toNat
def tickR (n : Int) : Int := if 0 ≤ n then n - 1 else n
def beginR (m : RDsk) : RDsk × Int :=
 if m.down then (m, 11)
 else if m.crash = 0 then ({ m with calls := m.calls + 1, crash := tickR m.crash, fail := tickR m.fail, down := true }, 11)
 else if m.fail = 0 then ({ m with calls := m.calls + 1, crash := tickR m.crash, fail := tickR m.fail }, m.err)
 else ({ m with calls := m.calls + 1, crash := tickR m.crash, fail := tickR m.fail }, 0)
def turnR (m : RDsk) (t : RTurn) : RDsk := { m with waits := m.waits ++ [t], now := doR m.now t }
def filR0 : RFil := ⟨[], [], []⟩
def filAt (m : RDsk) (i : Nat) : RFil := m.files.getD i filR0
def bytesR (files : List RFil) (l : Nms) : Nat := (l.map fun p => ((files[p.2]?).map (·.now.length)).getD 0).sum
def usedR (m : RDsk) : Nat := bytesR m.files m.now
def createR (m : RDsk) (x : Str) : RDsk × Int :=
 if (beginR m).2 ≠ 0 then beginR m
 else if namedB x = false then ((beginR m).1, 3)
 else if (look m.now x).isSome then ((beginR m).1, 8)
 else if m.now.length = 1024 then ((beginR m).1, 6)
 else (turnR { (beginR m).1 with files := m.files ++ [filR0] } ⟨[], x, m.files.length⟩, 0)
def wroteR (f : RFil) (p : Pat) : RFil := ⟨overL f.now p.place p.b, f.sure, f.waits ++ [p]⟩
def writeR (m : RDsk) (i : Nat) (p : Pat) : RDsk × Int :=
 if m.cap - (usedR m : Int) < max 0 ((p.place : Int) + (p.b.length : Int) - ((filAt m i).now.length : Int)) then (m, 10)
 else ({ m with files := m.files.set i (wroteR (filAt m i) p) }, 0)
def appendR (m : RDsk) (x b : Str) : RDsk × Int :=
 if (beginR m).2 ≠ 0 then beginR m
 else match look m.now x with
 |none => ((beginR m).1, 7)
 |some i => writeR (beginR m).1 i ⟨(filAt m i).now.length, b⟩
def syncR (m : RDsk) (x : Str) : RDsk × Int :=
 if (beginR m).2 ≠ 0 then beginR m
 else match look m.now x with
 |none => ((beginR m).1, 7)
 |some i => ({ (beginR m).1 with files := m.files.set i ⟨(filAt m i).now, (filAt m i).now, []⟩ }, 0)
def renameR (m : RDsk) (x y : Str) : RDsk × Int :=
 if (beginR m).2 ≠ 0 then beginR m
 else if namedB y = false then ((beginR m).1, 3)
 else if (look m.now x).isSome then (turnR (beginR m).1 ⟨x, y, -1⟩, 0)
 else ((beginR m).1, 7)
def unlinkR (m : RDsk) (x : Str) : RDsk × Int :=
 if (beginR m).2 ≠ 0 then beginR m
 else if (look m.now x).isSome then (turnR (beginR m).1 ⟨x, [], -1⟩, 0)
 else ((beginR m).1, 7)
def syncDirR (m : RDsk) : RDsk × Int := if (beginR m).2 ≠ 0 then beginR m else ({ (beginR m).1 with sure := m.now, waits := [] }, 0)
def knownR (m : RDsk) (i : Nat) : Bool := m.now.any (fun p => decide (p.2 = i)) || m.sure.any (fun p => decide (p.2 = i)) || m.waits.any (fun t => decide (t.file = (i : Int)))
/-- what a file's writes become, and how many of the kept numbers are used -/
def bootW (keep : List Int) : List Pat → Nat → Str → Nat × Str
 | [], n, s => (n, s)
 |p :: ps, n, s => bootW keep ps (n + 1) (if min (max (keep.getD n 0) 0) (p.b.length : Int) = 0 then s else overL s p.place (p.b.take (min (max (keep.getD n 0) 0) (p.b.length : Int)).toNat))
def bootF (m : RDsk) (keep : List Int) : Nat → Nat → List RFil × Nat
 | 0, n => ([], n)
 |i + 1, n =>
  let r := bootF m keep i n
  let q := if knownR m i then bootW keep (filAt m i).waits r.2 (filAt m i).sure else (r.2, (filAt m i).sure)
  (r.1 ++ [⟨q.2, q.2, []⟩], q.1)
def bootR (m : RDsk) (turns : Int) (keep : List Int) : RDsk × Int :=
 if m.down = false then (m, 13)
 else ({ m with files := (bootF m keep m.files.length 0).1, now := (m.waits.take turns.toNat).foldl doR m.sure, sure := (m.waits.take turns.toNat).foldl doR m.sure, waits := [], down := false, fail := -1, crash := -1 }, 0)
end Vd
end Go.Proofs.YtcleakjjefmmbaaGreat

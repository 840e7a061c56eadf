/- Several texts in one: RecPay, RecMem, RecRead. -/
import Derived.Test.YtklbemkafdccgaaGreatK31
import Derived.Test.YtklbemkafdccgaaGreatK12
import Derived.Test.YtklbemkafdccgaaGreatMid
import Derived.Test.YtklbemkafdccgaaGreatK10
/- record.Payload and record.Frame. -/
namespace Go.Proofs.YtklbemkafdccgaaGreat
open Go.RowKit
namespace Rcd
open Oct Frm

theorem retSI {W w' : World} {l l' : List UInt8} {n m : Int} {v : Value} (ho : Own w' W.heap.size 5 v (l'.map u8v)) (hl : l = l') (hn : n = m) (hk : Keeps W w') : RetSI W l n (.returned (.tuple #[v, .int .i64 m])) w' := ⟨v, by rw [hn], by rw [hl]; exact ho, hk⟩
theorem wrapU {n : Nat} (h : n < 18446744073709551616) : IntKind.u64.wrap (n : Int) = (n : Int) := by
 rw [IntKind.wrap_u64]
 omega

set_option maxRecDepth 100000 in
set_option maxHeartbeats 2000000 in
theorem payload_any (r : Rec) (v : Value) (w : World) (hr : Row w v (r.data.map u8v)) :
  Calls Tryz.prog 139 #[.agg (recA r v)] w (RetSI w (payO r) (chk r)) := by
 obtain ⟨pv, cv, rfl, -, -⟩ := hr.form
 have hnl : (List.map u8v r.data).length = r.data.length := by simp
 rw [hnl] at hr ⊢
 clear hnl
 have HR := Lib.hid hr
 clear hr
 have HRA := Lib.hid (fun o h => recA_at r (.slice pv r.data.length cv) (o := o) h)
 have HCA := Lib.hid (fun w h => check_any r (.slice pv r.data.length cv) w h)
 unfold recA
 go_enter Tryz.func139, Tryz.ntmps139
 go_upto_region 1 with fail
 generalize hW : World.alloc w _ = w1
 have HK := Lib.hid (show Keeps w w1 from by rw [← hW]; exact (Keeps.refl _).alloc _)
 have HA := Lib.hid (show Blk w1 w.heap.size 154 (recA r (.slice pv r.data.length cv)) from by rw [← hW]; exact Blk.new _ _ _ rfl)
 clear hW
 obtain ⟨Q, hQ⟩ : ∃ Q, Q = w.heap.size := ⟨_, rfl⟩
 rw [← hQ] at HA ⊢
 have HQ := Lib.hid hQ
 clear hQ
 obtain ⟨a0, a1, a2, a3, a4, a5, a6, a7, a8, a9, a10, a11⟩ := rec12 HA.out
 go_wp2_with fail
 refine (HCA.out w1 (HR.out.keeps HK.out)).mono ?_
 rintro e w2 ⟨rfl, hk2⟩
 have HK := Lib.hid (HK.out.trans hk2)
 have HA := Lib.hid (HA.out.keeps hk2)
 clear hk2 a0 a1 a2 a3 a4 a5 a6 a7 a8 a9 a10 a11
 by_cases hc : chk r = 0
 ·obtain ⟨hk, hok, -, hdl, -⟩ := chk_zero hc
  have HX : Hid (payO r = payL r ∧ chk r = 0) := Lib.hid ⟨by unfold payO; rw [if_pos hc], hc⟩
  have hc' : (chk r != 0) = false := by simp [hc]
  clear hc
  generalize chk r = c at *
  have HOK := Lib.hid hok
  have HK1 := Lib.hid hk
  clear hok hk
  go_wp2_with fail
  refine (newSink_any _).mono ?_
  rintro e w3 ⟨g, rfl, hg, hs, hk3⟩
  have HS := Lib.hid (Sole.new (W := w) hs (Nat.le_trans HK.out.size hg) (HK.out.trans hk3))
  have HGS := Lib.hid (Nat.lt_of_lt_of_le HA.out.lt hg)
  have HA := Lib.hid (HA.out.keeps hk3)
  clear hs hk3 hg
  go_wp2_with fail
  refine (parts_any Q _ r.kind w3 HA.out rfl).mono ?_
  rintro e w4 h4
  obtain ⟨g1, rfl, hg1, hp1, hk4⟩ := h4.some HK1.out
  have HNE := Lib.hid (show ¬ Fr g (.slice none 0 0) g1 from by
   rintro (h | h)
   ·have := HS.out.sink.blk.lt; omega
   ·simp [Value.ownBlock] at h)
  have HS := Lib.hid (HS.out.kept hk4)
  have HA := Lib.hid (HA.out.keeps hk4)
  have HP1 := Lib.hid hp1
  clear hp1 hk4 h4 hg1
  have hlen := partsL_len r.kind
  have HO := Lib.hid (partsL_off (k := r.kind))
  have HPO := Lib.hid (part_ok (k := r.kind))
  have HPL : Hid (payL r = numsL r (partsL r.kind) ++ r.data) := Lib.hid rfl
  generalize partsL r.kind = l at *
  go_wp2_with fail
  go_loopw [16] (fun i wr => ∃ j : Nat, i = .int .i64 (j : Int) ∧ j ≤ l.length ∧ Hid (∃ vs, Sole w wr g vs (numsL r (l.take j)) ∧ Blk wr Q 154 (recA r (.slice pv r.data.length cv)) ∧ PartsAt wr g1 Q l)) (fun i _ => l.length - (intOf i).toNat)
  case atStart => exact ⟨0, rfl, Nat.zero_le _, Lib.hid ⟨_, HS.out, HA.out, HP1.out⟩⟩
  case round =>
   obtain ⟨j, rfl, hj, HH⟩ := hrel
   clear HS HA HP1
   obtain ⟨vs, hS, hA, hP⟩ := HH.out
   clear HH
   have HNlen : Hid ((numsL r (l.take j)).length ≤ 48) := Lib.hid (by
    have := numsL_len r (l.take j) (fun p hp => (HPO.out p (List.mem_of_mem_take hp)).2.1)
    rw [List.length_take] at this
    omega)
   by_cases hlt : j < l.length
   ·obtain ⟨a0, a1, a2, a3⟩ := hP.one hlt
    have hoff := HO.out l[j] (List.getElem_mem hlt)
    obtain ⟨hw1, hw8, hl0, hh1, hh2⟩ := HPO.out l[j] (List.getElem_mem hlt)
    have hok := HOK.out l[j] (List.getElem_mem hlt)
    have hq : wr.cell? ⟨Q, l[j].off, none⟩ = some (.int .i64 (fld r l[j].off)) := by rw [hA.cell]; exact HRA.out _ hoff.2
    have HN := Lib.hid (numsL_next r hlt)
    have hb : l[j].low ≤ fld r l[j].off ∧ fld r l[j].off ≤ l[j].high := by simpa [okP] using hok
    have HPT := Lib.hid (putL_fld (x := fld r l[j].off) (by omega) ⟨hw1, hw8⟩ (by omega))
    clear hok
    generalize l[j] = p at *
    generalize fld r p.off = x at *
    obtain ⟨n, rfl⟩ : ∃ n : Nat, x = (n : Int) := ⟨x.toNat, by omega⟩
    rw [Int.toNat_natCast] at HN HPT
    have hwr : IntKind.u64.wrap (n : Int) = (n : Int) := wrapU (by omega)
    go_upto_region 8 with fail
    obtain ⟨wy, hwy⟩ : ∃ wy, wy = World.alloc wr (Obj.cells #[.int .i64 p.width, .int .i64 p.low, .int .i64 p.high, .pointer (some ⟨Q, p.off, none⟩)] 247) := ⟨_, rfl⟩
    have hky : Keeps wr wy := by rw [hwy]; exact (Keeps.refl _).alloc _
    have hcy0 : wy.cell? ⟨wr.heap.size, 0, none⟩ = some (.int .i64 p.width) := by rw [hwy, (Blk.new wr _ _ rfl).cell]; rfl
    have hcy3 : wy.cell? ⟨wr.heap.size, 3, none⟩ = some (.pointer (some ⟨Q, p.off, none⟩)) := by rw [hwy, (Blk.new wr _ _ rfl).cell]; rfl
    have hqy := keep1 hky hq
    have HSd := Lib.hid ((hS.kept hky).kept (Keeps.refl wy).drew)
    have hne1 : ¬ Fr g vs wr.heap.size := fun h => by have := hS.sink.lt _ h; omega
    have hne2 : ¬ Fr g vs Q := by
     rintro (h | h)
     ·have := HGS.out; omega
     ·exact hS.sink.own.blk_ne hA (by decide) h
    have hne3 : ¬ Fr g vs g1 := by
     rintro (h | h)
     ·exact HNE.out (.inl h)
     ·obtain ⟨cs, hb1, -⟩ := hP
      exact hS.sink.own.blk_ne hb1 (by decide) h
    have HA := Lib.hid (hA.keeps hky)
    have HP := Lib.hid (hP.keeps hky)
    rw [← hwy]
    clear hwy a0 a1 a2 a3 hq hky hS hA hP
    refine wp_region_noPanic ?_
    refine wp_region_held_drew (S := fun w' => Mods (Fr g vs) wy w') (by kernel_rfl) ((Mods.refl (Fr g vs) wy).drew) (fun _ => ?_)
    have hHeld : Mods (Fr g vs) wy (wy).drew := (Mods.refl (Fr g vs) wy).drew
    generalize World.drew wy = xs at *
    refine tq 0 20 ?_
    refine tq 1 21 ?_
    refine tq 2 22 ?_ (hy := fun w' hSw => by
     have hSw : Mods (Fr g vs) wy w' := hSw
     have hc := hSw.cell hcy3 hne1
     clear hSw
     go_simp
     try with_reducible rfl)
    refine tq 3 23 ?_
    refine tq 4 24 ?_ (hy := fun w' hSw => by
     have hSw : Mods (Fr g vs) wy w' := hSw
     have hc := hSw.cell hqy hne2
     clear hSw
     go_simp
     try with_reducible rfl)
    refine tq 5 25 ?_
    refine tq 6 26 ?_
    refine tq 7 27 ?_ (hy := fun w' hSw => by
     have hSw : Mods (Fr g vs) wy w' := hSw
     have hc := hSw.cell hcy0 hne1
     clear hSw
     go_simp
     try with_reducible rfl)
    refine rd1 8 (fun K hK => ?_)
    go_simp
    refine (sinkU_any g vs _ n (by omega) p.width _ HSd.out.sink (by have := HNlen.out; omega)).mono ?_
    rintro e w6 ⟨vs', rfl, hs6, hm6, hf6⟩
    have hb := hHeld.trans hm6 (fun x h _ => h)
    have HS6 := Lib.hid (HSd.out.did hs6 hm6 hf6)
    clear hs6 hm6 hf6 HSd
    go_wp2_with fail
    refine bkm hK hb ?_
    clear hK K hHeld
    have hHeld : Mods (Fr g vs) wy w6 := hb
    clear hb
    refine wpAnyH_done (by kernel_rfl) ?_ _
    refine NoPanic.normal ?_
    go_wp2_with fail
    go_roundw
    case rel =>
     have h6 := HS6.out
     rw [HPT.out, ← HN.out] at h6
     exact ⟨j + 1, by simp, by omega, Lib.hid ⟨_, h6, HA.out.mods hHeld hne2, HP.out.mods hHeld hne3⟩⟩
    case measure =>
     simp only [intOf]
     omega
   ·obtain rfl : j = l.length := by omega
    rw [List.take_length] at hS HNlen
    obtain ⟨a0, a1, a2, a3, a4, a5, a6, a7, a8, a9, a10, a11⟩ := rec12 hA
    have HS := Lib.hid hS
    have HKr := Lib.hid hS.keeps
    clear hS hA hP
    go_wp2_with fail
    refine (sinkRaw_any g vs _ (.slice pv r.data.length cv) r.data wr HS.out.sink (HR.out.keeps HKr.out) (by have := HNlen.out; omega)).mono ?_
    rintro e w7 ⟨vs', rfl, hs7, hm7, hf7⟩
    have HS7 := Lib.hid (HS.out.did hs7 hm7 hf7)
    clear hs7 hm7 hf7
    go_wp2_with fail
    refine (sinkBytes_any g vs' _ w7 HS7.out.sink (by rw [List.length_append]; have := HNlen.out; omega)).mono ?_
    rintro e w8 ⟨v8, rfl, ho8, hk8⟩
    obtain ⟨p8, n8, c8, rfl⟩ := ho8.sl
    have HO8 := Lib.hid (ho8.lower HS7.out.keeps.size)
    have HK8 := Lib.hid (HS7.out.keeps.trans hk8)
    clear ho8 hk8
    go_wp2_with fail
    go_ret2
    exact retSI HO8.out (HX.out.1.trans HPL.out) HX.out.2 HK8.out
 ·have hc' : (chk r != 0) = true := by simp [hc]
  have HX : Hid (payO r = []) := Lib.hid (by unfold payO; rw [if_neg hc])
  clear hc
  go_wp2_with fail
  go_ret2
  exact retSI (l' := []) (Own.nil _ _ _) HX.out rfl HK.out

set_option maxRecDepth 100000 in
set_option maxHeartbeats 2000000 in
theorem frame_any (r : Rec) (v : Value) (w : World) (hr : Row w v (r.data.map u8v)) :
  Calls Tryz.prog 81 #[.agg (recA r v)] w (RetSI w (frmL r) (chk r)) := by
 obtain ⟨pv, cv, rfl, -, -⟩ := hr.form
 have hnl : (List.map u8v r.data).length = r.data.length := by simp
 rw [hnl] at hr ⊢
 clear hnl
 have HR := Lib.hid hr
 clear hr
 have HPA := Lib.hid (fun w h => payload_any r (.slice pv r.data.length cv) w h)
 have HPL : Hid (payL r = numsL r (partsL r.kind) ++ r.data) := Lib.hid rfl
 have HNL := Lib.hid (numsL_len r (partsL r.kind) (fun p hp => (part_ok p hp).2.1))
 have HLN := Lib.hid (partsL_len r.kind)
 unfold recA
 go_enter Tryz.func81, Tryz.ntmps81
 go_upto_region 1 with fail
 generalize hW : World.alloc w _ = w1
 have HK := Lib.hid (show Keeps w w1 from by rw [← hW]; exact (Keeps.refl _).alloc _)
 have HA := Lib.hid (show Blk w1 w.heap.size 154 (recA r (.slice pv r.data.length cv)) from by rw [← hW]; exact Blk.new _ _ _ rfl)
 clear hW
 obtain ⟨Q, hQ⟩ : ∃ Q, Q = w.heap.size := ⟨_, rfl⟩
 rw [← hQ] at HA ⊢
 clear hQ
 obtain ⟨a0, a1, a2, a3, a4, a5, a6, a7, a8, a9, a10, a11⟩ := rec12 HA.out
 go_wp2_with fail
 refine (HPA.out w1 (HR.out.keeps HK.out)).mono ?_
 rintro e w2 ⟨v2, rfl, ho2, hk2⟩
 obtain ⟨p2, n2, c2, rfl⟩ := ho2.sl
 have HA := Lib.hid (HA.out.keeps hk2)
 have HO := Lib.hid ho2.row
 have HKK := Lib.hid (HK.out.trans hk2)
 clear hk2 ho2 a0 a1 a2 a3 a4 a5 a6 a7 a8 a9 a10 a11
 by_cases hc : chk r = 0
 ·obtain ⟨hk, hok, -, hdl, -⟩ := chk_zero hc
  have hX : payO r = payL r := by unfold payO; rw [if_pos hc]
  have HX : Hid (frmL r = wrapL r.kind (payL r) ∧ chk r = wrapE r.kind (payL r).length) := Lib.hid ⟨by unfold frmL; rw [if_pos hc], by
   rw [hc]; unfold wrapE
   rw [if_neg (by omega), if_neg (by rw [HPL.out, List.length_append]; have := HNL.out; have := HLN.out; omega)]⟩
  have hc' : (chk r != 0) = false := by simp [hc]
  rw [hX] at HO
  clear hc hX hok
  obtain ⟨a0, -⟩ := rec12 HA.out
  go_wp2_with fail
  refine (wrap_any r.kind _ (payL r) w2 HO.out).mono ?_
  rintro e w3 ⟨v3, rfl, ho3, hk3⟩
  obtain ⟨p3, n3, c3, rfl⟩ := ho3.sl
  go_wp2_with fail
  go_ret2
  exact retSI (ho3.lower HKK.out.size) HX.out.1 HX.out.2 (HKK.out.trans hk3)
 ·have hc' : (chk r != 0) = true := by simp [hc]
  have HX : Hid (frmL r = []) := Lib.hid (by unfold frmL; rw [if_neg hc])
  clear hc
  go_wp2_with fail
  go_ret2
  exact retSI (l' := []) (Own.nil _ _ _) HX.out rfl HKK.out
end Rcd
end Go.Proofs.YtklbemkafdccgaaGreat

/- Records in memory as whole structs. -/
namespace Go.Proofs.YtklbemkafdccgaaGreat
open Go.RowKit
namespace Rcd
theorem recM : Mids Tryz.prog 154 12 := ⟨⟨_, Tryz.underlying154, rfl⟩, by kernel_rfl⟩
theorem recA_one (r : Rec) (p : Option Addr) (n c : Nat) : (recA r (.slice p n c)).all (·.oneCell') = true := by simp [recA, Value.oneCell']
def zero12 : Array Value := #[.int .i64 0, .int .i64 0, .int .i64 0, .int .i64 0, .int .i64 0, .int .i64 0, .int .i64 0, .int .i64 0, .int .i64 0, .int .i64 0, .int .i64 0, .slice none 0 0]
theorem zero12_one : zero12.all (·.oneCell') = true := by simp [zero12, Value.oneCell']
end Rcd
end Go.Proofs.YtklbemkafdccgaaGreat

/- record.Read. -/
namespace Go.Proofs.YtklbemkafdccgaaGreat
open Go.RowKit
namespace Rcd
open Oct Frm

def u64v (x : Nat) : Value := .int .u64 (x : Int)
theorem srcGrown {w w' : World} {g : Nat} {v : Value} {l : List UInt8} {a : Nat} {e : Int} {e2 : TypeId} {b2 : Nat} {v2 : Value} {l2 : List Value} (h : SrcAt w g v l a e) (h2 : Own w b2 e2 v2 l2) (h5 : e2 ≠ 5) (h6 : e2 ≠ 186) (hg : w.grownBy w' v2.ownBlock) : SrcAt w' g v l a e := by
 refine h.mods ((Mods.refl (fun x => v2.ownBlock = some x) w).grown hg (fun k hk _ => hk)) (fun x hx hs => ?_)
 rcases hx with rfl | hx
 ·exact h2.blk_ne h.blk h6 hs
 ·rcases h.own.2 with ⟨rfl, _⟩ | ⟨g', cap, cur, rfl, _, hh, _⟩
  ·simp [Value.ownBlock] at hx
  ·have : g' = x := by simpa [Value.ownBlock] using hx
   subst this
   exact h2.blk_ne (cs := cur) (t := 5) hh h5 hs
theorem u64ok : ElemOk Tryz.prog 273 105 8 := elemOk (z := .int .u64 0) Tryz.underlying273 (by kernel_rfl) rfl
/-- a record of a payload, and an error -/
def ReadDid (W : World) (kind : Int) (l : List UInt8) (e : Ending) (w' : World) : Prop :=
 ∃ dv, e = .returned (.tuple #[.agg (recA (readR kind l) dv), .int .i64 (readE kind l)]) ∧ Own w' W.heap.size 5 dv ((readR kind l).data.map u8v) ∧ Keeps W w'

/-- behind what is laid first: source, parts, the record, the result -/
structure RdAt (W w : World) (R b g g1 : Nat) (sv : Value) (l : List UInt8) (a : Nat) (er : Int) (cs : Array Value) (ps : List Part) : Prop where
 keeps : Keeps W w
 res : Blk w R 154 zero12
 blk : Blk w b 154 cs
 src : SrcAt w g sv l a er
 parts : PartsAt w g1 b ps
theorem RdAt.kept {W w w' : World} {R b g g1 : Nat} {sv : Value} {l : List UInt8} {a : Nat} {er : Int} {cs : Array Value} {ps : List Part} (h : RdAt W w R b g g1 sv l a er cs ps) (k : Keeps w w') : RdAt W w' R b g g1 sv l a er cs ps :=
 ⟨h.keeps.trans k, h.res.keeps k, h.blk.keeps k, h.src.keeps k, h.parts.keeps k⟩

theorem PartsAt.grown {w w' : World} {g b : Nat} {ps : List Part} {e2 : TypeId} {b2 : Nat} {v2 : Value} {l2 : List Value} (h : PartsAt w g b ps) (h2 : Own w b2 e2 v2 l2) (h5 : e2 ≠ 247) (hg : w.grownBy w' v2.ownBlock) : PartsAt w' g b ps := let ⟨cs, h1, h3⟩ := h; ⟨cs, h1.grown hg (h2.blk_ne h1 h5), h3⟩
theorem RdAt.grownA {W w w' : World} {R b g g1 : Nat} {sv : Value} {l : List UInt8} {a : Nat} {er : Int} {cs : Array Value} {ps : List Part} {v2 : Value} {l2 : List Value} {o : Obj} (h : RdAt W w R b g g1 sv l a er cs ps) (h2 : Own w W.heap.size 105 v2 l2) (hg : (w.alloc o).grownBy w' v2.ownBlock) : RdAt W w' R b g g1 sv l a er cs ps := by
 have h' := h.kept ((Keeps.refl w).alloc o)
 have h2' := h2.alloc o
 exact ⟨h'.keeps.grown hg h2'.base, h'.res.grown hg (h2'.blk_ne h'.res (by decide)), h'.blk.grown hg (h2'.blk_ne h'.blk (by decide)), srcGrown h'.src h2' (by decide) (by decide) hg, h'.parts.grown h2' (by decide) hg⟩

set_option maxRecDepth 100000 in
set_option maxHeartbeats 4000000 in
theorem read_any (kind : Int) (v : Value) (l : List UInt8) (w : World) (hr : Row w v (l.map u8v)) (hl : l.length ≤ 35184372088832) :
  Calls Tryz.prog 182 #[.int .i64 kind, v] w (ReadDid w kind l) := by
 have HR := Lib.hid hr
 obtain ⟨pv, nv, cv, rfl⟩ : ∃ p n c, v = .slice p n c := let ⟨p, c, h, _⟩ := hr.form; ⟨p, _, c, h⟩
 clear hr
 go_enter Tryz.func182, Tryz.ntmps182
 go_upto_region 2 with fail
 generalize hW : World.alloc (World.alloc w _) _ = w1
 have HK := Lib.hid (show Keeps w w1 from by rw [← hW]; exact ((Keeps.refl _).alloc _).alloc _)
 have HZ := Lib.hid (show Blk w1 w.heap.size 154 zero12 from by rw [← hW]; exact (Blk.new _ _ _ rfl).alloc _)
 have HB := Lib.hid (show Blk w1 (w.heap.size + 1) 154 (cs0 kind (.slice none 0 0)) from by rw [← hW]; exact Blk.new _ _ _ (by rw [asz]))
 clear hW
 obtain ⟨Q, hQ⟩ : ∃ Q, Q = w.heap.size := ⟨_, rfl⟩
 rw [← hQ] at HZ HB ⊢
 have HQ := Lib.hid hQ
 clear hQ
 go_wp2_with fail
 refine (newSource_any _ l w1 (HR.out.keeps HK.out) hl).mono ?_
 rintro e w2 ⟨g, sv, rfl, hg, hs, hsb, hk2⟩
 have HG := Lib.hid (show Q + 1 < g from Nat.lt_of_lt_of_le HB.out.lt hg)
 have HSB := Lib.hid (fun x hx => Nat.lt_of_lt_of_le HB.out.lt (hsb x hx))
 have HK := Lib.hid (HK.out.trans hk2)
 have HZ := Lib.hid (HZ.out.keeps hk2)
 have HB := Lib.hid (HB.out.keeps hk2)
 have HS := Lib.hid hs
 clear hk2 hg hs hsb
 go_wp2_with fail
 refine (parts_any (Q + 1) _ kind w2 HB.out rfl).mono ?_
 rintro e w3 h3
 by_cases hk : 1 ≤ kind ∧ kind ≤ 6
 ·obtain ⟨g1, rfl, hg1, hp1, hk3⟩ := h3.some hk
  have HS0 := Lib.hid (RdAt.mk (HK.out.trans hk3) (HZ.out.keeps hk3) (HB.out.keeps hk3) (HS.out.keeps hk3) hp1)
  have HG1 := Lib.hid (show g < g1 from Nat.lt_of_lt_of_le HS.out.blk.lt hg1)
  have HKI := Lib.hid hk
  clear h3 hg1 hp1 hk3 hk HK HZ HB HS
  have hlen := partsL_len kind
  have HO := Lib.hid (partsL_off (k := kind))
  have hnil : ∀ W, (binOp .eql 242 (.slice (some ⟨g1, 0, none⟩) (partsL kind).length (partsL kind).length) (.slice none 0 0)).run Tryz.prog W = .ok (.bool false) W := fun W => Lib.run_eql_slice_nil W _ _ _ _ _ _ _ Tryz.underlying242
  generalize hps : partsL kind = ps at *
  have HPS := Lib.hid hps
  clear hps
  go_wp2_with fail
  go_loopw [9, 25] (fun vv i wr => ∃ j : Nat, i = .int .i64 (j : Int) ∧ j ≤ ps.length ∧ (∃ p n c, vv = .slice p n c) ∧ Hid (RdAt w wr Q (Q + 1) g g1 sv l (rdF l (ps.take j)).1 (rdF l (ps.take j)).2.1 (cs0 kind (.slice none 0 0)) ps ∧ Own wr w.heap.size 105 vv ((rdF l (ps.take j)).2.2.map u64v))) (fun _ i _ => ps.length - (intOf i).toNat)
  case atStart => exact ⟨0, rfl, Nat.zero_le _, ⟨_, _, _, rfl⟩, Lib.hid ⟨HS0.out, Own.nil _ _ _⟩⟩
  case round =>
   obtain ⟨j, rfl, hj, ⟨pvv, nvv, cvv, rfl⟩, HH⟩ := hrel
   by_cases hlt : j < ps.length
   ·obtain ⟨a0, a1, a2, a3⟩ := HH.out.1.parts.one hlt
    have HN := Lib.hid (rdF_next l hlt)
    have HLn : Hid ((rdF l (ps.take j)).2.2.length ≤ 6) := Lib.hid (by rw [rdF_len, List.length_take]; omega)
    generalize rdF l (ps.take j) = st at *
    obtain ⟨sa, se, sl⟩ := st
    generalize ps[j] = p at *
    go_upto_region 10 with fail
    obtain ⟨wy, hwy⟩ : ∃ wy, wy = World.alloc wr (Obj.cells #[.int .i64 p.width, .int .i64 p.low, .int .i64 p.high, .pointer (some ⟨Q + 1, p.off, none⟩)] 247) := ⟨_, rfl⟩
    have hky : Keeps wr wy := by rw [hwy]; exact (Keeps.refl _).alloc _
    have hcy0 : wy.cell? ⟨wr.heap.size, 0, none⟩ = some (.int .i64 p.width) := by rw [hwy, (Blk.new wr _ _ rfl).cell]; rfl
    have HRy := Lib.hid (HH.out.1.kept hky)
    have HOy := Lib.hid (HH.out.2.keeps hky)
    rw [← hwy]
    clear hwy hky a0 a1 a2 a3 HH
    go_wp2_with fail
    refine (srcU_any g sv l sa se p.width wy HRy.out.src).mono ?_
    rintro e w6 ⟨rfl, hs6, hm6⟩
    have hS6 : RdAt w w6 Q (Q + 1) g g1 sv l (uA l.length sa se p.width) (uE l.length sa se p.width) (cs0 kind (.slice none 0 0)) ps :=
     ⟨hm6.keeps HRy.out.keeps (fun x hx => by have := HG.out; have := HQ.out; omega), HRy.out.res.mods hm6 (by have := HG.out; omega), HRy.out.blk.mods hm6 (by have := HG.out; omega), hs6, HRy.out.parts.mods hm6 (by have := HG1.out; omega)⟩
    have hO6 : Own w6 w.heap.size 105 (.slice pvv nvv cvv) (sl.map u64v) := HOy.out.mods hm6 (fun x hx hs => by subst hs; exact HOy.out.blk_ne HRy.out.src.blk (by decide) hx)
    have HS6 := Lib.hid hS6
    have HO6 := Lib.hid hO6
    clear hs6 hm6 hS6 hO6 HRy HOy
    have hsz : (sl.map u64v).length ≤ 6 := by rw [List.length_map]; exact HLn.out
    go_wp2_with (at_builtin; refine wpList_app1 (base := w.heap.size) u64ok rfl _ _ rfl (.slice pvv nvv cvv) (.slice (some ⟨w6.heap.size, 0, none⟩) 1 1) (sl.map u64v) [.int .u64 (uV l sa se p.width : Nat)] rfl rfl (HO6.out.alloc _) (row_one rfl) (by simp [Value.oneCell']) (by simp only [List.length_singleton]; omega) (by decide) (Nat.le_trans HS6.out.keeps.size (by rw [asz]; omega)) ?_; intro v' w7 ho7 hg7 hf7; obtain ⟨p7, n7, c7, rfl⟩ := ho7.sl)
    have hS7 : RdAt w w7 Q (Q + 1) g g1 sv l (uA l.length sa se p.width) (uE l.length sa se p.width) (cs0 kind (.slice none 0 0)) ps := HS6.out.grownA HO6.out hg7
    have HS7 := Lib.hid hS7
    clear hS7
    go_roundw
    case rel =>
     refine ⟨j + 1, by simp, by omega, ⟨_, _, _, rfl⟩, Lib.hid ?_⟩
     rw [HN.out]
     refine ⟨HS7.out, ?_⟩
     simp only [stepU, List.map_append, List.map_cons, List.map_nil]
     exact ho7
    case measure =>
     simp only [intOf]
     omega
   ·obtain rfl : j = ps.length := by omega
    rw [List.take_length] at HH
    clear HS0 hlt hj
    have HZ : Hid (zsR kind l = ps.zip (rdF l ps).2.2) := Lib.hid (by unfold zsR; rw [HPS.out])
    have HVL : Hid ((rdF l ps).2.2.length = ps.length) := Lib.hid (rdF_len l ps)
    have HA := Lib.hid (rd_all HKI.out l)
    have HN6 : Hid (kind ≠ 6 → datL kind l = [] ∧ doneE (rdF l ps).2.1 (rdF l ps).1 l.length = E0 kind l) := Lib.hid (fun h => by rw [← HPS.out]; exact done_not6 HKI.out h l)
    have H6 : Hid (kind = 6 → rL l (rdF l ps).1 (rdF l ps).2.1 ((l.length : Int) - (rdF l ps).1) = datL kind l ∧ doneE (rE l.length (rdF l ps).1 (rdF l ps).2.1 ((l.length : Int) - (rdF l ps).1)) (rA l.length (rdF l ps).1 (rdF l ps).2.1 ((l.length : Int) - (rdF l ps).1)) l.length = E0 kind l) := Lib.hid (fun h => by
     subst h
     rw [← HPS.out]
     exact done_6 l (a := (rdF l (partsL 6)).1) (er := (rdF l (partsL 6)).2.1) (vs := (rdF l (partsL 6)).2.2) rfl)
    generalize rdF l ps = st at *
    obtain ⟨sa, se, sl⟩ := st
    simp only at HVL HZ HN6 H6 HH
    go_upto_if 38 with fail
    go_cut [43] (fun _ wx => ∃ (p : Option Addr) (c a : Nat) (er : Int), Hid (RdAt w wx Q (Q + 1) g g1 sv l a er (cs0 kind (.slice p (datL kind l).length c)) ps ∧ Own wx w.heap.size 105 (.slice pvv nvv cvv) (sl.map u64v) ∧ Own wx w.heap.size 5 (.slice p (datL kind l).length c) ((datL kind l).map u8v) ∧ doneE er a l.length = E0 kind l))
    case first =>
     as_aux_lemma =>
      by_cases k6 : kind = 6
      ·have H6 := Lib.hid (H6.out k6)
       have k6' : (kind == 6) = true := by simp [k6]
       clear k6 HN6
       have hle := HH.out.1.src.le
       go_wp2_with fail
       refine (left_any g sv l sa se wr HH.out.1.src).mono ?_
       rintro e w5 ⟨rfl, hk5⟩
       have HH5 := Lib.hid (And.intro (HH.out.1.kept hk5) (HH.out.2.keeps hk5))
       clear HH hk5
       go_wp2_with fail
       refine (srcRaw_any g sv l sa se _ w5 HH5.out.1.src).mono ?_
       rintro e w6 ⟨dv, rfl, hd6, hs6, hm6⟩
       rw [H6.out.1] at hd6
       obtain ⟨pd, cd, rfl, -, -⟩ := hd6.row.form
       have hnl : (List.map u8v (datL kind l)).length = (datL kind l).length := by simp
       rw [hnl] at hd6 ⊢
       have hR6 : RdAt w w6 Q (Q + 1) g g1 sv l _ _ (cs0 kind (.slice none 0 0)) ps :=
        ⟨hm6.keeps HH5.out.1.keeps (fun x hx => by have := HG.out; have := HQ.out; omega), HH5.out.1.res.mods hm6 (by have := HG.out; omega), HH5.out.1.blk.mods hm6 (by have := HG.out; omega), hs6, HH5.out.1.parts.mods hm6 (by have := HG1.out; omega)⟩
       have HO6 := Lib.hid (HH5.out.2.mods hm6 (fun x hx hs => by subst hs; exact HH5.out.2.blk_ne HH5.out.1.src.blk (by decide) hx))
       have HR6 := Lib.hid hR6
       have HD6 := Lib.hid (hd6.lower HH5.out.1.keeps.size)
       have hx6 : w6.cell? ⟨Q + 1, 11, none⟩ = some (.slice none 0 0) := by rw [hR6.blk.cell]; rfl
       have hz6 : w6.frozen? ⟨Q + 1, 11, none⟩ = false := hR6.blk.frozen _
       clear hd6 hs6 hm6 hR6 HH5 hnl
       go_wp2_with fail
       go_meet
       refine ⟨pd, cd, _, _, Lib.hid ⟨⟨HR6.out.keeps.setCell (p := ⟨Q + 1, 11, none⟩) (by show _ ≤ Q + 1; have := HQ.out; omega) _, HR6.out.res.far (p := ⟨Q + 1, 11, none⟩) (by show Q ≠ Q + 1; omega) _, HR6.out.blk.set_ 11 _, ?_, ?_⟩, ?_, ?_, H6.out.2⟩⟩
       ·exact HR6.out.src.mods ((Mods.refl (· = Q + 1) w6).setCell (p := ⟨Q + 1, 11, none⟩) (fun _ => rfl) _) (fun x hx hs => by
         subst hs
         rcases hx with h | h
         ·have := HG.out; omega
         ·have := HSB.out _ h; omega)
       ·exact HR6.out.parts.mods ((Mods.refl (· = Q + 1) w6).setCell (p := ⟨Q + 1, 11, none⟩) (fun _ => rfl) _) (by have := HG1.out; have := HG.out; omega)
       ·exact HO6.out.setCell _ (HO6.out.blk_ne HR6.out.blk (by decide))
       ·exact HD6.out.setCell _ (HD6.out.blk_ne HR6.out.blk (by decide))
      ·have HN6 := Lib.hid (HN6.out k6)
       have k6' : (kind == 6) = false := by simp [k6]
       clear k6 H6
       go_wp2_with fail
       go_meet
       refine ⟨none, 0, _, _, Lib.hid ⟨?_, HH.out.2, ?_, HN6.out.2⟩⟩
       ·rw [HN6.out.1]; exact HH.out.1
       ·rw [HN6.out.1]; exact Own.nil _ _ _
    case rest =>
     obtain ⟨pd, cd, da, der, HC⟩ := hcut
     clear HH HN6 H6
     go_wp2_with fail
     refine (done_any g sv l da der wc HC.out.1.src).mono ?_
     rintro e w6 ⟨rfl, hk6⟩
     rw [HC.out.2.2.2]
     have HR6 := Lib.hid (HC.out.1.kept hk6)
     have HO6 := Lib.hid (HC.out.2.1.keeps hk6)
     have HD6 := Lib.hid (HC.out.2.2.1.keeps hk6)
     clear HC hk6
     have hc11 : w6.cell? ⟨Q + 1, 11, none⟩ = some (.slice pd (datL kind l).length cd) := by rw [HR6.out.blk.cell]; rfl
     have HD11 := Lib.hid hc11
     clear hc11
     obtain ⟨bb, hbb⟩ : ∃ bb : Bool, bb = decide (E0 kind l = 0 ∧ 32768 < (datL kind l).length) := ⟨_, rfl⟩
     have HBB := Lib.hid hbb
     clear hbb
     go_upto_region 15 with fail
     go_cut [53] (fun t wx => t = .bool bb ∧ wx = w6)
     case first =>
      as_aux_lemma =>
       have hc11 := HD11.out
       by_cases he : E0 kind l = 0
       ·have he' : (E0 kind l == 0) = true := by simp [he]
        have HX : Hid (decide (32768 < ((datL kind l).length : Int)) = bb) := Lib.hid (by
         rw [HBB.out, Bool.eq_iff_iff, decide_eq_true_eq, decide_eq_true_eq]; constructor
         ·intro h; exact ⟨he, by omega⟩
         ·intro h; omega)
        clear he
        go_wp2_with fail
        go_meet
        exact ⟨by rw [HX.out], rfl⟩
       ·have he' : (E0 kind l == 0) = false := by simp [he]
        have HX : Hid (bb = false) := Lib.hid (by rw [HBB.out]; exact decide_eq_false (fun h => he h.1))
        clear he
        go_wp2_with fail
        go_meet
        exact ⟨by rw [HX.out], rfl⟩
     case rest =>
     obtain ⟨rfl, rfl⟩ := hcut
     go_upto_if 53 with fail
     obtain ⟨w6, rfl⟩ : ∃ w6 : World, w6 = wc := ⟨_, rfl⟩
     go_cut [12] (fun e wx => e = .int .i64 (E1 kind l) ∧ wx = w6)
     case first =>
      as_aux_lemma =>
       have HX : Hid (E1 kind l = if bb then 4 else E0 kind l) := Lib.hid (by
        unfold E1
        rw [HBB.out]
        by_cases he : E0 kind l = 0 ∧ 32768 < (datL kind l).length
        ·rw [if_pos he, decide_eq_true he]; rfl
        ·rw [if_neg he, decide_eq_false he]; rfl)
       cases bb with
       |true =>
        go_wp2_with fail
        go_meet
        exact ⟨by rw [HX.out]; rfl, rfl⟩
       |false =>
        go_wp2_with fail
        go_meet
        exact ⟨by rw [HX.out]; rfl, rfl⟩
     case rest =>
     obtain ⟨rfl, rfl⟩ := hcut
     obtain ⟨w7, rfl⟩ : ∃ w7 : World, w7 = wc := ⟨_, rfl⟩
     have HIN : Hid (Keeps w w7 ∧ Blk w7 Q 154 zero12 ∧ Blk w7 (Q + 1) 154 (arrZ (cs0 kind (.slice pd (datL kind l).length cd)) ((zsR kind l).take 0)) ∧ PartsAt w7 g1 (Q + 1) ps ∧ Own w7 w.heap.size 105 (.slice pvv nvv cvv) (sl.map u64v) ∧ Own w7 w.heap.size 5 (.slice pd (datL kind l).length cd) ((datL kind l).map u8v)) :=
      Lib.hid ⟨HR6.out.keeps, HR6.out.res, HR6.out.blk, HR6.out.parts, HO6.out, HD6.out⟩
     have HE0 : Hid (E1 kind l = errZ (E1 kind l) ((zsR kind l).take 0)) := Lib.hid rfl
     clear HR6 HO6 HD6 HD11 HBB bb
     have HZi : Hid (∀ j (h1 : j < ps.length) (h2 : j < sl.length) (h3 : j < (zsR kind l).length), (zsR kind l)[j] = (ps[j], sl[j])) := Lib.hid (fun j h1 h2 h3 => by
      have : (zsR kind l)[j]? = (ps.zip sl)[j]? := by rw [HZ.out]
      rw [List.getElem?_eq_getElem h3, List.getElem?_eq_getElem (by rw [List.length_zip]; omega), List.getElem_zip] at this
      exact Option.some.inj this)
     have HZl : Hid ((zsR kind l).length = ps.length) := Lib.hid (by rw [zsR_len, HPS.out])
     have HPO : Hid (∀ p ∈ ps, 1 ≤ p.width ∧ p.width ≤ 8 ∧ 0 ≤ p.low ∧ p.high < ((256 ^ p.width.toNat : Nat) : Int) ∧ p.high ≤ 9007199254740992 ∧ 0 ≤ p.high) := Lib.hid (fun p hp => by
      rw [← HPS.out] at hp
      obtain ⟨h1, h2, h3, h4, h5⟩ := part_ok p hp
      exact ⟨h1, h2, h3, h4, h5, part_pos p hp⟩)
     have HAS : Hid (∀ zs, (arrZ (cs0 kind (.slice pd (datL kind l).length cd)) zs).size = 12) := Lib.hid (fun zs => by rw [arrZ_size]; rfl)
     have HA2 : Hid ((errZ (E1 kind l) (zsR kind l) = 0 → arrZ (cs0 kind (.slice pd (datL kind l).length cd)) (zsR kind l) = recA (mkR kind l) (.slice pd (datL kind l).length cd) ∧ (mkR kind l).data = datL kind l ∧ readE kind l = chk (mkR kind l)) ∧ (errZ (E1 kind l) (zsR kind l) ≠ 0 → readE kind l = errZ (E1 kind l) (zsR kind l))) :=
      Lib.hid ⟨fun h => ⟨(HA.out.1 h).1 _, (HA.out.1 h).2⟩, HA.out.2⟩
     clear HZ HA
     generalize zsR kind l = zs at *
     generalize E1 kind l = ee at *
     generalize cs0 kind (.slice pd (datL kind l).length cd) = c0 at *
     go_wp2_with fail
     go_loopw [12, 56] (fun e i wr => ∃ j : Nat, i = .int .i64 (j : Int) ∧ j ≤ ps.length ∧ e = .int .i64 (errZ ee (zs.take j)) ∧ Hid (Keeps w wr ∧ Blk wr Q 154 zero12 ∧ Blk wr (Q + 1) 154 (arrZ c0 (zs.take j)) ∧ PartsAt wr g1 (Q + 1) ps ∧ Own wr w.heap.size 105 (.slice pvv nvv cvv) (sl.map u64v) ∧ Own wr w.heap.size 5 (.slice pd (datL kind l).length cd) ((datL kind l).map u8v))) (fun _ i _ => ps.length - (intOf i).toNat)
     case atStart => exact ⟨0, rfl, Nat.zero_le _, by rw [← HE0.out], HIN⟩
     case round =>
      obtain ⟨j, rfl, hj, rfl, HH⟩ := hrel
      clear HIN HE0
      by_cases hlt : j < ps.length
      ·have hls : j < sl.length := by have := HVL.out; omega
       have hlz : j < zs.length := by have := HZl.out; omega
       obtain ⟨a0, a1, a2, a3⟩ := HH.out.2.2.2.1.one hlt
       have hoff := HO.out ps[j] (List.getElem_mem hlt)
       obtain ⟨-, -, -, -, hh2, hh0⟩ := HPO.out ps[j] (List.getElem_mem hlt)
       have HEn : Hid (errZ ee (zs.take (j + 1)) = if errZ ee (zs.take j) = 0 ∧ ps[j].high < (sl[j] : Int) then 1 else errZ ee (zs.take j)) := Lib.hid (by rw [errZ_next ee hlz, HZi.out j hlt hls hlz])
       have HAn : Hid (arrZ c0 (zs.take (j + 1)) = (arrZ c0 (zs.take j)).setIfInBounds ps[j].off (.int .i64 (if ps[j].high < (sl[j] : Int) then ps[j].high else (sl[j] : Int)))) := Lib.hid (by rw [arrZ_next c0 hlz, HZi.out j hlt hls hlz]; rfl)
       obtain ⟨gv, cvv', hvv, -, -, -⟩ := HH.out.2.2.2.2.1.form (by rw [List.length_map]; omega)
       simp only [Value.slice.injEq] at hvv
       obtain ⟨rfl, rfl, rfl⟩ := hvv
       have hvx : wr.cell? ⟨gv, j, none⟩ = some (.int .u64 (sl[j] : Int)) := HH.out.2.2.2.2.1.cellAt j _ (by simp [hls, u64v])
       have hsl : (List.map u64v sl).length = sl.length := by simp
       rw [hsl]
       have hgv : ¬ gv = Q + 1 := fun h => HH.out.2.2.2.2.1.blk_ne HH.out.2.2.1 (by decide) (by rw [h]; rfl)
       generalize ps[j] = p at *
       generalize sl[j] = x at *
       obtain ⟨pw, pl, phi, po⟩ := p
       simp only at hh2 hh0 hoff HEn HAn a0 a1 a2 a3
       obtain ⟨hn, rfl⟩ : ∃ hn : Nat, phi = (hn : Int) := ⟨phi.toNat, by omega⟩
       have hwr : IntKind.u64.wrap (hn : Int) = (hn : Int) := wrapU (by omega)
       generalize errZ ee (zs.take j) = ej at *
       go_upto_region 20 with fail
       obtain ⟨wy, hwy⟩ : ∃ wy, wy = World.alloc wr (Obj.cells #[.int .i64 pw, .int .i64 pl, .int .i64 (hn : Int), .pointer (some ⟨Q + 1, po, none⟩)] 247) := ⟨_, rfl⟩
       have hky : Keeps wr wy := by rw [hwy]; exact (Keeps.refl _).alloc _
       have hcy2 : wy.cell? ⟨wr.heap.size, 2, none⟩ = some (.int .i64 (hn : Int)) := by rw [hwy, (Blk.new wr _ _ rfl).cell]; rfl
       have hcy3 : wy.cell? ⟨wr.heap.size, 3, none⟩ = some (.pointer (some ⟨Q + 1, po, none⟩)) := by rw [hwy, (Blk.new wr _ _ rfl).cell]; rfl
       have hvy := keep1 hky hvx
       have hne1 : ¬ wr.heap.size = Q + 1 := by have := HH.out.2.2.1.lt; omega
       have HY := Lib.hid (show Keeps w wy ∧ Blk wy Q 154 zero12 ∧ Blk wy (Q + 1) 154 (arrZ c0 (zs.take j)) ∧ PartsAt wy g1 (Q + 1) ps ∧ Own wy w.heap.size 105 _ (sl.map u64v) ∧ Own wy w.heap.size 5 (.slice pd (datL kind l).length cd) ((datL kind l).map u8v) from
        ⟨HH.out.1.trans hky, HH.out.2.1.keeps hky, HH.out.2.2.1.keeps hky, HH.out.2.2.2.1.keeps hky, HH.out.2.2.2.2.1.keeps hky, HH.out.2.2.2.2.2.keeps hky⟩)
       rw [← hwy]
       clear hwy a0 a1 a2 a3 hvx hky HH
       obtain ⟨bb, hbb⟩ : ∃ bb : Bool, bb = decide (ej = 0 ∧ (hn : Int) < (x : Int)) := ⟨_, rfl⟩
       have HBB := Lib.hid hbb
       clear hbb
       go_cut [72] (fun t wx => t = .bool bb ∧ Keeps wy wx)
       case first =>
        as_aux_lemma =>
         by_cases he : ej = 0
         ·have HX : Hid (decide (hn < x) = bb) := Lib.hid (by
           rw [HBB.out, Bool.eq_iff_iff, decide_eq_true_eq, decide_eq_true_eq]; constructor
           ·intro h; exact ⟨he, by omega⟩
           ·intro h; omega)
          have he' : (ej == 0) = true := by simp [he]
          clear he
          refine wp_region_noPanic ?_
          refine wp_region_held_drew (S := fun w' => Keeps (wy) w') (by kernel_rfl) ((Keeps.refl _).drew) (fun _ => ?_)
          have hHeld : Keeps (wy) (wy).drew := (Keeps.refl _).drew
          refine tq 0 61 ?_
          refine tq 1 62 ?_
          refine tq 2 63 ?_
          refine tq 3 64 ?_
          refine tq 4 65 ?_
          refine tq 5 66 ?_
          refine tq 6 67 ?_ (hy := fun w' hSw => by
           have hSw : Keeps _ w' := hSw
           have h0 := keep1 hSw hvy
           clear hSw
           go_simp
           try with_reducible rfl)
          refine tq 7 68 ?_
          refine tq 8 69 ?_ (hy := fun w' hSw => by
           have hSw : Keeps _ w' := hSw
           have h0 := keep1 hSw hcy2
           clear hSw
           go_simp
           try with_reducible rfl)
          refine tq 9 70 ?_
          refine tq 10 71 ?_
          refine tq 11 72 ?_
          refine wpAnyH_done (by kernel_rfl) ?_ _
          refine NoPanic.normal ?_
          go_wp2_with fail
          go_meet
          exact ⟨by rw [HX.out], (Keeps.refl wy).drew⟩
         ·have HX : Hid (bb = false) := Lib.hid (by rw [HBB.out]; exact decide_eq_false (fun h => he h.1))
          have he' : (ej == 0) = false := by simp [he]
          clear he
          refine wp_region_noPanic ?_
          refine wp_region_held_drew (S := fun w' => Keeps (wy) w') (by kernel_rfl) ((Keeps.refl _).drew) (fun _ => ?_)
          have hHeld : Keeps (wy) (wy).drew := (Keeps.refl _).drew
          refine tq 0 61 ?_
          refine tq 1 62 ?_
          refine tq 2 63 ?_
          refine wpAnyH_take (i := 3) (v := undef) (by rfl) (by kernel_rfl) (by kernel_rfl) (by kernel_rfl) (by intro _ _ _ h; exact h) (Or.inr ⟨by kernel_rfl, rfl⟩) (by assumption) ?rest16
          change wpAnyH _ _ _ _ _ _ _ (Act.put _ (some 64) _) _
          try simp only [Act.put, List.setIfInBounds_toArray, List.set_cons_zero, List.set_cons_succ]
          refine wpAnyH_take (i := 4) (v := undef) (by rfl) (by kernel_rfl) (by kernel_rfl) (by kernel_rfl) (by intro _ _ _ h; exact h) (Or.inr ⟨by kernel_rfl, rfl⟩) (by assumption) ?rest17
          change wpAnyH _ _ _ _ _ _ _ (Act.put _ (some 65) _) _
          try simp only [Act.put, List.setIfInBounds_toArray, List.set_cons_zero, List.set_cons_succ]
          refine wpAnyH_take (i := 5) (v := undef) (by rfl) (by kernel_rfl) (by kernel_rfl) (by kernel_rfl) (by intro _ _ _ h; exact h) (Or.inr ⟨by kernel_rfl, rfl⟩) (by assumption) ?rest18
          change wpAnyH _ _ _ _ _ _ _ (Act.put _ (some 66) _) _
          try simp only [Act.put, List.setIfInBounds_toArray, List.set_cons_zero, List.set_cons_succ]
          refine wpAnyH_take (i := 6) (v := undef) (by rfl) (by kernel_rfl) (by kernel_rfl) (by kernel_rfl) (by intro _ _ _ h; exact h) (Or.inr ⟨by kernel_rfl, rfl⟩) (by assumption) ?rest19
          change wpAnyH _ _ _ _ _ _ _ (Act.put _ (some 67) _) _
          try simp only [Act.put, List.setIfInBounds_toArray, List.set_cons_zero, List.set_cons_succ]
          refine wpAnyH_take (i := 7) (v := undef) (by rfl) (by kernel_rfl) (by kernel_rfl) (by kernel_rfl) (by intro _ _ _ h; exact h) (Or.inr ⟨by kernel_rfl, rfl⟩) (by assumption) ?rest20
          change wpAnyH _ _ _ _ _ _ _ (Act.put _ (some 68) _) _
          try simp only [Act.put, List.setIfInBounds_toArray, List.set_cons_zero, List.set_cons_succ]
          refine wpAnyH_take (i := 8) (v := undef) (by rfl) (by kernel_rfl) (by kernel_rfl) (by kernel_rfl) (by intro _ _ _ h; exact h) (Or.inr ⟨by kernel_rfl, rfl⟩) (by assumption) ?rest21
          change wpAnyH _ _ _ _ _ _ _ (Act.put _ (some 69) _) _
          try simp only [Act.put, List.setIfInBounds_toArray, List.set_cons_zero, List.set_cons_succ]
          refine wpAnyH_take (i := 9) (v := undef) (by rfl) (by kernel_rfl) (by kernel_rfl) (by kernel_rfl) (by intro _ _ _ h; exact h) (Or.inr ⟨by kernel_rfl, rfl⟩) (by assumption) ?rest22
          change wpAnyH _ _ _ _ _ _ _ (Act.put _ (some 70) _) _
          try simp only [Act.put, List.setIfInBounds_toArray, List.set_cons_zero, List.set_cons_succ]
          refine wpAnyH_take (i := 10) (v := undef) (by rfl) (by kernel_rfl) (by kernel_rfl) (by kernel_rfl) (by intro _ _ _ h; exact h) (Or.inr ⟨by kernel_rfl, rfl⟩) (by assumption) ?rest23
          change wpAnyH _ _ _ _ _ _ _ (Act.put _ (some 71) _) _
          try simp only [Act.put, List.setIfInBounds_toArray, List.set_cons_zero, List.set_cons_succ]
          refine tq 11 72 ?_
          refine wpAnyH_done (by kernel_rfl) ?_ _
          refine NoPanic.normal ?_
          go_wp2_with fail
          go_meet
          exact ⟨by rw [HX.out], (Keeps.refl wy).drew⟩
       case rest =>
       obtain ⟨rfl, hkc⟩ := hcut
       obtain ⟨wz, rfl⟩ : ∃ wz : World, wz = wc := ⟨_, rfl⟩
       have hcy2 := keep1 hkc hcy2
       have hcy3 := keep1 hkc hcy3
       have hvy := keep1 hkc hvy
       have HZ := Lib.hid (show Keeps w wz ∧ Blk wz Q 154 zero12 ∧ Blk wz (Q + 1) 154 (arrZ c0 (zs.take j)) ∧ PartsAt wz g1 (Q + 1) ps ∧ Own wz w.heap.size 105 _ (sl.map u64v) ∧ Own wz w.heap.size 5 (.slice pd (datL kind l).length cd) ((datL kind l).map u8v) from
        ⟨HY.out.1.trans hkc, HY.out.2.1.keeps hkc, HY.out.2.2.1.keeps hkc, HY.out.2.2.2.1.keeps hkc, HY.out.2.2.2.2.1.keeps hkc, HY.out.2.2.2.2.2.keeps hkc⟩)
       clear hkc HY
       go_upto_if 72 with fail
       go_cut [12] (fun e wx => e = .int .i64 (if bb then 1 else ej) ∧ wx = wz)
       case first =>
        as_aux_lemma =>
         cases bb with
         |true =>
          go_wp2_with fail
          go_meet
          exact ⟨rfl, rfl⟩
         |false =>
          go_wp2_with fail
          go_meet
          exact ⟨rfl, rfl⟩
       case rest =>
       obtain ⟨rfl, rfl⟩ := hcut
       obtain ⟨wz, rfl⟩ : ∃ wz : World, wz = wc := ⟨_, rfl⟩
       have HEe : Hid (errZ ee (zs.take (j + 1)) = if bb then 1 else ej) := Lib.hid (by
        rw [HEn.out, HBB.out]
        by_cases h : ej = 0 ∧ (hn : Int) < (x : Int)
        ·rw [if_pos h, decide_eq_true h]; rfl
        ·rw [if_neg h, decide_eq_false h]; rfl)
       clear HEn HBB
       generalize (if bb then 1 else ej) = e2 at *
       have HXX : Hid (∃ z, (arrZ c0 (zs.take j))[po]? = some z) := Lib.hid ⟨_, Array.getElem?_eq_getElem (by rw [HAS.out]; omega)⟩
       have HBd := Lib.hid (HZ.out.2.2.1.drew)
       have hneQ : ¬ Q = Q + 1 := by omega
       have hneg1 : ¬ g1 = Q + 1 := by have := HG.out; have := HG1.out; omega
       go_upto_region 22 with fail
       have HAw : Hid (arrZ c0 (zs.take (j + 1)) = (arrZ c0 (zs.take j)).setIfInBounds po (.int .i64 (IntKind.i64.wrap (if hn < x then ((hn : Nat) : Int) else ((x : Nat) : Int))))) := Lib.hid (by
        rw [HAn.out, IntKind.wrap_i64]
        congr 2
        by_cases h : hn < x
        ·rw [if_pos h, if_pos (by omega)]; omega
        ·rw [if_neg h, if_neg (by omega)]; omega)
       clear HAn
       refine wp_region_noPanic ?_
       refine wp_region_held_drew (S := fun w' => Mods (· = Q + 1) wz w') (by kernel_rfl) ((Mods.refl (· = Q + 1) wz).drew) (fun _ => ?_)
       have hHeld : Mods (· = Q + 1) wz (wz).drew := (Mods.refl (· = Q + 1) wz).drew
       generalize World.drew wz = xs at *
       refine tq 0 73 ?_
       refine tq 1 74 ?_ (hy := fun w' hSw => by
        have hSw : Mods (· = Q + 1) wz w' := hSw
        have hc := hSw.cell hcy3 hne1
        clear hSw
        go_simp
        try with_reducible rfl)
       refine tq 2 75 ?_
       refine tq 3 76 ?_
       refine tq 4 77 ?_
       refine tq 5 78 ?_ (hy := fun w' hSw => by
        have hSw : Mods (· = Q + 1) wz w' := hSw
        have hc := hSw.cell hvy hgv
        clear hSw
        go_simp
        try with_reducible rfl)
       refine tq 6 79 ?_
       refine tq 7 80 ?_ (hy := fun w' hSw => by
        have hSw : Mods (· = Q + 1) wz w' := hSw
        have hc := hSw.cell hcy2 hne1
        clear hSw
        go_simp
        try with_reducible rfl)
       refine tq 8 81 ?_
       refine tq 9 82 ?_
       refine tq 10 83 ?_
       refine tq 11 84 ?_
       refine rd1 12 (fun K hK => ?_)
       obtain ⟨z, hz0⟩ := HXX.out
       have hx : World.cell? xs ⟨Q + 1, po, none⟩ = some z := by rw [HBd.out.cell]; exact hz0
       have hz : World.frozen? xs ⟨Q + 1, po, none⟩ = false := HBd.out.frozen _
       go_simp
       have hb := hHeld.setCell (p := ⟨Q + 1, po, none⟩) (fun _ => rfl) (.int .i64 (IntKind.i64.wrap (if hn < x then ((hn : Nat) : Int) else ((x : Nat) : Int))))
       have HBd := Lib.hid (HBd.out.set_ po (.int .i64 (IntKind.i64.wrap (if hn < x then ((hn : Nat) : Int) else ((x : Nat) : Int)))))
       clear hx hz hz0
       generalize World.setCell xs ⟨Q + 1, po, none⟩ (.int .i64 (IntKind.i64.wrap (if hn < x then ((hn : Nat) : Int) else ((x : Nat) : Int)))) = w9 at *
       refine bkm hK hb ?_
       clear hK K hHeld
       have hHeld : Mods (· = Q + 1) wz w9 := hb
       clear hb
       refine wpAnyH_done (by kernel_rfl) ?_ _
       refine NoPanic.normal ?_
       generalize IntKind.i64.wrap (if hn < x then ((hn : Nat) : Int) else ((x : Nat) : Int)) = q1 at *
       generalize (if hn < x then ((hn : Nat) : Int) else ((x : Nat) : Int)) = q2 at *
       go_wp2_with fail
       go_roundw
       case rel =>
        refine ⟨j + 1, by simp, by omega, by rw [HEe.out], Lib.hid ⟨hHeld.keeps HZ.out.1 (fun x hx => by have := HQ.out; omega), HZ.out.2.1.mods hHeld hneQ, by rw [HAw.out]; exact HBd.out, HZ.out.2.2.2.1.mods hHeld hneg1, ?_, HZ.out.2.2.2.2.2.mods hHeld (fun y hy hs => by subst hs; exact HZ.out.2.2.2.2.2.blk_ne HZ.out.2.2.1 (by decide) hy)⟩⟩
        have h5 := HZ.out.2.2.2.2.1.mods hHeld (fun y hy hs => by subst hs; exact HZ.out.2.2.2.2.1.blk_ne HZ.out.2.2.1 (by decide) hy)
        rw [hsl] at h5
        exact h5
       case measure =>
        simp only [intOf]
        omega
      ·obtain rfl : j = ps.length := by omega
       have hzt : zs.take ps.length = zs := List.take_of_length_le (by have := HZl.out; omega)
       rw [hzt] at HH ⊢
       clear hzt
       by_cases he : errZ ee zs = 0
       ·obtain ⟨h1, h2, h3⟩ := HA2.out.1 he
        rw [h1] at HH
        have HD := Lib.hid h2
        have HE := Lib.hid h3
        rw [he]
        clear h1 h2 h3 he HA2
        have hrow : Row wr (.slice pd (datL kind l).length cd) ((mkR kind l).data.map u8v) := by rw [HD.out]; exact HH.out.2.2.2.2.2.row
        have HCK := Lib.hid (check_any (mkR kind l) _ wr hrow)
        have HB := Lib.hid HH.out.2.2.1
        clear hrow
        go_wp2_with (refine wpList_ld rfl recM HB.out _ rfl rfl ?_)
        refine HCK.out.mono ?_
        rintro e w5 ⟨rfl, hk5⟩
        have HB5 := Lib.hid (HB.out.keeps hk5)
        have HZ5 := Lib.hid (HH.out.2.1.keeps hk5)
        have HD5 := Lib.hid (HH.out.2.2.2.2.2.keeps hk5)
        have HK5 := Lib.hid (HH.out.1.trans hk5)
        clear HB HCK HH hk5
        by_cases hc : chk (mkR kind l) = 0
        ·rw [hc] at HE ⊢
         have HR : Hid (readR kind l = mkR kind l) := Lib.hid (by unfold readR; rw [if_pos HE.out])
         generalize mkR kind l = rr at *
         go_wp2_with (first
          |refine wpList_ld rfl recM HB5.out _ rfl rfl ?_
          |refine wpList_st (ds := recA rr (.slice pd (datL kind l).length cd)) rfl recM HZ5.out rfl (recA_one _ _ _ _) _ _ rfl rfl rfl rfl ?_; intro w6 hB6 hM6)
         have HLd := Lib.hid (ld_run (P := Tryz.prog) recM hB6)
         have HX : Hid (ReadDid w kind l (.returned (.tuple #[.agg (recA rr (.slice pd (datL kind l).length cd)), .int .i64 0])) w6) := Lib.hid (by
          refine ⟨.slice pd (datL kind l).length cd, by rw [HR.out, HE.out], ?_, hM6.keeps HK5.out (fun x hx => by have := HQ.out; omega)⟩
          rw [HR.out, HD.out]
          exact HD5.out.mods hM6 (fun y hy hs => by subst hs; exact HD5.out.blk_ne HZ5.out (by decide) hy))
         clear hB6 hM6
         exact bodyPost_ret (v := .tuple #[.agg (recA rr (.slice pd (datL kind l).length cd)), .int .i64 0]) (by simp [results, Tryz.results182, Sem.run_bind, Sem.run_pure, Result.andThen_ok, Act.put, asAddr, HLd.out]) rfl HX.out
        ·have HR : Hid (readR kind l = rec0) := Lib.hid (by unfold readR; rw [if_neg (by rw [HE.out]; exact hc)])
         have hc' : (chk (mkR kind l) != 0) = true := by simp [hc]
         clear hc
         generalize chk (mkR kind l) = ch at *
         go_wp2_with (refine wpList_st (ds := zero12) rfl recM HZ5.out rfl zero12_one _ _ rfl rfl rfl rfl ?_; intro w6 hB6 hM6)
         have HLd := Lib.hid (ld_run (P := Tryz.prog) recM hB6)
         have HX : Hid (ReadDid w kind l (.returned (.tuple #[.agg zero12, .int .i64 ch])) w6) := Lib.hid (by
          refine ⟨.slice none 0 0, by rw [HR.out, HE.out]; rfl, ?_, hM6.keeps HK5.out (fun x hx => by have := HQ.out; omega)⟩
          rw [HR.out]
          exact Own.nil _ _ _)
         clear hB6 hM6
         exact bodyPost_ret (v := .tuple #[.agg zero12, .int .i64 ch]) (by simp [results, Tryz.results182, Sem.run_bind, Sem.run_pure, Result.andThen_ok, Act.put, asAddr, HLd.out]) rfl HX.out
       ·have HE := Lib.hid (HA2.out.2 he)
        have HR : Hid (readR kind l = rec0) := Lib.hid (by unfold readR; rw [if_neg (by rw [HE.out]; exact he)])
        have hc' : (errZ ee zs != 0) = true := by simp [he]
        have hc2 : (errZ ee zs == 0) = false := by simp [he]
        have HZ5 := Lib.hid HH.out.2.1
        have HK5 := Lib.hid HH.out.1
        clear he HA2 HH
        generalize errZ ee zs = ch at *
        go_wp2_with (refine wpList_st (ds := zero12) rfl recM HZ5.out rfl zero12_one _ _ rfl rfl rfl rfl ?_; intro w6 hB6 hM6)
        have HLd := Lib.hid (ld_run (P := Tryz.prog) recM hB6)
        have HX : Hid (ReadDid w kind l (.returned (.tuple #[.agg zero12, .int .i64 ch])) w6) := Lib.hid (by
         refine ⟨.slice none 0 0, by rw [HR.out, HE.out]; rfl, ?_, hM6.keeps HK5.out (fun x hx => by have := HQ.out; omega)⟩
         rw [HR.out]
         exact Own.nil _ _ _)
        clear hB6 hM6
        exact bodyPost_ret (v := .tuple #[.agg zero12, .int .i64 ch]) (by simp [results, Tryz.results182, Sem.run_bind, Sem.run_pure, Result.andThen_ok, Act.put, asAddr, HLd.out]) rfl HX.out
 ·have HE : Hid (readE kind l = 16) := Lib.hid (by unfold readE; rw [if_pos (by omega)])
  have HR : Hid (readR kind l = rec0) := Lib.hid (by unfold readR; rw [if_neg (by rw [HE.out]; decide)])
  have HN : Hid (partsL kind = []) := Lib.hid (partsL_nil (by omega))
  obtain ⟨v2, rfl, hv, -, hk3⟩ := h3
  obtain rfl := hv HN.out
  have HZ5 := Lib.hid (HZ.out.keeps hk3)
  have HK5 := Lib.hid (HK.out.trans hk3)
  clear hv hk hk3
  have hnil : ∀ W, (binOp .eql 242 (.slice none 0 0) (.slice none 0 0)).run Tryz.prog W = .ok (.bool true) W := fun W => Lib.run_eql_slice_nil W _ _ _ _ _ _ _ Tryz.underlying242
  go_wp2_with (refine wpList_st (ds := zero12) rfl recM HZ5.out rfl zero12_one _ _ rfl rfl rfl rfl ?_; intro w6 hB6 hM6)
  have HLd := Lib.hid (ld_run (P := Tryz.prog) recM hB6)
  have HX : Hid (ReadDid w kind l (.returned (.tuple #[.agg zero12, .int .i64 16])) w6) := Lib.hid (by
   refine ⟨.slice none 0 0, by rw [HR.out, HE.out]; rfl, ?_, hM6.keeps HK5.out (fun x hx => by have := HQ.out; omega)⟩
   rw [HR.out]
   exact Own.nil _ _ _)
  clear hB6 hM6
  exact bodyPost_ret (v := .tuple #[.agg zero12, .int .i64 16]) (by simp [results, Tryz.results182, Sem.run_bind, Sem.run_pure, Result.andThen_ok, Act.put, asAddr, HLd.out]) rfl HX.out
end Rcd
end Go.Proofs.YtklbemkafdccgaaGreat

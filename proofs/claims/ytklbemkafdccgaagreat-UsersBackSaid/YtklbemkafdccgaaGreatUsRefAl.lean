/- ref13: AddAlias. (Printed by gen_usradal.py.) -/
import Derived.Test.YtklbemkafdccgaaGreatK47
namespace Go.Proofs.YtklbemkafdccgaaGreat
open Go.RowKit
namespace Usr
open Adr (Str)
open Mp Go.Maps
open Frm (ownsRow_keeps ownsRow_mods ownsRow_ne ownsRow_form ownsRow_base rowS_lit)
theorem alM2 : Mids Tryz.prog 108 2 := ⟨⟨_, Tryz.underlying108, rfl⟩, by kernel_rfl⟩
theorem outK_full {t : TabP} {name : Str} {tos : List Str} : insA ⟨name, tos⟩ (t.al.filter fun a => decide (a.name ≠ name)) = outK t.al name tos true t.al.length := by
 unfold outK stay
 rw [if_pos rfl, List.take_length]
/-- a list of aliases that is being made -/
structure OutAt (w : World) (base : Nat) (po : Option Addr) (co : Nat) (OL : List (AlP × Value)) : Prop where
 own : w.ownsRow base 108 2 (.slice po OL.length co) OL.length (OL.flatMap alC)
 pay : ∀ x ∈ OL, Own w 0 9 x.2 (x.1.tos.map strV)
section
variable {w w' : World} {base : Nat} {po : Option Addr} {co : Nat} {OL : List (AlP × Value)}
theorem OutAt.keeps (h : OutAt w base po co OL) (k : Keeps w w') : OutAt w' base po co OL := ⟨ownsRow_keeps h.own k, fun x hx => (h.pay x hx).keeps k⟩
theorem OutAt.blk {q : Nat} {ty : TypeId} {cs : Array Value} (h : OutAt w base po co OL) (k : Mods (· = q) w w') (hb : Blk w q ty cs) (hn : ty ≠ 108 ∧ ty ≠ 9) : OutAt w' base po co OL :=
 ⟨ownsRow_mods h.own k (fun x hx e => ownsRow_ne h.own hb (fun e => hn.1 e.symm) (by rw [hx, e])), fun x hx => ownT (h.pay x hx) k (fun y hy cs' fr hh => by
  subst hy
  rw [show w.heap[y]? = _ from hb] at hh
  simp only [Option.some.injEq, Obj.cells.injEq] at hh
  exact hn.2 hh.2.1)⟩
theorem OutAt.push {x : AlP × Value} {v' : Value} (h : OutAt w base po co OL) (hx : Own w 0 9 x.2 (x.1.tos.map strV)) (ho : w'.ownsRow base 108 2 v' (OL.length + 1) (OL.flatMap alC ++ alC x)) (hg : w.grownBy w' (Value.slice po OL.length co).ownBlock) :
  ∃ p c, v' = .slice p (OL ++ [x]).length c ∧ OutAt w' base p c (OL ++ [x]) := by
 obtain ⟨p, c, rfl, -, -⟩ := ownsRow_form ho
 have hM : Mods (fun y => (Value.slice po OL.length co).ownBlock = some y) w w' := (Mods.refl _ w).grown hg (fun k hk _ => hk)
 have hp : ∀ y, Own w 0 9 y.2 (y.1.tos.map strV) → Own w' 0 9 y.2 ((y : AlP × Value).1.tos.map strV) := fun y hy => ownT hy hM (fun z hz cs fr => Frm.ownsRow_ty h.own (by decide) z hz cs fr)
 refine ⟨p, c, by simp, ?_, fun y hy => ?_⟩
 ·rw [List.flatMap_append, show (OL ++ [x]).length = OL.length + 1 from by simp]
  simpa using ho
 ·rcases List.mem_append.1 hy with hy | hy
  ·exact hp y (h.pay y hy)
  ·simp only [List.mem_singleton] at hy; subst hy; exact hp y hx
end
set_option maxRecDepth 100000 in
set_option maxHeartbeats 8000000 in
theorem rAddAlias_any (w : World) (uv av : Value) (t : TabP) (L : List (AlP × Value)) (h : RT w uv av t L) (hR : Right t) (name : Str) (hn : name.length ≤ 1000000) (v : Value) (tos : List Str) (hr : Row w v (tos.map strV)) (hls : ∀ s ∈ tos, s.length ≤ 1000000) (hln : tos.length ≤ 100000) : Calls Tryz.prog 43 #[rtV uv av t, .string (bstr name), v] w (RGot w (addA t name tos)) := by
 have HUL := Lib.hid hR.ul
 have HAL := Lib.hid hR.all
 have HLA := Lib.hid (show L.length = t.al.length from by rw [← h.alm, List.length_map])
 have HAO := Lib.hid hR.ao
 have HNA := Lib.hid hR.na
 obtain ⟨p, cap, hv, -, -⟩ := hr.form
 rw [List.length_map] at hv
 subst hv
 obtain ⟨pu, cu, pa, ca, rfl, rfl, -, -⟩ := h.forms
 have HR := Lib.hid h
 have HRow := Lib.hid hr
 have HLB := Lib.hid hln
 have HLS := Lib.hid hls
 have CN := Lib.hid (fun w' => rName_any name (by omega) w')
 have CM := Lib.hid (fun s (hs : s ∈ tos) w' => rName_any s (by have := hls s hs; omega) w')
 have CU := Lib.hid (fun (w' : World) (k : Keeps w w') => rUser_any w' _ _ t L (h.keeps k).tab (by have := HUL.out; omega) name)
 have CA := Lib.hid (fun (w' : World) (k : Keeps w w') => rAlias_any w' _ _ t L (h.keeps k).tab (by have := HAL.out; have := HLA.out; omega) name)
 have XF := Lib.hid (@addA_form t name tos)
 have XL := Lib.hid (@addA_large t name tos)
 have XT := Lib.hid (@addA_there t name tos)
 have XU := Lib.hid (@addA_full t name tos)
 have XO := Lib.hid (@addA_ok t name tos)
 have HG0 := Lib.hid (goodI_zero name tos)
 obtain ⟨nb, hnb⟩ : ∃ z, nameB name = z := ⟨_, rfl⟩
 rw [hnb] at CN HG0
 clear h hR hn hnb hr hls hln
 unfold rtV at CU CA ⊢
 go_enter Tryz.func43, Tryz.ntmps43
 go_upto_region 1 with fail
 generalize hW : World.alloc (World.alloc w _) _ = w1
 have HK := Lib.hid (show Keeps w w1 from by rw [← hW]; exact ((Keeps.refl _).alloc _).alloc _)
 have HB := Lib.hid (show Blk w1 w.heap.size 32 #[.string (bstr t.dom), .int .i64 t.next, .slice pu t.us.length cu, .slice pa L.length ca] from by rw [← hW]; exact (Blk.new _ _ _ rfl).keeps ((Keeps.refl _).alloc _))
 have HG := Lib.hid (show Blk w1 (w.heap.size + 1) 86 #[.string ⟨#[]⟩, .int .i64 0, .slice none 0 0, .slice none 0 0, .int .i64 0, .int .i64 0] from by rw [← hW]; exact Blk.new _ _ _ (Frm.alloc_size _ _).symm)
 clear hW
 obtain ⟨q, hq⟩ : ∃ z, w.heap.size = z := ⟨_, rfl⟩
 have HQ := Lib.hid hq
 rw [hq] at HB HG ⊢
 clear hq
 go_cut [7] (fun gv wx => ∃ gb, gv = .bool gb ∧ Hid (gb = goodI name tos 0 ∧ Keeps w1 wx))
 case first =>
  obtain ⟨db, hdb⟩ : ∃ z, decide ((0 : Int) < (tos.length : Int)) = z := ⟨_, rfl⟩
  have HDB := Lib.hid (show decide (0 < tos.length) = db from by rw [← hdb, Bool.eq_iff_iff]; simp)
  have hdb' := HDB.out
  cases nb <;> cases db
  all_goals
   go_wp2_with fail
   refine (CN.out _).mono ?_
   rintro e w' ⟨rfl, rfl⟩
   go_wp2_with fail
   go_meet
   exact ⟨_, rfl, Lib.hid ⟨by rw [HG0.out, HDB.out]; rfl, Keeps.refl _⟩⟩
 case rest =>
 obtain ⟨gb, rfl, HGB⟩ := hcut
 obtain ⟨w2, rfl⟩ : ∃ z : World, z = wc := ⟨_, rfl⟩
 have HK := Lib.hid (HK.out.trans HGB.out.2)
 have HB := Lib.hid (HB.out.keeps HGB.out.2)
 have HG := Lib.hid (HG.out.keeps HGB.out.2)
 clear CN HG0
 go_upto_region 3 with fail
 go_loopw [7, 8] (fun gv iv wr => ∃ (gb : Bool) (i : Nat), gv = .bool gb ∧ iv = .int .i64 (i : Int) ∧ Hid (i ≤ tos.length ∧ gb = goodI name tos i ∧ Keeps w2 wr)) (fun _ iv _ => tos.length - (RowKit.intOf iv).toNat)
 case atStart => exact ⟨gb, 0, rfl, rfl, Lib.hid ⟨Nat.zero_le _, HGB.out.1, Keeps.refl _⟩⟩
 case round =>
  clear HGB
  obtain ⟨gb, i, rfl, rfl, HH⟩ := hrel
  obtain ⟨wz, rfl⟩ : ∃ z : World, z = wr := ⟨_, rfl⟩
  go_upto_region 3 with fail
  go_cut [28] (fun v wx => ∃ cb, v = .bool cb ∧ wz = wx ∧ Hid (cb = (decide (i < tos.length) && gb)))
  case first =>
   obtain ⟨db, hdb⟩ : ∃ z, decide ((i : Int) < (tos.length : Int)) = z := ⟨_, rfl⟩
   have HDB := Lib.hid (show decide (i < tos.length) = db from by rw [← hdb, Bool.eq_iff_iff]; simp)
   have hdb' := HDB.out
   cases gb <;> cases db
   all_goals
    go_wp2_with fail
    go_meet
    exact ⟨_, rfl, rfl, Lib.hid (by rw [HDB.out]; rfl)⟩
  case rest =>
  obtain ⟨cb, rfl, rfl, HCB⟩ := hcut
  cases cb with
  |true =>
   have hlt : i < tos.length := by have := HCB.out; simp at this; exact this.1
   have HGT := Lib.hid (show goodI name tos i = true from by have := HCB.out; simp at this; rw [← HH.out.2.1]; exact this.2)
   have HGN := Lib.hid (goodI_next hlt HGT.out)
   obtain ⟨bs, o, rfl, hci⟩ := row_str (HRow.out.keeps (HK.out.trans HH.out.2.2)) hlt
   have HMI := Lib.hid (List.getElem_mem hlt)
   have hw : IntKind.i64.wrap ((i : Int) + 1) = (i : Int) + 1 := IntWalk.i64_in _ (by have := HLB.out; omega)
   have HTI := Lib.hid (rfl : tos[i] = tos[i])
   have HCI := Lib.hid hci
   obtain ⟨X, hX⟩ : ∃ z, tos[i] = z := ⟨_, rfl⟩
   have HX0 := Lib.hid hX
   rw [hX] at hci HCI HMI HGN
   have CMI := Lib.hid (fun w' => CM.out X HMI.out w')
   obtain ⟨xb, hxb⟩ : ∃ z, nameB X = z := ⟨_, rfl⟩
   rw [hxb] at HGN CMI
   clear hX hxb HTI
   go_wp2_with fail
   refine (CMI.out _).mono ?_
   rintro e w' ⟨rfl, rfl⟩
   clear hci CMI
   go_upto_region 7 with fail
   go_loopw [7, 9] (fun gv kv wr => ∃ (g2 : Bool) (k : Nat), gv = .bool g2 ∧ kv = .int .i64 (k : Int) ∧ Hid (k ≤ i ∧ g2 = (xb && (tos.take k).all (fun s => decide (s ≠ X))) ∧ Keeps wz wr)) (fun _ kv _ => i - (RowKit.intOf kv).toNat)
   case atStart => exact ⟨xb, 0, rfl, rfl, Lib.hid ⟨Nat.zero_le _, by simp, Keeps.refl _⟩⟩
   case round =>
    obtain ⟨g2, k, rfl, rfl, HI⟩ := hrel
    obtain ⟨wy, rfl⟩ : ∃ z : World, z = wr := ⟨_, rfl⟩
    by_cases hki : k < i
    ·have hd : decide ((k : Int) < (i : Int)) = true := decide_eq_true (by omega)
     have hwk : IntKind.i64.wrap ((k : Int) + 1) = (k : Int) + 1 := IntWalk.i64_in _ (by have := HLB.out; omega)
     have HAN := Lib.hid (all_next (x := X) (show k < tos.length by omega))
     cases g2 with
     |false =>
      go_upto_region 9 with fail
      go_quiet (fail)
      go_wp2_with fail
      go_roundw
      case rel => exact ⟨false, k + 1, rfl, by simp, Lib.hid ⟨by omega, by rw [HAN.out, ← Bool.and_assoc, ← HI.out.2.1]; rfl, by have := HI.out.2.2; repeat (first | exact this | refine Keeps.drewN ?_ _ | refine Keeps.drew ?_)⟩⟩
      case measure => simp only [RowKit.intOf]; omega
     |true =>
      obtain ⟨bs', o', hbs, hck⟩ := row_str (HRow.out.keeps ((HK.out.trans HH.out.2.2).trans HI.out.2.2)) (show k < tos.length by omega)
      simp only [Option.some.injEq, Addr.mk.injEq] at hbs
      obtain ⟨rfl, rfl, -⟩ := hbs
      have hci := keep1 HI.out.2.2 HCI.out
      obtain ⟨Y, hY⟩ : ∃ z, tos[k]'(by omega) = z := ⟨_, rfl⟩
      rw [hY] at hck HAN
      obtain ⟨eb, heb⟩ : ∃ z, decide (Y ≠ X) = z := ⟨_, rfl⟩
      rw [heb] at HAN
      have hte : ((bstr Y).toList == (bstr X).toList) = !eb := by rw [bstr_toList, bstr_toList, ← heb, Bool.eq_iff_iff]; simp
      have HTE := Lib.hid hte
      clear hY heb hte
      cases eb
      all_goals
       have hte := HTE.out
       go_upto_region 9 with fail
       go_quiet (fail)
       go_wp2_with fail
       go_roundw
       case rel => exact ⟨_, k + 1, rfl, by simp, Lib.hid ⟨by omega, by rw [HAN.out, ← Bool.and_assoc, ← HI.out.2.1]; rfl, by have := HI.out.2.2; repeat (first | exact this | refine Keeps.drewN ?_ _ | refine Keeps.drew ?_)⟩⟩
       case measure => simp only [RowKit.intOf]; omega
    ·have hd : decide ((k : Int) < (i : Int)) = false := decide_eq_false (by omega)
     have hke : k = i := by have := HI.out.1; omega
     have HQQ := Lib.hid (show g2 = goodI name tos (i + 1) from by rw [HGN.out, HI.out.2.1, hke])
     have HKK := Lib.hid (HH.out.2.2.trans HI.out.2.2)
     clear hke
     go_wp2_with fail
     go_roundw
     case rel => exact ⟨g2, i + 1, rfl, by simp, Lib.hid ⟨by omega, HQQ.out, HKK.out⟩⟩
     case measure => simp only [RowKit.intOf]; omega
  |false =>
  have HGE := Lib.hid (show gb = (nameB name && namesB tos) from by
   have h1 := HCB.out
   rw [HH.out.2.1] at h1 ⊢
   exact goodI_end HH.out.1 h1.symm)
  have HKz := Lib.hid HH.out.2.2
  clear HCB
  go_upto_region 10 with fail
  have HK := Lib.hid (HK.out.trans HKz.out)
  have HB := Lib.hid (HB.out.keeps HKz.out)
  have HG := Lib.hid (HG.out.keeps HKz.out)
  clear HH HKz CM
  cases gb with
  |false =>
   have HX := Lib.hid (XF.out HGE.out.symm)
   generalize addA t name tos = r at *
   go_wp2_with (first
    |refine wpList_ld rfl rtM HB.out _ rfl rfl ?_
    |(refine wpList_st (ds := #[.string (bstr t.dom), .int .i64 t.next, .slice pu t.us.length cu, .slice pa L.length ca, .int .i64 0, .int .i64 3]) rfl gotM HG.out rfl (by simp [Value.oneCell']) _ _ rfl rfl rfl rfl ?_; intro w9 hB9 hM9; have HLd := Lib.hid (ld_run (P := Tryz.prog) gotM hB9); have HM9 := Lib.hid hM9; clear hB9 hM9))
   refine bodyPost_ret (v := .agg #[.string (bstr t.dom), .int .i64 t.next, .slice pu t.us.length cu, .slice pa L.length ca, .int .i64 0, .int .i64 3]) (by simp [results, Tryz.results43, Sem.run_bind, Sem.run_pure, Result.andThen_ok, Act.put, asAddr, HLd.out]) rfl ?_
   have hk9 : Keeps w w9 := HM9.out.keeps HK.out (fun x hx => by rw [hx, ← HQ.out]; omega)
   rw [HX.out]
   exact ⟨_, _, L, rfl, HR.out.keeps hk9, hk9⟩
  |true =>
  have HGE := Lib.hid HGE.out.symm
  by_cases h8 : 8 < tos.length
  ·have e8 : decide ((8 : Int) < (tos.length : Int)) = true := decide_eq_true (by omega)
   have HX8 := Lib.hid (XL.out HGE.out h8)
   have HX := Lib.hid (HX8.out)
   generalize addA t name tos = r at *
   go_wp2_with (first
    |refine wpList_ld rfl rtM HB.out _ rfl rfl ?_
    |(refine wpList_st (ds := #[.string (bstr t.dom), .int .i64 t.next, .slice pu t.us.length cu, .slice pa L.length ca, .int .i64 0, .int .i64 4]) rfl gotM HG.out rfl (by simp [Value.oneCell']) _ _ rfl rfl rfl rfl ?_; intro w9 hB9 hM9; have HLd := Lib.hid (ld_run (P := Tryz.prog) gotM hB9); have HM9 := Lib.hid hM9; clear hB9 hM9))
   refine bodyPost_ret (v := .agg #[.string (bstr t.dom), .int .i64 t.next, .slice pu t.us.length cu, .slice pa L.length ca, .int .i64 0, .int .i64 4]) (by simp [results, Tryz.results43, Sem.run_bind, Sem.run_pure, Result.andThen_ok, Act.put, asAddr, HLd.out]) rfl ?_
   have hk9 : Keeps w w9 := HM9.out.keeps HK.out (fun x hx => by rw [hx, ← HQ.out]; omega)
   rw [HX.out]
   exact ⟨_, _, L, rfl, HR.out.keeps hk9, hk9⟩
  have e8 : decide ((8 : Int) < (tos.length : Int)) = false := decide_eq_false (by omega)
  have H8 := Lib.hid h8
  go_wp2_with (refine wpList_ld rfl rtM HB.out _ rfl rfl ?_)
  clear e8
  refine (CU.out _ HK.out).mono ?_
  rintro e w3 ⟨rfl, hk⟩
  have HK := Lib.hid (HK.out.trans hk)
  have HB := Lib.hid (HB.out.keeps hk)
  have HG := Lib.hid (HG.out.keeps hk)
  clear hk CU XF XL h8
  rcases posL_cases (namesU t) name with ⟨hu, hp⟩ | ⟨i', hi, hni, hp⟩
  rotate_left
  ·have HME := Lib.hid (show name ∈ namesU t from hni ▸ List.getElem_mem hi)
   rw [hp]
   clear hp hni hi
   have hge : decide ((0 : Int) ≤ (i' : Int)) = true := decide_eq_true (by omega)
   have HX := Lib.hid (XT.out HGE.out H8.out (decide_eq_true HME.out))
   generalize addA t name tos = r at *
   go_wp2_with (first
    |refine wpList_ld rfl rtM HB.out _ rfl rfl ?_
    |(refine wpList_st (ds := #[.string (bstr t.dom), .int .i64 t.next, .slice pu t.us.length cu, .slice pa L.length ca, .int .i64 0, .int .i64 8]) rfl gotM HG.out rfl (by simp [Value.oneCell']) _ _ rfl rfl rfl rfl ?_; intro w9 hB9 hM9; have HLd := Lib.hid (ld_run (P := Tryz.prog) gotM hB9); have HM9 := Lib.hid hM9; clear hB9 hM9))
   refine bodyPost_ret (v := .agg #[.string (bstr t.dom), .int .i64 t.next, .slice pu t.us.length cu, .slice pa L.length ca, .int .i64 0, .int .i64 8]) (by simp [results, Tryz.results43, Sem.run_bind, Sem.run_pure, Result.andThen_ok, Act.put, asAddr, HLd.out]) rfl ?_
   have hk9 : Keeps w w9 := HM9.out.keeps HK.out (fun x hx => by rw [hx, ← HQ.out]; omega)
   rw [HX.out]
   exact ⟨_, _, L, rfl, HR.out.keeps hk9, hk9⟩
  have HNU := Lib.hid hu
  rw [hp]
  clear hu hp
  go_wp2_with (refine wpList_ld rfl rtM HB.out _ rfl rfl ?_)
  refine (CA.out _ HK.out).mono ?_
  rintro e w4 ⟨rfl, hk⟩
  have HK := Lib.hid (HK.out.trans hk)
  have HB := Lib.hid (HB.out.keeps hk)
  have HG := Lib.hid (HG.out.keeps hk)
  clear hk CA XT
  have HAI := Lib.hid (show ∀ k (hk : k < L.length), ((k : Int) == posL (namesA t) name) = decide ((t.al[k]'(by have := HLA.out; omega)).name = name) from fun k hk => by
   have hk' : k < (namesA t).length := by have := HLA.out; simpa [namesA] using (show k < t.al.length by omega)
   rcases posL_cases (namesA t) name with ⟨hu, hp⟩ | ⟨i', hi, hni, hp⟩
   ·rw [hp, Bool.eq_iff_iff, decide_eq_true_eq, beq_iff_eq]
    exact ⟨fun h => by omega, fun e => absurd (List.mem_map.2 ⟨_, List.getElem_mem _, e⟩) hu⟩
   ·rw [hp, Bool.eq_iff_iff, decide_eq_true_eq, beq_iff_eq]
    have e1 : (namesA t)[k] = (t.al[k]'(by have := HLA.out; omega)).name := by simp [namesA]
    rw [← e1]
    constructor
    ·intro h
     obtain rfl : k = i' := by omega
     exact hni
    ·intro e
     have hpw := List.pairwise_iff_getElem.1 HNA.out
     rcases Nat.lt_trichotomy k i' with hl | hl | hl
     ·exact absurd (e.trans hni.symm) (hpw k i' _ _ hl)
     ·omega
     ·exact absurd (hni.trans e.symm) (hpw i' k _ _ hl))
  have HAM := Lib.hid (show decide (posL (namesA t) name < 0) = !decide (name ∈ namesA t) from by
   rcases posL_cases (namesA t) name with ⟨hu, hp⟩ | ⟨i', hi, hni, hp⟩
   ·rw [hp, decide_eq_false hu]; rfl
   ·have hm : name ∈ namesA t := hni ▸ List.getElem_mem hi
    rw [hp, decide_eq_true hm]
    exact decide_eq_false (by omega))
  generalize posL (namesA t) name = ai at *
  have q3 : w4.cell? ⟨q, 3, none⟩ = some (.slice pa L.length ca) := by rw [HB.out.cell]; rfl
  obtain ⟨im, him⟩ : ∃ z, decide (name ∈ namesA t) = z := ⟨_, rfl⟩
  obtain ⟨lf, hlf⟩ : ∃ z, ((L.length : Int) == 16) = z := ⟨_, rfl⟩
  have HLF := Lib.hid (show lf = decide (t.al.length = 16) from by rw [← hlf, ← HLA.out, Bool.eq_iff_iff]; simp; omega)
  have ham := HAM.out
  rw [him] at ham
  have HIM := Lib.hid him
  go_upto_region 17 with fail
  go_cut [78] (fun v wx => ∃ cb, v = .bool cb ∧ w4 = wx ∧ Hid (cb = (!im && lf)))
  case first =>
   clear him
   cases im <;> cases lf
   all_goals
    go_wp2_with fail
    go_meet
    exact ⟨_, rfl, rfl, Lib.hid rfl⟩
  case rest =>
  obtain ⟨cb, rfl, rfl, HCB⟩ := hcut
  clear ham him hlf q3
  cases cb with
  |true =>
   have hx6 := HCB.out
   simp only [Bool.and_eq_true, Bool.not_eq_true', eq_comm (a := true)] at hx6
   have HX6 := Lib.hid (XU.out HGE.out H8.out (decide_eq_false HNU.out) (HIM.out.trans hx6.1) (by have := HLF.out; rw [hx6.2] at this; exact of_decide_eq_true this.symm))
   clear hx6
   have HX := Lib.hid (HX6.out)
   generalize addA t name tos = r at *
   go_wp2_with (first
    |refine wpList_ld rfl rtM HB.out _ rfl rfl ?_
    |(refine wpList_st (ds := #[.string (bstr t.dom), .int .i64 t.next, .slice pu t.us.length cu, .slice pa L.length ca, .int .i64 0, .int .i64 6]) rfl gotM HG.out rfl (by simp [Value.oneCell']) _ _ rfl rfl rfl rfl ?_; intro w9 hB9 hM9; have HLd := Lib.hid (ld_run (P := Tryz.prog) gotM hB9); have HM9 := Lib.hid hM9; clear hB9 hM9))
   refine bodyPost_ret (v := .agg #[.string (bstr t.dom), .int .i64 t.next, .slice pu t.us.length cu, .slice pa L.length ca, .int .i64 0, .int .i64 6]) (by simp [results, Tryz.results43, Sem.run_bind, Sem.run_pure, Result.andThen_ok, Act.put, asAddr, HLd.out]) rfl ?_
   have hk9 : Keeps w w9 := HM9.out.keeps HK.out (fun x hx => by rw [hx, ← HQ.out]; omega)
   rw [HX.out]
   exact ⟨_, _, L, rfl, HR.out.keeps hk9, hk9⟩
  |false =>
  have HX := Lib.hid (XO.out HGE.out H8.out (decide_eq_false HNU.out) (by
   have h1 := HCB.out
   cases im with
   |true => exact .inl HIM.out
   |false =>
    right
    have h2 : lf = false := by simpa using h1.symm
    have := HLF.out
    rw [h2] at this
    exact of_decide_eq_false this.symm))
  generalize addA t name tos = r at *
  clear HCB XU XO HLF
  obtain ⟨w2, rfl⟩ : ∃ z, z = w4 := ⟨_, rfl⟩
  have HT2 := Lib.hid (HR.out.keeps HK.out)
  have HLX := Lib.hid (show ∀ wx, Keeps w2 wx → ∀ j (hj : j < L.length), ∃ bs o pk nk ck, pa = some ⟨bs, o, none⟩ ∧ L[j].2 = .slice pk nk ck ∧ wx.rangeAt bs (o + j * 2) [.string (bstr L[j].1.name), .slice pk nk ck] from fun wx k j hj => by
   obtain ⟨pk, nk, ck, hs⟩ := (HT2.out.pay L[j] (List.getElem_mem hj)).sl
   rcases (HT2.out.keeps k).tab.al.2 with ⟨a0, cap, hv, h0, -⟩ | ⟨b', off, cap, hv, -, -, hc⟩
   ·omega
   ·simp only [Value.slice.injEq] at hv
    refine ⟨b', off, pk, nk, ck, hv.1, hs, fun m v hm => ?_⟩
    have hm4 : m < 2 := by have := (List.getElem?_eq_some_iff.1 hm).1; simpa using this
    have := hc (j * 2 + m) v (by rw [al_at hj hm4, show alC L[j] = [.string (bstr L[j].1.name), L[j].2] from rfl, hs]; exact hm)
    rwa [← Nat.add_assoc] at this)
  go_upto_region 22 with fail
  go_loopw [11, 12, 13] (fun ov pv iv wr => ∃ (k : Nat) (pb : Bool) (OL : List (AlP × Value)) (po : Option Addr) (co : Nat), ov = .slice po OL.length co ∧ pv = .bool pb ∧ iv = .int .i64 (k : Int) ∧ Hid (k ≤ L.length ∧ OL.map (·.1) = outK t.al name tos pb k ∧ PutK t.al name pb k ∧ OutAt wr w2.heap.size po co OL ∧ Keeps w2 wr)) (fun _ _ iv _ => L.length - (RowKit.intOf iv).toNat)
  case atStart => exact ⟨0, false, [], none, 0, rfl, rfl, rfl, Lib.hid ⟨Nat.zero_le _, by simp [outK, stay], PutK.zero _ _, ⟨World.ownsRow_nil _ _ _ _, fun x hx => by cases hx⟩, Keeps.refl _⟩⟩
  case round =>
   obtain ⟨k, pb, OL, po, co, rfl, rfl, rfl, HH⟩ := hrel
   obtain ⟨wx, rfl⟩ : ∃ z : World, z = wr := ⟨_, rfl⟩
   have q3 : wx.cell? ⟨q, 3, none⟩ = some (.slice pa L.length ca) := by rw [(HB.out.keeps HH.out.2.2.2.2).cell]; rfl
   have hw : IntKind.i64.wrap ((k : Int) + 1) = (k : Int) + 1 := IntWalk.i64_in _ (by have := HAL.out; have := HLA.out; have := HH.out.1; omega)
   have HOLn := Lib.hid (show OL.length ≤ 20 from by have h1 := congrArg List.length HH.out.2.1; rw [List.length_map] at h1; have h2 := outK_len (A := t.al) (name := name) (tos := tos) (pb := pb) (k := k) (by have := HLA.out; have := HH.out.1; omega); have := HAL.out; have := HLA.out; have := HH.out.1; omega)
   by_cases hlt : k < L.length
   ·have hd : decide ((k : Int) < (L.length : Int)) = true := decide_eq_true (by omega)
    obtain ⟨bs, o, pk, nk, ck, hpa, hvk, hrg⟩ := HLX.out wx HH.out.2.2.2.2 k hlt
    subst hpa
    have HRG := Lib.hid hrg
    have HKN := Lib.hid (show L[k].1 = t.al[k]'(by have := HLA.out; omega) from by simp [← HT2.out.alm])
    obtain ⟨nm, hnm⟩ : ∃ z, L[k].1.name = z := ⟨_, rfl⟩
    have HCE := Lib.hid (show alC L[k] = [.string (bstr nm), .slice pk nk ck] from by rw [show alC L[k] = [.string (bstr L[k].1.name), L[k].2] from rfl, hvk, hnm])
    have HNE := Lib.hid (show (t.al[k]'(by have := HLA.out; omega)).name = nm from by rw [← HKN.out, hnm])
    rw [hnm] at HRG
    clear hrg hvk hnm
    go_upto_region 25 with (refine wpList_ldR rfl alM2 HRG.out _ rfl rfl ?_)
    generalize hW : World.alloc wx _ = wd
    have HD := Lib.hid (show Blk wd wx.heap.size 108 #[.string (bstr nm), .slice pk nk ck] from by rw [← hW]; exact Blk.new _ _ _ rfl)
    have HKd := Lib.hid (show Keeps w2 wd from by rw [← hW]; exact HH.out.2.2.2.2.alloc _)
    have HOUT := Lib.hid (show OutAt wd w2.heap.size po co OL from by rw [← hW]; exact HH.out.2.2.2.1.keeps ((Keeps.refl _).alloc _))
    have HDN := Lib.hid (show ∀ x, (Value.slice po OL.length co).ownBlock = some x → x ≠ wx.heap.size from fun x hx e => by
     obtain ⟨cs, hh⟩ := owns_obj HH.out.2.2.2.1.own hx
     have := (Array.getElem?_eq_some_iff.1 hh).1
     omega)
    clear hW q3 HRG
    obtain ⟨d, hdd⟩ : ∃ z, wx.heap.size = z := ⟨_, rfl⟩
    rw [hdd] at HD HDN ⊢
    clear hdd
    have d0 : wd.cell? ⟨d, 0, none⟩ = some (.string (bstr nm)) := by rw [HD.out.cell]; rfl
    cases pb with
    |true =>
     have HYS := Lib.hid (show true = true → ltS (t.al[k]'(by have := HLA.out; omega)).name name = false from fun _ => putK_yes HAO.out _ HH.out.2.2.1)
     go_upto_region 28 with fail
     clear d0
     have HNX := Lib.hid (out_next (tos := tos) (pb := true) (show k < t.al.length from by have := HLA.out; omega) (fun h => HYS.out h))
     by_cases he : (t.al[k]'(by have := HLA.out; omega)).name = name
     ·have hq : ((k : Int) == ai) = true := by rw [HAI.out k hlt]; exact decide_eq_true he
      have HMP := Lib.hid (show (OL).map (·.1) = outK t.al name tos true (k + 1) from by rw [HNX.out, if_pos he, List.append_nil]; exact HH.out.2.1)
      clear he
      go_wp2_with fail
      go_roundw
      case rel => exact ⟨k + 1, true, OL, po, co, rfl, rfl, by simp, Lib.hid ⟨by omega, HMP.out, HH.out.2.2.1.more, HOUT.out, HKd.out⟩⟩
      case measure => simp only [RowKit.intOf]; omega
     ·have hq : ((k : Int) == ai) = false := by rw [HAI.out k hlt]; exact decide_eq_false he
      have HMP := Lib.hid (show (OL ++ [L[k]]).map (·.1) = outK t.al name tos true (k + 1) from by rw [HNX.out, if_neg he, List.map_append, HH.out.2.1]; simp [← HT2.out.alm])
      clear he
      have HO8 := Lib.hid ((HOUT.out).keeps ((Keeps.refl wd).alloc (.cells #[.string (bstr nm), .slice pk nk ck] 108)))
      have HK8 := Lib.hid ((HKd.out).alloc (.cells #[.string (bstr nm), .slice pk nk ck] 108))
      have HP8 := Lib.hid ((HT2.out.pay L[k] (List.getElem_mem hlt)).keeps HK8.out)
      have HL8 := Lib.hid (show (OL).length ≤ 20 from by have h1 := congrArg List.length (HH.out.2.1); rw [List.length_map] at h1; have h2 := outK_len (A := t.al) (name := name) (tos := tos) (pb := true) (k := k) (by have := HLA.out; omega); have := HAL.out; have := HLA.out; omega)
      have HC8 := Lib.hid (show alC L[k] = [.string (bstr nm), .slice pk nk ck] from HCE.out)
      go_upto_region 23 with (first | refine wpList_ld rfl alM2 (HD.out) _ rfl rfl ?_ | (at_builtin; refine wpList_apps (base := w2.heap.size) alOk (by decide) rfl _ _ rfl (.slice po (OL).length co) (.slice (some ⟨wd.heap.size, 0, none⟩) 1 1) (OL).length 1 ((OL).flatMap alC) [.string (bstr nm), .slice pk nk ck] rfl rfl HO8.out.own (rowS_lit rfl rfl rfl) (by simp [Value.oneCell']) (by have := HL8.out; omega) (by decide) HK8.out.size ?_; intro v8 w8 ho8 hg8 hf8; rw [← HC8.out] at ho8; have HV8 := Lib.hid (HO8.out.push (x := L[k]) HP8.out ho8 hg8); have HK9 := Lib.hid (HK8.out.grown hg8 (fun x hx => ownsRow_base HO8.out.own x hx)); clear ho8 hg8 hf8))
      obtain ⟨p8, c8, hv8, ho8⟩ := HV8.out
      subst hv8
      have HO9 := Lib.hid ho8
      clear ho8
      go_wp2_with fail
      go_roundw
      case rel => exact ⟨k + 1, true, OL ++ [L[k]], p8, c8, rfl, rfl, by simp, Lib.hid ⟨by omega, HMP.out, HH.out.2.2.1.more, HO9.out, HK9.out⟩⟩
      case measure => simp only [RowKit.intOf]; omega
    |false =>
     obtain ⟨lb, hlb⟩ : ∃ z, ltS nm name = z := ⟨_, rfl⟩
     have hless : Op.bytesLess (bstr nm).toList (bstr name).toList = lb := by rw [bstr_toList, bstr_toList, less_lt]; exact hlb
     have HLS2 := Lib.hid hlb
     clear hlb
     cases lb with
     |true =>
      have HYS := Lib.hid (show false = true → ltS (t.al[k]'(by have := HLA.out; omega)).name name = false from fun h => by cases h)
      go_upto_region 28 with fail
      clear d0 hless
      have HNX := Lib.hid (out_next (tos := tos) (pb := false) (show k < t.al.length from by have := HLA.out; omega) (fun h => HYS.out h))
      by_cases he : (t.al[k]'(by have := HLA.out; omega)).name = name
      ·have hq : ((k : Int) == ai) = true := by rw [HAI.out k hlt]; exact decide_eq_true he
       have HMP := Lib.hid (show (OL).map (·.1) = outK t.al name tos false (k + 1) from by rw [HNX.out, if_pos he, List.append_nil]; exact HH.out.2.1)
       clear he
       go_wp2_with fail
       go_roundw
       case rel => exact ⟨k + 1, false, OL, po, co, rfl, rfl, by simp, Lib.hid ⟨by omega, HMP.out, (HH.out.2.2.1.low _ (by rw [HNE.out]; exact HLS2.out)), HOUT.out, HKd.out⟩⟩
       case measure => simp only [RowKit.intOf]; omega
      ·have hq : ((k : Int) == ai) = false := by rw [HAI.out k hlt]; exact decide_eq_false he
       have HMP := Lib.hid (show (OL ++ [L[k]]).map (·.1) = outK t.al name tos false (k + 1) from by rw [HNX.out, if_neg he, List.map_append, HH.out.2.1]; simp [← HT2.out.alm])
       clear he
       have HO8 := Lib.hid ((HOUT.out).keeps ((Keeps.refl wd).alloc (.cells #[.string (bstr nm), .slice pk nk ck] 108)))
       have HK8 := Lib.hid ((HKd.out).alloc (.cells #[.string (bstr nm), .slice pk nk ck] 108))
       have HP8 := Lib.hid ((HT2.out.pay L[k] (List.getElem_mem hlt)).keeps HK8.out)
       have HL8 := Lib.hid (show (OL).length ≤ 20 from by have h1 := congrArg List.length (HH.out.2.1); rw [List.length_map] at h1; have h2 := outK_len (A := t.al) (name := name) (tos := tos) (pb := false) (k := k) (by have := HLA.out; omega); have := HAL.out; have := HLA.out; omega)
       have HC8 := Lib.hid (show alC L[k] = [.string (bstr nm), .slice pk nk ck] from HCE.out)
       go_upto_region 23 with (first | refine wpList_ld rfl alM2 (HD.out) _ rfl rfl ?_ | (at_builtin; refine wpList_apps (base := w2.heap.size) alOk (by decide) rfl _ _ rfl (.slice po (OL).length co) (.slice (some ⟨wd.heap.size, 0, none⟩) 1 1) (OL).length 1 ((OL).flatMap alC) [.string (bstr nm), .slice pk nk ck] rfl rfl HO8.out.own (rowS_lit rfl rfl rfl) (by simp [Value.oneCell']) (by have := HL8.out; omega) (by decide) HK8.out.size ?_; intro v8 w8 ho8 hg8 hf8; rw [← HC8.out] at ho8; have HV8 := Lib.hid (HO8.out.push (x := L[k]) HP8.out ho8 hg8); have HK9 := Lib.hid (HK8.out.grown hg8 (fun x hx => ownsRow_base HO8.out.own x hx)); clear ho8 hg8 hf8))
       obtain ⟨p8, c8, hv8, ho8⟩ := HV8.out
       subst hv8
       have HO9 := Lib.hid ho8
       clear ho8
       go_wp2_with fail
       go_roundw
       case rel => exact ⟨k + 1, false, OL ++ [L[k]], p8, c8, rfl, rfl, by simp, Lib.hid ⟨by omega, HMP.out, (HH.out.2.2.1.low _ (by rw [HNE.out]; exact HLS2.out)), HO9.out, HK9.out⟩⟩
       case measure => simp only [RowKit.intOf]; omega
     |false =>
      go_upto_region 26 with fail
      clear d0 hless
      have HZ0 := Lib.hid (Own.empty (w := wd) (e := 9) w2.heap.size rfl HKd.out.size)
      have HZ1 := Lib.hid ((HRow.out.keeps (HK.out.trans HKd.out)).keeps ((Keeps.refl wd).alloc (.cells #[] 9)))
      have HZ2 := Lib.hid (Nat.le_trans HKd.out.size ((Keeps.refl wd).alloc (.cells #[] 9)).size)
      have hwd : w2.heap.size ≤ wd.heap.size := HKd.out.size
      have HOL := Lib.hid HOLn.out
      go_upto_region 27 with (first
       |(at_builtin; refine wpList_app1 (base := w2.heap.size) strok3 rfl _ _ rfl (.slice (some ⟨wd.heap.size, 0, none⟩) 0 0) (.slice p tos.length cap) [] (tos.map strV) rfl rfl HZ0.out HZ1.out (oneCell_strs _) (by have := HLB.out; simp; omega) (by decide) HZ2.out ?_; intro v5 w5 ho5 hg5 hf5; rw [List.nil_append] at ho5; obtain ⟨p5, n5, c5, rfl⟩ := ho5.sl; have HO5 := Lib.hid ho5; have HK5 := Lib.hid (show Keeps wd w5 from ((Keeps.refl _).alloc _).grown hg5 (fun x hx => by simp [Value.ownBlock] at hx; omega)); have HOe := Lib.hid (HOUT.out.keeps (HK5.out.alloc (.cells #[.string (bstr name), .slice p5 n5 c5] 108))); have HKe := Lib.hid ((HKd.out.trans HK5.out).alloc (.cells #[.string (bstr name), .slice p5 n5 c5] 108)); clear ho5 hg5 hf5)
       |(at_builtin; refine wpList_apps (base := w2.heap.size) alOk (by decide) rfl _ _ rfl (.slice po OL.length co) (.slice (some ⟨w5.heap.size, 0, none⟩) 1 1) OL.length 1 (OL.flatMap alC) [.string (bstr name), .slice p5 n5 c5] rfl rfl HOe.out.own (rowS_lit rfl rfl rfl) (by simp [Value.oneCell']) (by have := HOL.out; omega) (by decide) HKe.out.size ?_; intro v7 w7 ho7 hg7 hf7; have HOG := Lib.hid (And.intro ho7 hg7); clear ho7 hg7 hf7))
      have HV := Lib.hid (HOe.out.push (x := (⟨name, tos⟩, .slice p5 n5 c5)) ((HO5.out.alloc _).lower (Nat.zero_le _)) HOG.out.1 HOG.out.2)
      have HK7 := Lib.hid (HKe.out.grown HOG.out.2 (fun x hx => ownsRow_base HOe.out.own x hx))
      obtain ⟨p7, c7, hv7, ho7⟩ := HV.out
      subst hv7
      have HO7 := Lib.hid ho7
      clear ho7
      have HYS := Lib.hid (show true = true → ltS (t.al[k]'(by have := HLA.out; omega)).name name = false from fun _ => by rw [HNE.out]; exact HLS2.out)
      have HD7 := Lib.hid (show Blk w7 d 108 #[.string (bstr nm), .slice pk nk ck] from ((HD.out.keeps HK5.out).alloc _).grown HOG.out.2 (fun e => HDN.out d e rfl))
      have HMP7 := Lib.hid (show (OL ++ [((⟨name, tos⟩ : AlP), Value.slice p5 n5 c5)]).map (·.1) = outK t.al name tos true k from by rw [List.map_append, HH.out.2.1, out_push (by have := HLA.out; omega) HH.out.2.2.1]; rfl)
      obtain ⟨O7, hO7⟩ : ∃ z, OL ++ [((⟨name, tos⟩ : AlP), Value.slice p5 n5 c5)] = z := ⟨_, rfl⟩
      rw [hO7] at HMP7 HO7 ⊢
      clear hO7
      have HNX := Lib.hid (out_next (tos := tos) (pb := true) (show k < t.al.length from by have := HLA.out; omega) (fun h => HYS.out h))
      by_cases he : (t.al[k]'(by have := HLA.out; omega)).name = name
      ·have hq : ((k : Int) == ai) = true := by rw [HAI.out k hlt]; exact decide_eq_true he
       have HMP := Lib.hid (show (O7).map (·.1) = outK t.al name tos true (k + 1) from by rw [HNX.out, if_pos he, List.append_nil]; exact HMP7.out)
       clear he
       go_wp2_with fail
       go_roundw
       case rel => exact ⟨k + 1, true, O7, p7, c7, rfl, rfl, by simp, Lib.hid ⟨by omega, HMP.out, (PutK.turn (by have := HLA.out; omega) (by rw [HNE.out]; exact HLS2.out)), HO7.out, HK7.out⟩⟩
       case measure => simp only [RowKit.intOf]; omega
      ·have hq : ((k : Int) == ai) = false := by rw [HAI.out k hlt]; exact decide_eq_false he
       have HMP := Lib.hid (show (O7 ++ [L[k]]).map (·.1) = outK t.al name tos true (k + 1) from by rw [HNX.out, if_neg he, List.map_append, HMP7.out]; simp [← HT2.out.alm])
       clear he
       have HO8 := Lib.hid ((HO7.out).keeps ((Keeps.refl w7).alloc (.cells #[.string (bstr nm), .slice pk nk ck] 108)))
       have HK8 := Lib.hid ((HK7.out).alloc (.cells #[.string (bstr nm), .slice pk nk ck] 108))
       have HP8 := Lib.hid ((HT2.out.pay L[k] (List.getElem_mem hlt)).keeps HK8.out)
       have HL8 := Lib.hid (show (O7).length ≤ 20 from by have h1 := congrArg List.length (HMP7.out); rw [List.length_map] at h1; have h2 := outK_len (A := t.al) (name := name) (tos := tos) (pb := true) (k := k) (by have := HLA.out; omega); have := HAL.out; have := HLA.out; omega)
       have HC8 := Lib.hid (show alC L[k] = [.string (bstr nm), .slice pk nk ck] from HCE.out)
       go_upto_region 23 with (first | refine wpList_ld rfl alM2 (HD7.out) _ rfl rfl ?_ | (at_builtin; refine wpList_apps (base := w2.heap.size) alOk (by decide) rfl _ _ rfl (.slice p7 (O7).length c7) (.slice (some ⟨w7.heap.size, 0, none⟩) 1 1) (O7).length 1 ((O7).flatMap alC) [.string (bstr nm), .slice pk nk ck] rfl rfl HO8.out.own (rowS_lit rfl rfl rfl) (by simp [Value.oneCell']) (by have := HL8.out; omega) (by decide) HK8.out.size ?_; intro v8 w8 ho8 hg8 hf8; rw [← HC8.out] at ho8; have HV8 := Lib.hid (HO8.out.push (x := L[k]) HP8.out ho8 hg8); have HK9 := Lib.hid (HK8.out.grown hg8 (fun x hx => ownsRow_base HO8.out.own x hx)); clear ho8 hg8 hf8))
       obtain ⟨p8, c8, hv8, ho8⟩ := HV8.out
       subst hv8
       have HO9 := Lib.hid ho8
       clear ho8
       go_wp2_with fail
       go_roundw
       case rel => exact ⟨k + 1, true, O7 ++ [L[k]], p8, c8, rfl, rfl, by simp, Lib.hid ⟨by omega, HMP.out, (PutK.turn (by have := HLA.out; omega) (by rw [HNE.out]; exact HLS2.out)), HO9.out, HK9.out⟩⟩
       case measure => simp only [RowKit.intOf]; omega
   ·have hd : decide ((k : Int) < (L.length : Int)) = false := decide_eq_false (by omega)
    have hke : k = t.al.length := by have := HLA.out; have := HH.out.1; omega
    have HMq := Lib.hid (show OL.map (·.1) = outK t.al name tos pb t.al.length from by rw [← hke]; exact HH.out.2.1)
    have HPq := Lib.hid (show PutK t.al name pb t.al.length from by rw [← hke]; exact HH.out.2.2.1)
    have HOUT := Lib.hid HH.out.2.2.2.1
    have HKd := Lib.hid HH.out.2.2.2.2
    clear hke hw HLX
    cases pb with
    |true =>
     go_upto_region 32 with fail
     clear q3 hd hlt
     have HB3 := Lib.hid (HB.out.keeps HKd.out)
     have HG3 := Lib.hid (HG.out.keeps HKd.out)
     have HT3 := Lib.hid (HT2.out.keeps HKd.out)
     have HK3 := Lib.hid (HK.out.trans HKd.out)
     have HO3 := Lib.hid (HOUT.out)
     obtain ⟨ON, hON⟩ : ∃ z, z = OL := ⟨_, rfl⟩
     rw [← hON] at HO3
     have HME := Lib.hid (show ON.map (·.1) = insA ⟨name, tos⟩ (t.al.filter fun a => decide (a.name ≠ name)) from by rw [hON, HMq.out, outK_full])
     rw [show (OL).length = ON.length from by rw [hON]]
     clear hON
     have q3 : wx.cell? ⟨q, 3, none⟩ = some (.slice pa L.length ca) := by rw [HB3.out.cell]; rfl
     have z3 : wx.frozen? ⟨q, 3, none⟩ = false := HB3.out.frozen 3
     go_upto_region 33 with fail
     have HB4 := Lib.hid (HB3.out.set_ 3 (.slice po ON.length co))
     have hm4 : Mods (· = q) wx (wx.setCell ⟨q, 3, none⟩ (.slice po ON.length co)) := (Mods.refl (· = q) wx).setCell (p := ⟨q, 3, none⟩) (fun _ => rfl) _
     have HT4 := Lib.hid (HT3.out.blk hm4 HB3.out (by decide))
     have HG4 := Lib.hid (HG3.out.mods hm4 (fun e => by omega))
     have HO4 := Lib.hid (HO3.out.blk hm4 HB3.out (by decide))
     have HK4 := Lib.hid (hm4.keeps HK3.out (fun x hx => by rw [hx, ← HQ.out]; omega))
     clear q3 z3 hm4 HB3 HT3 HG3 HO3 HK3
     generalize wx.setCell _ _ = w8 at *
     have HB4 := Lib.hid (show Blk w8 q 32 #[.string (bstr t.dom), .int .i64 t.next, .slice pu t.us.length cu, .slice po ON.length co] from HB4.out)
     go_wp2_with (first
      |refine wpList_ld rfl rtM HB4.out _ rfl rfl ?_
      |(refine wpList_st (ds := #[.string (bstr t.dom), .int .i64 t.next, .slice pu t.us.length cu, .slice po ON.length co, .int .i64 0, .int .i64 0]) rfl gotM HG4.out rfl (by simp [Value.oneCell']) _ _ rfl rfl rfl rfl ?_; intro w9 hB9 hM9; have HLd := Lib.hid (ld_run (P := Tryz.prog) gotM hB9); have HM9 := Lib.hid hM9; clear hB9 hM9))
     refine bodyPost_ret (v := .agg #[.string (bstr t.dom), .int .i64 t.next, .slice pu t.us.length cu, .slice po ON.length co, .int .i64 0, .int .i64 0]) (by simp [results, Tryz.results43, Sem.run_bind, Sem.run_pure, Result.andThen_ok, Act.put, asAddr, HLd.out]) rfl ?_
     have hk9 : Keeps w w9 := HM9.out.keeps HK4.out (fun x hx => by rw [hx, ← HQ.out]; omega)
     have ho9 := HO4.out.blk HM9.out HG4.out (by decide)
     have hT9 := HT4.out.blk HM9.out HG4.out (by decide)
     rw [HX.out]
     exact ⟨_, _, ON, rfl, ⟨hT9.us, ownsRow_low ho9.own, HME.out, ho9.pay⟩, hk9⟩
    |false =>
     go_upto_region 31 with fail
     clear q3 hd hlt
     have HZ0 := Lib.hid (Own.empty (w := wx) (e := 9) w2.heap.size rfl HKd.out.size)
     have HZ1 := Lib.hid ((HRow.out.keeps (HK.out.trans HKd.out)).keeps ((Keeps.refl wx).alloc (.cells #[] 9)))
     have HZ2 := Lib.hid (Nat.le_trans HKd.out.size ((Keeps.refl wx).alloc (.cells #[] 9)).size)
     have hwd : w2.heap.size ≤ wx.heap.size := HKd.out.size
     have HOL := Lib.hid HOLn.out
     go_upto_region 32 with (first
      |(at_builtin; refine wpList_app1 (base := w2.heap.size) strok3 rfl _ _ rfl (.slice (some ⟨wx.heap.size, 0, none⟩) 0 0) (.slice p tos.length cap) [] (tos.map strV) rfl rfl HZ0.out HZ1.out (oneCell_strs _) (by have := HLB.out; simp; omega) (by decide) HZ2.out ?_; intro v5 w5 ho5 hg5 hf5; rw [List.nil_append] at ho5; obtain ⟨p5, n5, c5, rfl⟩ := ho5.sl; have HO5 := Lib.hid ho5; have HK5 := Lib.hid (show Keeps wx w5 from ((Keeps.refl _).alloc _).grown hg5 (fun x hx => by simp [Value.ownBlock] at hx; omega)); have HOe := Lib.hid (HOUT.out.keeps (HK5.out.alloc (.cells #[.string (bstr name), .slice p5 n5 c5] 108))); have HKe := Lib.hid ((HKd.out.trans HK5.out).alloc (.cells #[.string (bstr name), .slice p5 n5 c5] 108)); clear ho5 hg5 hf5)
      |(at_builtin; refine wpList_apps (base := w2.heap.size) alOk (by decide) rfl _ _ rfl (.slice po OL.length co) (.slice (some ⟨w5.heap.size, 0, none⟩) 1 1) OL.length 1 (OL.flatMap alC) [.string (bstr name), .slice p5 n5 c5] rfl rfl HOe.out.own (rowS_lit rfl rfl rfl) (by simp [Value.oneCell']) (by have := HOL.out; omega) (by decide) HKe.out.size ?_; intro v7 w7 ho7 hg7 hf7; have HOG := Lib.hid (And.intro ho7 hg7); clear ho7 hg7 hf7))
     have HV := Lib.hid (HOe.out.push (x := (⟨name, tos⟩, .slice p5 n5 c5)) ((HO5.out.alloc _).lower (Nat.zero_le _)) HOG.out.1 HOG.out.2)
     have HK7 := Lib.hid (HKe.out.grown HOG.out.2 (fun x hx => ownsRow_base HOe.out.own x hx))
     obtain ⟨p7, c7, hv7, ho7⟩ := HV.out
     subst hv7
     have HO7 := Lib.hid ho7
     clear ho7
     have HMP7 := Lib.hid (show (OL ++ [((⟨name, tos⟩ : AlP), Value.slice p5 n5 c5)]).map (·.1) = outK t.al name tos true t.al.length from by rw [List.map_append, HMq.out, out_push (Nat.le_refl _) HPq.out]; rfl)
     obtain ⟨O7, hO7⟩ : ∃ z, OL ++ [((⟨name, tos⟩ : AlP), Value.slice p5 n5 c5)] = z := ⟨_, rfl⟩
     rw [hO7] at HMP7 HO7 ⊢
     clear hO7
     have HB3 := Lib.hid (HB.out.keeps HK7.out)
     have HG3 := Lib.hid (HG.out.keeps HK7.out)
     have HT3 := Lib.hid (HT2.out.keeps HK7.out)
     have HK3 := Lib.hid (HK.out.trans HK7.out)
     have HO3 := Lib.hid (HO7.out)
     obtain ⟨ON, hON⟩ : ∃ z, z = O7 := ⟨_, rfl⟩
     rw [← hON] at HO3
     have HME := Lib.hid (show ON.map (·.1) = insA ⟨name, tos⟩ (t.al.filter fun a => decide (a.name ≠ name)) from by rw [hON, HMP7.out, outK_full])
     rw [show (O7).length = ON.length from by rw [hON]]
     clear hON
     have q3 : w7.cell? ⟨q, 3, none⟩ = some (.slice pa L.length ca) := by rw [HB3.out.cell]; rfl
     have z3 : w7.frozen? ⟨q, 3, none⟩ = false := HB3.out.frozen 3
     go_upto_region 33 with fail
     have HB4 := Lib.hid (HB3.out.set_ 3 (.slice p7 ON.length c7))
     have hm4 : Mods (· = q) w7 (w7.setCell ⟨q, 3, none⟩ (.slice p7 ON.length c7)) := (Mods.refl (· = q) w7).setCell (p := ⟨q, 3, none⟩) (fun _ => rfl) _
     have HT4 := Lib.hid (HT3.out.blk hm4 HB3.out (by decide))
     have HG4 := Lib.hid (HG3.out.mods hm4 (fun e => by omega))
     have HO4 := Lib.hid (HO3.out.blk hm4 HB3.out (by decide))
     have HK4 := Lib.hid (hm4.keeps HK3.out (fun x hx => by rw [hx, ← HQ.out]; omega))
     clear q3 z3 hm4 HB3 HT3 HG3 HO3 HK3
     generalize w7.setCell _ _ = w8 at *
     have HB4 := Lib.hid (show Blk w8 q 32 #[.string (bstr t.dom), .int .i64 t.next, .slice pu t.us.length cu, .slice p7 ON.length c7] from HB4.out)
     go_wp2_with (first
      |refine wpList_ld rfl rtM HB4.out _ rfl rfl ?_
      |(refine wpList_st (ds := #[.string (bstr t.dom), .int .i64 t.next, .slice pu t.us.length cu, .slice p7 ON.length c7, .int .i64 0, .int .i64 0]) rfl gotM HG4.out rfl (by simp [Value.oneCell']) _ _ rfl rfl rfl rfl ?_; intro w9 hB9 hM9; have HLd := Lib.hid (ld_run (P := Tryz.prog) gotM hB9); have HM9 := Lib.hid hM9; clear hB9 hM9))
     refine bodyPost_ret (v := .agg #[.string (bstr t.dom), .int .i64 t.next, .slice pu t.us.length cu, .slice p7 ON.length c7, .int .i64 0, .int .i64 0]) (by simp [results, Tryz.results43, Sem.run_bind, Sem.run_pure, Result.andThen_ok, Act.put, asAddr, HLd.out]) rfl ?_
     have hk9 : Keeps w w9 := HM9.out.keeps HK4.out (fun x hx => by rw [hx, ← HQ.out]; omega)
     have ho9 := HO4.out.blk HM9.out HG4.out (by decide)
     have hT9 := HT4.out.blk HM9.out HG4.out (by decide)
     rw [HX.out]
     exact ⟨_, _, ON, rfl, ⟨hT9.us, ownsRow_low ho9.own, HME.out, ho9.pay⟩, hk9⟩
end Usr
end Go.Proofs.YtklbemkafdccgaaGreat

/- Several texts in one: UsBytes, UsMust, UsRT, UsReadU, UsReadA. -/
import Derived.Test.YtklbemkafdccgaaGreatK41
import Derived.Test.YtklbemkafdccgaaGreatUsSort
import Derived.Test.YtklbemkafdccgaaGreatK33
import Derived.Test.YtklbemkafdccgaaGreatK18
import Derived.Test.YtklbemkafdccgaaGreatK28
import Derived.Test.YtklbemkafdccgaaGreatFrameRef
import Derived.Test.YtklbemkafdccgaaGreatFrameAwake
import Derived.Laws.OwnMore
/- users: Bytes. -/
namespace Go.Proofs.YtklbemkafdccgaaGreat
open Go.RowKit
namespace Usr
open Adr (Str)
open Oct (be unsV RetS be_length sinkBytes_any)
open Frm (Sole)
open Env (textB soleNew)
open Mp Go.Maps
theorem alC_lenB (x : AlP × Value) : (alC x).length = 2 := rfl
theorem sole_l {W w : World} {g : Nat} {v : Value} {l l' : List UInt8} (h : Sole W w g v l) (e : l = l') : Sole W w g v l' := e ▸ h
set_option maxRecDepth 100000 in
set_option maxHeartbeats 4000000 in
theorem bytes_any (w : World) (g b1 b2 n : Nat) (t : TabP) (h : TabAt w g b1 b2 n t) (hR : Right t) (hn : n ≤ 900000) (hd : t.dom.length ≤ 1000000) : Calls Tryz.prog 17 #[.pointer (some ⟨g, 0, none⟩)] w (RetS w (bytesT t)) := by
 have HT := Lib.hid h
 have HR := Lib.hid hR
 have hnx := hR.nx
 have hul := hR.ul
 have hal := hR.all
 obtain ⟨nx, hnx'⟩ : ∃ nx : Nat, t.next = nx := Int.eq_ofNat_of_zero_le (by omega)
 have HX := Lib.hid (show textB t.dom ++ (be 2 nx ++ (be 1 t.us.length ++ (t.us.flatMap usrL ++ (be 1 t.al.length ++ t.al.flatMap alL)))) = bytesT t from by unfold bytesT; rw [hnx']; rfl)
 have HUL := Lib.hid (fun j => takeF_len usrL 54 t.us (fun u hu => usrL_len (nameB_len (hR.un u hu).1).1) j)
 have HAL := Lib.hid (fun j => takeF_len alL 325 t.al (fun a ha => alL_len (nameB_len (hR.an a ha).1).1 (fun x hx => by
  have := (hR.an a ha).2.1
  unfold namesB at this
  simp only [Bool.and_eq_true, List.all_eq_true] at this
  exact (nameB_len (this.1.1 x hx)).1) (hR.an a ha).2.2) j)
 have HTB := Lib.hid (show ∀ s : Str, (textB s).length = 4 + s.length from fun s => by unfold textB; simp [be_length])
 have HBL := Lib.hid be_length
 have hw1 : IntKind.u64.wrap (nx : Int) = (nx : Int) := IntWalk.u64_in _ (by omega)
 have hw2 : IntKind.u64.wrap (t.us.length : Int) = (t.us.length : Int) := IntWalk.u64_in _ (by omega)
 have hw3 : IntKind.u64.wrap (t.al.length : Int) = (t.al.length : Int) := IntWalk.u64_in _ (by omega)
 have HNX := Lib.hid hnx'
 have hn2 : nx < 65536 := by omega
 clear h hR hnx hnx'
 go_enter Tryz.func17, Tryz.ntmps17
 go_wp2_with fail
 refine (soleNew _).mono ?_
 rintro e w1 ⟨gs, rfl, hg, hso⟩
 have HS := Lib.hid hso
 obtain ⟨c0, c1, c2, c3⟩ := (HT.out.keeps HS.out.keeps).cells
 clear hso hg c1 c2 c3
 go_wp2_with fail
 refine (skT HS.out t.dom hd (by simp)).mono ?_
 rintro e w2 ⟨v2, rfl, hso, -⟩
 have HS := Lib.hid hso
 obtain ⟨-, c1, -, -⟩ := (HT.out.keeps HS.out.keeps).cells
 rw [HNX.out] at c1
 clear hso c0
 go_wp2_with fail
 refine (skU HS.out nx 2 2 rfl (by omega) (by have : (256 : Nat) ^ 2 = 65536 := rfl; omega) (by simp [HTB.out]; omega)).mono ?_
 rintro e w3 ⟨v3, rfl, hso, -⟩
 have HS := Lib.hid hso
 have HT3 := Lib.hid (HT.out.keeps HS.out.keeps)
 obtain ⟨-, -, c2, -⟩ := HT3.out.cells
 have hln := HT3.out.lenU
 clear hso c1
 go_wp2_with fail
 refine (skU HS.out t.us.length 1 1 rfl (by omega) (by have : (256 : Nat) ^ 1 = 256 := rfl; omega) (by simp [HTB.out, HBL.out]; omega)).mono ?_
 rintro e w4 ⟨v4, rfl, hso, -⟩
 have HS := Lib.hid (sole_l hso (show _ = textB t.dom ++ be 2 nx ++ be 1 t.us.length ++ (t.us.take 0).flatMap usrL from by simp))
 have HT4 := Lib.hid (HT.out.keeps HS.out.keeps)
 have CU := Lib.hid (users_any w4 g b1 b2 n t HT4.out HR.out)
 clear hso c2 hln HT3
 go_wp2_with fail
 refine CU.out.mono ?_
 rintro e w5 ⟨vu, rfl, ho, hk⟩
 obtain ⟨pu, cu, rfl, -, -⟩ := Frm.ownsRow_form ho
 have HO := Lib.hid ho
 have HS := Lib.hid (HS.out.kept hk)
 clear ho hk CU HT4
 go_wp2_with fail
 go_loopw [35] (fun iv wr => ∃ (j : Nat) (v : Value), iv = .int .i64 (j : Int) ∧ j ≤ t.us.length ∧ Hid (Sole w wr gs v (textB t.dom ++ be 2 nx ++ be 1 t.us.length ++ (t.us.take j).flatMap usrL) ∧ wr.ownsRow w4.heap.size 42 4 (.slice pu t.us.length cu) t.us.length (t.us.flatMap usC))) (fun iv _ => t.us.length - (RowKit.intOf iv).toNat)
 case atStart => exact ⟨0, v4, rfl, Nat.zero_le _, Lib.hid ⟨HS.out, HO.out⟩⟩
 case round =>
  obtain ⟨j, v, rfl, hj, HH⟩ := hrel
  obtain ⟨wz, rfl⟩ : ∃ z : World, z = wr := ⟨_, rfl⟩
  clear HS HO
  by_cases hlt : j < t.us.length
  ·obtain ⟨gl, cap', hv, -, -, -, hc⟩ := Frm.ownsRow_at HH.out.2 (by omega)
   simp only [Value.slice.injEq] at hv
   obtain ⟨rfl, -, rfl⟩ := hv
   have hun := HR.out.un _ (List.getElem_mem hlt)
   have hlo := HR.out.lo _ (List.getElem_mem hlt)
   have hnx := HR.out.nx
   obtain ⟨un, hun'⟩ : ∃ un : Nat, t.us[j].n = un := Int.eq_ofNat_of_zero_le (show 0 ≤ t.us[j].n by omega)
   have hnl := (nameB_len hun.1).1
   obtain ⟨hfb, hfc⟩ := lim_fits hun.2
   have us_at : ∀ k, k < 4 → (t.us.flatMap usC)[j * 4 + k]? = (usC t.us[j])[k]? := fun k hk => flat_get usC_len t.us j k _ (List.getElem?_eq_getElem hlt) hk
   have a0 : wz.cell? ⟨gl, j * 4, none⟩ = some (.int .i64 (un : Int)) := hc _ _ (by have := us_at 0 (by decide); rw [Nat.add_zero] at this; rw [this, ← hun']; rfl)
   have a1 : wz.cell? ⟨gl, j * 4 + 1, none⟩ = some (.string (bstr t.us[j].name)) := hc _ _ (by rw [us_at 1 (by decide)]; rfl)
   have a2 : wz.cell? ⟨gl, j * 4 + 2, none⟩ = some (.int .i64 t.us[j].lb) := hc _ _ (by rw [us_at 2 (by decide)]; rfl)
   have a3 : wz.cell? ⟨gl, j * 4 + 3, none⟩ = some (.int .i64 t.us[j].lc) := hc _ _ (by rw [us_at 3 (by decide)]; rfl)
   have HNE := Lib.hid (show (t.us.take (j + 1)).flatMap usrL = (t.us.take j).flatMap usrL ++ (be 2 un ++ (textB t.us[j].name ++ (be 8 (unsV t.us[j].lb 8) ++ be 8 (unsV t.us[j].lc 8)))) from by rw [takeF_next usrL hlt]; unfold usrL; rw [hun']; rfl)
   have hLn := HUL.out j
   have HFB := Lib.hid hfb
   have HFC := Lib.hid hfc
   have hun2 : un < 65536 := by omega
   have hwu : IntKind.u64.wrap (un : Int) = (un : Int) := IntWalk.u64_in _ (by omega)
   generalize t.us[j].name = U at *
   generalize t.us[j].lb = ub at *
   generalize t.us[j].lc = uc at *
   clear hc us_at hun hlo hnx hun' hfb hfc
   go_upto_region 8 with fail
   obtain ⟨q, hq⟩ : ∃ q, wz.heap.size = q := ⟨_, rfl⟩
   obtain ⟨wy, hwy⟩ : ∃ z, wz.alloc (.cells #[.int .i64 (un : Int), .string (bstr U), .int .i64 ub, .int .i64 uc] 42) = z := ⟨_, rfl⟩
   have HB := Lib.hid (show Blk wy q 42 #[.int .i64 (un : Int), .string (bstr U), .int .i64 ub, .int .i64 uc] from by rw [← hwy]; exact Blk.new _ _ _ hq.symm)
   have HS := Lib.hid (show Sole w wy gs v _ from HH.out.1.kept (by rw [← hwy]; exact (Keeps.refl _).alloc _))
   have HO := Lib.hid (show wy.ownsRow w4.heap.size 42 4 (.slice (some ⟨gl, 0, none⟩) t.us.length cu) t.us.length (t.us.flatMap usC) from Frm.ownsRow_keeps HH.out.2 (by rw [← hwy]; exact (Keeps.refl _).alloc _))
   rw [hwy, hq]
   clear a0 a1 a2 a3 hwy hq HH
   have x0 : wy.cell? ⟨q, 0, none⟩ = some (.int .i64 (un : Int)) := by rw [HB.out.cell]; rfl
   go_wp2_with fail
   refine (skU HS.out un 2 2 rfl (by omega) (by have : (256 : Nat) ^ 2 = 65536 := rfl; omega) (by simp [HTB.out, HBL.out] at hLn ⊢; omega)).mono ?_
   rintro e wa ⟨va, rfl, hso, hm⟩
   have HS := Lib.hid hso
   have HB := Lib.hid (SkM.blk hm HB.out (by decide) (by decide))
   have HO := Lib.hid (SkM.row hm HO.out (by decide) (by decide))
   clear hso hm x0
   have x1 : wa.cell? ⟨q, 1, none⟩ = some (.string (bstr U)) := by rw [HB.out.cell]; rfl
   go_wp2_with fail
   refine (skT HS.out U (by omega) (by simp [HTB.out, HBL.out] at hLn ⊢; omega)).mono ?_
   rintro e wb ⟨vb, rfl, hso, hm⟩
   have HS := Lib.hid hso
   have HB := Lib.hid (SkM.blk hm HB.out (by decide) (by decide))
   have HO := Lib.hid (SkM.row hm HO.out (by decide) (by decide))
   clear hso hm x1
   have x2 : wb.cell? ⟨q, 2, none⟩ = some (.int .i64 ub) := by rw [HB.out.cell]; rfl
   go_wp2_with fail
   refine (skI HS.out ub HFB.out (by simp [HTB.out, HBL.out] at hLn ⊢; omega)).mono ?_
   rintro e wd ⟨vd, rfl, hso, hm⟩
   have HS := Lib.hid hso
   have HB := Lib.hid (SkM.blk hm HB.out (by decide) (by decide))
   have HO := Lib.hid (SkM.row hm HO.out (by decide) (by decide))
   clear hso hm x2
   have x3 : wd.cell? ⟨q, 3, none⟩ = some (.int .i64 uc) := by rw [HB.out.cell]; rfl
   go_wp2_with fail
   refine (skI HS.out uc HFC.out (by simp [HTB.out, HBL.out] at hLn ⊢; omega)).mono ?_
   rintro e we ⟨ve, rfl, hso, hm⟩
   have HS := Lib.hid (sole_l hso (show _ = textB t.dom ++ be 2 nx ++ be 1 t.us.length ++ (t.us.take (j + 1)).flatMap usrL from by rw [HNE.out]; simp only [List.append_assoc]))
   have HO := Lib.hid (SkM.row hm HO.out (by decide) (by decide))
   clear hso hm x3
   go_wp2_with fail
   go_roundw
   case rel => exact ⟨j + 1, ve, by simp, by omega, Lib.hid ⟨HS.out, HO.out⟩⟩
   case measure => simp only [RowKit.intOf]; omega
  ·have e : j = t.us.length := by omega
   have HS := Lib.hid (sole_l HH.out.1 (show _ = textB t.dom ++ be 2 nx ++ be 1 t.us.length ++ t.us.flatMap usrL from by rw [e, List.take_length]))
   have hLn := HUL.out t.us.length
   rw [List.take_length] at hLn
   have hd' : decide ((j : Int) < (t.us.length : Int)) = false := decide_eq_false (by omega)
   have HT5 := Lib.hid (HT.out.keeps HS.out.keeps)
   obtain ⟨-, -, -, c3⟩ := HT5.out.cells
   have hla := HT5.out.lenA
   clear e HH
   go_wp2_with fail
   refine (skU HS.out t.al.length 1 1 rfl (by omega) (by have : (256 : Nat) ^ 1 = 256 := rfl; omega) (by simp [HTB.out, HBL.out] at hLn ⊢; omega)).mono ?_
   rintro e w6 ⟨v6, rfl, hso, -⟩
   have HS := Lib.hid (sole_l hso (show _ = textB t.dom ++ be 2 nx ++ be 1 t.us.length ++ t.us.flatMap usrL ++ be 1 t.al.length ++ (t.al.take 0).flatMap alL from by simp))
   have HT6 := Lib.hid (HT.out.keeps HS.out.keeps)
   have CA := Lib.hid (aliases_any w6 g b1 b2 n t HT6.out HR.out hn)
   clear hso c3 hla HT5 hd'
   go_wp2_with fail
   refine CA.out.mono ?_
   rintro e w7 ⟨va, LA, rfl, hA, hLA, hk⟩
   obtain ⟨pa, ca, rfl, -, -⟩ := Frm.ownsRow_form hA.own
   have hLl : LA.length = t.al.length := by rw [← hLA, List.length_map]
   have HLA := Lib.hid hLA
   have HLL := Lib.hid hLl
   have HA := Lib.hid hA
   have HS := Lib.hid (HS.out.kept hk)
   rw [hLl] at HA ⊢
   clear hA hLA hk CA HT6 hLl
   go_wp2_with fail
   go_loopw [70] (fun iv wr => ∃ (j : Nat) (v : Value), iv = .int .i64 (j : Int) ∧ j ≤ t.al.length ∧ Hid (Sole w wr gs v (textB t.dom ++ be 2 nx ++ be 1 t.us.length ++ t.us.flatMap usrL ++ be 1 t.al.length ++ (t.al.take j).flatMap alL) ∧ AlsAt wr w6.heap.size (.slice pa t.al.length ca) LA)) (fun iv _ => t.al.length - (RowKit.intOf iv).toNat)
   case atStart => exact ⟨0, v6, rfl, Nat.zero_le _, Lib.hid ⟨HS.out, HA.out⟩⟩
   case round =>
    obtain ⟨j, v, rfl, hj, HH⟩ := hrel
    obtain ⟨wz, rfl⟩ : ∃ z : World, z = wr := ⟨_, rfl⟩
    clear HS HA
    by_cases hlt : j < t.al.length
    ·have hlt2 : j < LA.length := by rw [HLL.out]; exact hlt
     obtain ⟨gl, cap', hv, -, -, -, hc⟩ := Frm.ownsRow_at HH.out.2.own (by omega)
     rw [HLL.out] at hv
     simp only [Value.slice.injEq] at hv
     obtain ⟨rfl, -, rfl⟩ := hv
     have hLj : LA[j].1 = t.al[j] := by
      have h1 : (LA.map (·.1))[j]? = some LA[j].1 := by rw [List.getElem?_map, List.getElem?_eq_getElem hlt2]; rfl
      rw [HLA.out, List.getElem?_eq_getElem hlt] at h1
      exact (Option.some.inj h1).symm
     have hpy := HH.out.2.pay LA[j] (List.getElem_mem hlt2)
     have al_at' : ∀ k, k < 2 → (LA.flatMap alC)[j * 2 + k]? = (alC LA[j])[k]? := fun k hk => flat_get alC_lenB LA j k _ (List.getElem?_eq_getElem hlt2) hk
     have a0 : wz.cell? ⟨gl, j * 2, none⟩ = some (.string (bstr LA[j].1.name)) := hc _ _ (by have := al_at' 0 (by decide); rw [Nat.add_zero] at this; rw [this]; rfl)
     have a1 : wz.cell? ⟨gl, j * 2 + 1, none⟩ = some LA[j].2 := hc _ _ (by rw [al_at' 1 (by decide)]; rfl)
     obtain ⟨px, cx, hxv, -, -⟩ := hpy.form
     rw [List.length_map] at hxv
     rw [hLj] at a0 hpy hxv
     rw [hxv] at a1 hpy
     have han := HR.out.an _ (List.getElem_mem hlt)
     have hnl := (nameB_len han.1).1
     have ht8 := han.2.2
     have htl : ∀ x ∈ t.al[j].tos, x.length ≤ 32 := fun x hx => by
      have h1 := han.2.1
      unfold namesB at h1
      simp only [Bool.and_eq_true, List.all_eq_true] at h1
      exact (nameB_len (h1.1.1 x hx)).1
     have HNE := Lib.hid (show (t.al.take (j + 1)).flatMap alL = (t.al.take j).flatMap alL ++ (textB t.al[j].name ++ (be 1 t.al[j].tos.length ++ tosL t.al[j].tos)) from by rw [takeF_next alL hlt]; rfl)
     have hLn2 := HAL.out j
     have HPY := Lib.hid hpy
     have HTL := Lib.hid htl
     generalize t.al[j].name = U at *
     generalize t.al[j].tos = T at *
     have HTK := Lib.hid (fun k => takeF_len textB 36 T (fun x hx => by rw [HTB.out]; have := HTL.out x hx; omega) k)
     have hwt : IntKind.u64.wrap (T.length : Int) = (T.length : Int) := IntWalk.u64_in _ (by omega)
     clear hc al_at' han hLj hpy hxv htl
     go_upto_region 17 with fail
     obtain ⟨q, hq⟩ : ∃ q, wz.heap.size = q := ⟨_, rfl⟩
     obtain ⟨wy, hwy⟩ : ∃ z, wz.alloc (.cells #[.string (bstr U), .slice px T.length cx] 108) = z := ⟨_, rfl⟩
     have HKy := Lib.hid (show Keeps wz wy from by rw [← hwy]; exact (Keeps.refl _).alloc _)
     have HB := Lib.hid (show Blk wy q 108 #[.string (bstr U), .slice px T.length cx] from by rw [← hwy]; exact Blk.new _ _ _ hq.symm)
     have HS := Lib.hid (HH.out.1.kept HKy.out)
     have HA := Lib.hid (HH.out.2.keeps HKy.out)
     have HP := Lib.hid (HPY.out.keeps HKy.out)
     rw [hwy, hq]
     clear a0 a1 hwy hq HH HPY HKy
     have x0 : wy.cell? ⟨q, 0, none⟩ = some (.string (bstr U)) := by rw [HB.out.cell]; rfl
     go_wp2_with fail
     refine (skT HS.out U (by omega) (by simp [HTB.out, HBL.out] at hLn hLn2 ⊢; omega)).mono ?_
     rintro e wa ⟨va, rfl, hso, hm⟩
     have HS := Lib.hid hso
     have HB := Lib.hid (SkM.blk hm HB.out (by decide) (by decide))
     have HA := Lib.hid (SkM.als hm HA.out)
     have HP := Lib.hid (SkM.piece hm HP.out)
     clear hso hm x0
     have x1 : wa.cell? ⟨q, 1, none⟩ = some (.slice px T.length cx) := by rw [HB.out.cell]; rfl
     go_wp2_with fail
     refine (skU HS.out T.length 1 1 rfl (by omega) (by have : (256 : Nat) ^ 1 = 256 := rfl; omega) (by simp [HTB.out, HBL.out] at hLn hLn2 ⊢; omega)).mono ?_
     rintro e wb ⟨vb, rfl, hso, hm⟩
     have HS := Lib.hid (sole_l hso (show _ = textB t.dom ++ be 2 nx ++ be 1 t.us.length ++ t.us.flatMap usrL ++ be 1 t.al.length ++ (t.al.take j).flatMap alL ++ textB U ++ be 1 T.length ++ (T.take 0).flatMap textB from by simp))
     have HB := Lib.hid (SkM.blk hm HB.out (by decide) (by decide))
     have HA := Lib.hid (SkM.als hm HA.out)
     have HP := Lib.hid (SkM.piece hm HP.out)
     clear hso hm x1
     have x1 : wb.cell? ⟨q, 1, none⟩ = some (.slice px T.length cx) := by rw [HB.out.cell]; rfl
     go_wp2_with fail
     clear x1
     go_loopw [87, 9] (fun kv sv wr => ∃ (k : Nat) (v : Value), kv = .int .i64 (k : Int) ∧ k ≤ T.length ∧ Hid (Sole w wr gs v (textB t.dom ++ be 2 nx ++ be 1 t.us.length ++ t.us.flatMap usrL ++ be 1 t.al.length ++ (t.al.take j).flatMap alL ++ textB U ++ be 1 T.length ++ (T.take k).flatMap textB) ∧ AlsAt wr w6.heap.size (.slice (some ⟨gl, 0, none⟩) t.al.length ca) LA ∧ Piece wr w6.heap.size 9 (.slice px T.length cx) (T.map strV))) (fun kv _ _ => T.length - (RowKit.intOf kv).toNat)
     case atStart => exact ⟨0, vb, rfl, Nat.zero_le _, Lib.hid ⟨HS.out, HA.out, HP.out⟩⟩
     case round =>
      obtain ⟨k, v', rfl, hk, HX⟩ := hrel
      obtain ⟨wq, rfl⟩ : ∃ z : World, z = wr := ⟨_, rfl⟩
      clear HS HA HP HB
      by_cases hkt : k < T.length
      ·obtain ⟨bx, ox, rfl, x0⟩ := row_str HX.out.2.2.row hkt
       have HT1 := Lib.hid (takeF_next textB hkt)
       have hxl := HTL.out _ (List.getElem_mem hkt)
       have hLn3 := HTK.out k
       generalize T[k] = X at *
       go_wp2_with fail
       refine (skT HX.out.1 X (by omega) (by simp [HTB.out, HBL.out] at hLn hLn2 hLn3 ⊢; omega)).mono ?_
       rintro e wd ⟨vd, rfl, hso, hm⟩
       have HS := Lib.hid (sole_l hso (show _ = textB t.dom ++ be 2 nx ++ be 1 t.us.length ++ t.us.flatMap usrL ++ be 1 t.al.length ++ (t.al.take j).flatMap alL ++ textB U ++ be 1 T.length ++ (T.take (k + 1)).flatMap textB from by rw [HT1.out]; simp only [List.append_assoc]))
       have HA := Lib.hid (SkM.als hm HX.out.2.1)
       have HP := Lib.hid (SkM.piece hm HX.out.2.2)
       clear hso hm x0
       go_wp2_with fail
       go_roundw
       case rel => exact ⟨k + 1, vd, by simp, by omega, Lib.hid ⟨HS.out, HA.out, HP.out⟩⟩
       case measure => simp only [RowKit.intOf]; omega
      ·have hd' : decide ((k : Int) < (T.length : Int)) = false := decide_eq_false (by omega)
       have e : k = T.length := by omega
       have HS := Lib.hid (sole_l HX.out.1 (show _ = textB t.dom ++ be 2 nx ++ be 1 t.us.length ++ t.us.flatMap usrL ++ be 1 t.al.length ++ (t.al.take (j + 1)).flatMap alL from by rw [e, List.take_length, HNE.out]; unfold tosL; simp only [List.append_assoc]))
       clear e
       go_wp2_with fail
       go_roundw
       case rel => exact ⟨j + 1, v', by simp, by omega, Lib.hid ⟨HS.out, HX.out.2.1⟩⟩
       case measure => simp only [RowKit.intOf]; omega
    ·have e : j = t.al.length := by omega
     have HS := Lib.hid (sole_l HH.out.1 (show _ = bytesT t from by rw [e, List.take_length, ← HX.out]; simp only [List.append_assoc]))
     have hLn2 := HAL.out t.al.length
     rw [List.take_length] at hLn2
     have hLen : (bytesT t).length ≤ 35184372088832 := by
      rw [← HX.out]
      simp [HTB.out, HBL.out] at hLn hLn2 ⊢
      omega
     have hd' : decide ((j : Int) < (t.al.length : Int)) = false := decide_eq_false (by omega)
     clear e HH
     go_wp2_with fail
     refine (sinkBytes_any gs v _ _ HS.out.sink hLen).mono ?_
     rintro e w8 ⟨vo, rfl, ho, hk⟩
     have HO := Lib.hid (ho.lower HS.out.keeps.size)
     have HK := Lib.hid (HS.out.keeps.trans hk)
     obtain ⟨po, no, co, rfl⟩ := ho.sl
     clear ho hk
     go_wp2_with fail
     go_ret
     exact ⟨_, rfl, HO.out, HK.out⟩
end Usr
end Go.Proofs.YtklbemkafdccgaaGreat

/- users: must, cause; a source beside a table. -/
namespace Go.Proofs.YtklbemkafdccgaaGreat
open Go.RowKit
namespace Usr
open Adr (Str)
open Oct (SrcAt SrcDid uE uA uV tE tA tL sgnV srcU_any srcI_any srcText_any)
open Mp Go.Maps
def panicE (er : Int) : Ending := .panicked [{ v := .iface 54 (.int .i64 er), recovered := false }]
theorem must_any (w : World) (g : Nat) (v : Value) (l : Str) (a : Nat) (er : Int) (h : SrcAt w g v l a er) : Calls Tryz.prog 63 #[.pointer (some ⟨g, 0, none⟩)] w fun e w' => w = w' ∧ ((er = 0 ∧ e = .returned (.tuple #[])) ∨ (er ≠ 0 ∧ e = panicE er)) := by
 obtain ⟨c0, c1, c2⟩ := h.cells
 clear h
 unfold panicE
 by_cases he : er = 0
 ·subst he
  go_enter Tryz.func63, Tryz.ntmps63
  go_wp2
  go_end0
  exact ⟨rfl, .inl ⟨trivial, rfl⟩⟩
 ·have e1 : (er != 0) = true := by simp [he]
  have HE := Lib.hid he
  clear he
  go_enter Tryz.func63, Tryz.ntmps63
  go_wp2
  exact ⟨rfl, rfl, .inr ⟨HE.out, rfl⟩⟩
theorem cause_any (w : World) (g : Nat) (v : Value) (l : Str) (a : Nat) (er : Int) (h : SrcAt w g v l a er) : Calls Tryz.prog 60 #[.pointer (some ⟨g, 0, none⟩)] w fun e w' => e = .returned (.int .i64 (if er = 2 then 2 else 3)) ∧ w = w' := by
 obtain ⟨c0, c1, c2⟩ := h.cells
 clear h
 by_cases he : er = 2
 ·subst he
  go_enter Tryz.func60, Tryz.ntmps60
  go_wp2
  go_ret
  exact ⟨rfl, rfl⟩
 ·have e1 : (er == 2) = false := by simp [he]
  rw [if_neg he]
  clear he
  go_enter Tryz.func60, Tryz.ntmps60
  go_wp2
  go_ret
  exact ⟨rfl, rfl⟩
/-- a table's blocks, a source's -/
structure RdAt (w : World) (gs : Nat) (v : Value) (l : Str) (a : Nat) (er : Int) (g b1 b2 n : Nat) (t : TabP) : Prop where
 src : SrcAt w gs v l a er
 tab : TabAt w g b1 b2 n t
def RFr (gs g b1 b2 : Nat) (x : Nat) : Prop := x = gs ∨ TFr g b1 b2 x
section
variable {w w' : World} {gs : Nat} {v : Value} {l : Str} {a : Nat} {er : Int} {g b1 b2 n : Nat} {t : TabP}
theorem RdAt.keeps (h : RdAt w gs v l a er g b1 b2 n t) (k : Keeps w w') : RdAt w' gs v l a er g b1 b2 n t := ⟨h.src.keeps k, h.tab.keeps k⟩
theorem TabAt.objs (h : TabAt w g b1 b2 n t) : ∀ x, TFr g b1 b2 x → ∀ cs e fr, e ≠ 84 → w.heap[x]? ≠ some (.cells cs e fr) := by
 obtain ⟨D, k1, -⟩ := h.us
 obtain ⟨E, av, k2, -⟩ := h.al
 obtain ⟨es, cl, e1⟩ := map_obj k1
 obtain ⟨es', cl', e2⟩ := map_obj k2
 rintro x (rfl | rfl | rfl) cs e fr hne hh
 ·have hb := h.blk
  unfold Blk at hb
  rw [hb] at hh
  simp only [Option.some.injEq, Obj.cells.injEq] at hh
  exact hne hh.2.1.symm
 ·rw [e1] at hh; cases hh
 ·rw [e2] at hh; cases hh
theorem SrcAt.own_ty (h : SrcAt w gs v l a er) : ∀ x, v.ownBlock = some x → ∃ cs fr, w.heap[x]? = some (.cells cs 5 fr) := by
 intro x hx
 rcases h.own.2 with ⟨rfl, _⟩ | ⟨q, cap, cur, rfl, _, hq, _⟩
 ·simp [Value.ownBlock] at hx
 ·simp [Value.ownBlock] at hx
  subst hx
  exact ⟨_, _, hq⟩
theorem RdAt.apart (h : RdAt w gs v l a er g b1 b2 n t) : ∀ x, Oct.Fr gs v x → ¬ TFr g b1 b2 x := by
 rintro x (rfl | hx) hT
 ·exact h.tab.objs x hT _ _ _ (by decide) h.src.blk
 ·obtain ⟨cs, fr, hc⟩ := SrcAt.own_ty h.src x hx
  exact h.tab.objs x hT _ _ _ (by decide) hc
theorem RdAt.did (h : RdAt w gs v l a er g b1 b2 n t) {a' : Nat} {er' : Int} (k : SrcAt w' gs v l a' er') (m : Mods (· = gs) w w') : RdAt w' gs v l a' er' g b1 b2 n t := by
 have ha := h.apart gs (.inl rfl)
 refine ⟨k, h.tab.mods m (fun e => ha (.inl e.symm)) (fun e => ha (.inr (.inl e.symm))) (fun e => ha (.inr (.inr e.symm))) ?_⟩
 rintro x rfl cs fr hh
 have hb := h.src.blk
 unfold Blk at hb
 rw [hb] at hh
 simp only [Option.some.injEq, Obj.cells.injEq] at hh
 exact absurd hh.2.1 (by decide)
theorem RdAt.act (h : RdAt w gs v l a er g b1 b2 n t) {n' : Nat} {t' : TabP} (k : TabAt w' g b1 b2 n' t') (m : Mods (TFr g b1 b2) w w') : RdAt w' gs v l a er g b1 b2 n' t' :=
 ⟨h.src.mods m (fun x hx => h.apart x hx), k⟩
end
theorem tL_len {l : Str} {a : Nat} {er : Int} {m : Nat} : (tL l a er m).length ≤ m := by
 unfold tL
 split
 ·rename_i hE
  unfold tE at hE
  by_cases hu : uE l.length a er 4 ≠ 0
  ·rw [if_pos hu] at hE; exact absurd hE hu
  rw [if_neg hu] at hE
  by_cases hm : (m : Int) < 0 ∨ (m : Int) < (Oct.getV l a 4 : Int)
  ·rw [if_pos hm] at hE; cases hE
  rw [List.length_take]
  omega
 ·simp
theorem uV_2 {l : Str} {a : Nat} {er : Int} {k : Nat} (hk : 1 ≤ k ∧ k ≤ 8) : uV l a er k < 256 ^ k := by
 unfold uV
 split
 ·unfold Oct.getV
  split
  ·refine Oct.valOf_lt' ?_
   rw [List.length_take]
   simp only [Int.toNat_natCast]
   exact Nat.min_le_left _ _
  ·exact Nat.pow_pos (by decide)
 ·exact Nat.pow_pos (by decide)
end Usr
end Go.Proofs.YtklbemkafdccgaaGreat

/- ref13: a table by value, its rows typed; what its acts answer. -/
namespace Go.Proofs.YtklbemkafdccgaaGreat
open Go.RowKit
/-- append in a region that draws: any slice that reads as news -/
theorem step_apps {P : Program} {w : World} {ops : Array Oper} {o : Oper} {a : Act} {K : Act → World → Prop} {Q : Exit → Act → World → Prop} {E : Prop} {t e : TypeId} {size bytes base : Nat} (he : ElemOkS P t e size bytes) (hsz : 0 < size) (hgd : o.guard = none) (s x : Operand)
  (ho : o.op = .call { callee := .builtin .append, args := #[s, x], argTypes := #[t, t] })
  (v xv : Value) (n m : Nat) (xs news : List Value) (hs : a.eval s = v) (hx : a.eval x = xv) (hown : w.ownsRow base e size v n xs) (hrow : RowS w size xv m news) (h1 : ∀ u ∈ news, u.oneCell' = true)
  (hb : (n + m) * bytes ≤ 70368744177664) (hbytes : 0 < bytes) (hbase : base ≤ w.heap.size)
  (h : ∀ v' w', w'.ownsRow base e size v' (n + m) (xs ++ news) → w.grownBy w' v.ownBlock → K (a.put o.dst v') w') :
  if Region.wanted o (yielded ops a.tmps) = true then Oper.wp P o a w K Q else E := by
 rcases hrow.2 with ⟨a0, cap, rfl, rfl, hc, h0⟩ | ⟨b, off, cap, rfl, h2, h3, h4⟩
 ·have hnews : news = [] := List.eq_nil_of_length_eq_zero (by simpa using hrow.1)
  cases a0 with
  |none =>
   obtain rfl := h0 rfl
   subst hnews
   have hw : Region.wanted o (yielded ops a.tmps) = true := by simp [Region.wanted, hgd]
   rw [if_pos hw]
   obtain ⟨i, z, hi, hz, hs', hby, hzs⟩ := he.hi
   have hrun := run_append_owned_none (P := P) (w := w) base t o.type e i size he.ht hi v n xs hown
   unfold Oper.wp execOp
   simp only [ho, resolve, invoke, builtin, Sem.run_bind, Sem.run_pure, Result.andThen_ok, List.map_toArray, List.map_cons, List.map_nil, hs, hx, hrun]
   exact h v w (by simpa using hown) ⟨rfl, rfl, rfl, Nat.le_refl _, fun _ _ _ => rfl⟩
  |some ad => exact Frm.step_app he hsz hgd s x ho v n 0 cap ad xs news hs hx hown (by simpa using hrow.1) (by subst hnews; simp) h1 hb hbytes hbase h
 ·exact Frm.step_app he hsz hgd s x ho v n m cap ⟨b, off, none⟩ xs news hs hx hown hrow.1 (fun j u hu => by rw [Go.WideShapes.add_plain]; exact h4 j u hu) h1 hb hbytes hbase h
namespace Usr
theorem owns_obj {w : World} {base C n : Nat} {e : TypeId} {v : Value} {xs : List Value} (h : w.ownsRow base e C v n xs) {y : Nat} (hy : v.ownBlock = some y) : ∃ cs, w.heap[y]? = some (.cells cs e (0, 0)) := by
 rcases h.2 with ⟨rfl, _⟩ | ⟨q, cap, cur, rfl, _, hgg, _⟩
 ·simp [Value.ownBlock] at hy
 ·simp [Value.ownBlock] at hy
  subst hy
  exact ⟨_, hgg⟩
theorem rowS_o {w : World} {base C n : Nat} {e : TypeId} {v : Value} {xs : List Value} (h : w.ownsRow base e C v n xs) : RowS w C v n xs := by
 refine ⟨h.1, ?_⟩
 rcases Nat.eq_zero_or_pos n with rfl | hn
 ·obtain ⟨p, cap, rfl, -, hc⟩ := Frm.ownsRow_form h
  rcases h.2 with ⟨hv, -⟩ | ⟨q, cap', cur, hv, -, -, -, h2, -⟩
  ·simp only [Value.slice.injEq] at hv
   exact .inl ⟨p, cap, rfl, rfl, by simpa [maxLen] using hc, fun _ => hv.2.2⟩
  ·simp only [Value.slice.injEq] at hv
   exact .inl ⟨p, cap, rfl, rfl, by simpa [maxLen] using hc, fun e => by rw [hv.1] at e; cases e⟩
 ·obtain ⟨g, cap, rfl, -, h2, h3, h4⟩ := Frm.ownsRow_at h hn
  exact .inr ⟨g, 0, cap, rfl, h2, by simpa [maxLen] using h3, fun i x hx => by rw [Nat.zero_add]; exact h4 i x hx⟩
theorem ownT {T : Nat → Prop} {w w' : World} {base : Nat} {v : Value} {e : TypeId} {l : List Value} (h : Own w base e v l) (k : Mods T w w') (hn : ∀ x, T x → ∀ cs fr, w.heap[x]? ≠ some (.cells cs e fr)) : Own w' base e v l := by
 refine Frm.ownsRow_mods h k (fun x hx hs => ?_)
 obtain ⟨cs, hh⟩ := owns_obj h hx
 exact hn x hs _ _ hh
theorem ownsZ {w : World} {base b : Nat} {e : TypeId} {C : Nat} (hb : b = w.heap.size) (hbase : base ≤ b) : (w.alloc (.cells #[] e)).ownsRow base e C (.slice (some ⟨b, 0, none⟩) 0 0) 0 [] := by
 subst hb
 refine ⟨by simp, .inr ⟨w.heap.size, 0, #[], rfl, hbase, ?_, Nat.le_refl _, Nat.zero_le _, by simp, by simp⟩⟩
 show (w.heap.push _)[w.heap.size]? = _
 simp
open Adr (Str)
open Mp Go.Maps
open Frm (ownsRow_keeps ownsRow_mods ownsRow_ne ownsRow_form ownsRow_base)
theorem rtM : Mids Tryz.prog 32 4 := ⟨⟨_, Tryz.underlying32, rfl⟩, by kernel_rfl⟩
theorem gotM : Mids Tryz.prog 86 6 := ⟨⟨_, Tryz.underlying86, rfl⟩, by kernel_rfl⟩
/-- a reference table in memory: its rows by their types -/
structure RT (w : World) (uv av : Value) (t : TabP) (L : List (AlP × Value)) : Prop where
 us : w.ownsRow 0 42 4 uv t.us.length (t.us.flatMap usC)
 al : w.ownsRow 0 108 2 av L.length (L.flatMap alC)
 alm : L.map (·.1) = t.al
 pay : ∀ x ∈ L, Own w 0 9 x.2 (x.1.tos.map strV)
theorem RT.tab {w : World} {uv av : Value} {t : TabP} {L : List (AlP × Value)} (h : RT w uv av t L) : RTab w uv av t L := ⟨rowS_o h.us, rowS_o h.al, h.alm, fun x hx => (h.pay x hx).row⟩
theorem RT.keeps {w w' : World} {uv av : Value} {t : TabP} {L : List (AlP × Value)} (h : RT w uv av t L) (k : Keeps w w') : RT w' uv av t L :=
 ⟨ownsRow_keeps h.us k, ownsRow_keeps h.al k, h.alm, fun x hx => (h.pay x hx).keeps k⟩
theorem RT.mods {w w' : World} {uv av : Value} {t : TabP} {L : List (AlP × Value)} {S : Nat → Prop} (h : RT w uv av t L) (k : Mods S w w') (hS : ∀ x, S x → ∀ cs e fr, (e = 42 ∨ e = 108 ∨ e = 9) → w.heap[x]? ≠ some (.cells cs e fr)) : RT w' uv av t L :=
 ⟨ownsRow_mods h.us k (fun x hx hs => by obtain ⟨cs, hh⟩ := owns_obj h.us hx; exact hS x hs _ _ _ (.inl rfl) hh),
  ownsRow_mods h.al k (fun x hx hs => by obtain ⟨cs, hh⟩ := owns_obj h.al hx; exact hS x hs _ _ _ (.inr (.inl rfl)) hh), h.alm,
  fun x hx => ownT (h.pay x hx) k (fun y hy cs fr => hS y hy cs _ fr (.inr (.inr rfl)))⟩
theorem RT.blk {w w' : World} {uv av : Value} {t : TabP} {L : List (AlP × Value)} {q : Nat} {ty : TypeId} {cs : Array Value} (h : RT w uv av t L) (k : Mods (· = q) w w') (hb : Blk w q ty cs) (hn : ty ≠ 42 ∧ ty ≠ 108 ∧ ty ≠ 9) : RT w' uv av t L :=
 h.mods k (fun x hx cs' e fr he hh => by
  subst hx
  rw [show w.heap[x]? = _ from hb] at hh
  simp only [Option.some.injEq, Obj.cells.injEq] at hh
  rcases he with rfl | rfl | rfl
  ·exact hn.1 hh.2.1
  ·exact hn.2.1 hh.2.1
  ·exact hn.2.2 hh.2.1)
theorem RT.forms {w : World} {uv av : Value} {t : TabP} {L : List (AlP × Value)} (h : RT w uv av t L) : ∃ pu cu pa ca, uv = .slice pu t.us.length cu ∧ av = .slice pa L.length ca ∧ t.us.length ≤ cu ∧ L.length ≤ ca := by
 obtain ⟨pu, cu, h1, h2, -⟩ := ownsRow_form h.us
 obtain ⟨pa, ca, h3, h4, -⟩ := ownsRow_form h.al
 exact ⟨pu, cu, pa, ca, h1, h3, h2, h4⟩
/-- what a reference act answers -/
def RGot (W : World) (r : TabP × Int × Int) (e : Ending) (w' : World) : Prop := ∃ uv av L, e = .returned (.agg #[.string (bstr r.1.dom), .int .i64 r.1.next, uv, av, .int .i64 r.2.1, .int .i64 r.2.2]) ∧ RT w' uv av r.1 L ∧ Keeps W w'
theorem usOk : ElemOkS Tryz.prog 29 42 4 40 := elemOkS (z := .agg #[.int .i64 0, .string (bstr []), .int .i64 0, .int .i64 0]) Tryz.underlying29 (by kernel_rfl) rfl
theorem alOk : ElemOkS Tryz.prog 30 108 2 40 := elemOkS (z := .agg #[.string (bstr []), .slice none 0 0]) Tryz.underlying30 (by kernel_rfl) rfl
theorem us_one (l : List UsrP) : ∀ u ∈ l.flatMap usC, u.oneCell' = true := by
 intro u hu
 obtain ⟨x, -, hx⟩ := List.mem_flatMap.1 hu
 simp only [usC, List.mem_cons, List.not_mem_nil, or_false] at hx
 rcases hx with rfl | rfl | rfl | rfl <;> rfl
theorem al_one {w : World} {l : List (AlP × Value)} (h : ∀ x ∈ l, Own w 0 9 x.2 (x.1.tos.map strV)) : ∀ u ∈ l.flatMap alC, u.oneCell' = true := by
 intro u hu
 obtain ⟨x, hm, hx⟩ := List.mem_flatMap.1 hu
 obtain ⟨p, n, c, he⟩ := (h x hm).sl
 simp only [alC, List.mem_cons, List.not_mem_nil, or_false] at hx
 rcases hx with rfl | rfl
 ·rfl
 ·rw [he]; rfl
theorem szU : ∀ w, (sizeOf 42).run Tryz.prog w = .ok 4 w := fun _ => by kernel_rfl
theorem szA : ∀ w, (sizeOf 108).run Tryz.prog w = .ok 2 w := fun _ => by kernel_rfl
end Usr
end Go.Proofs.YtklbemkafdccgaaGreat

/- users: readUsers. -/
namespace Go.Proofs.YtklbemkafdccgaaGreat
open Go.RowKit
namespace Usr
open Adr (Str)
open Oct (SrcAt SrcDid uE uA uV tE tA tL sgnV srcU_any srcI_any srcText_any)
open Mp Go.Maps
/-- what a part of the reading leaves: the table and an answer, or it gave up -/
def RdDid (W : World) (gs : Nat) (v : Value) (l : Str) (g b1 b2 n : Nat) (r : Option (TabP × Bool) × Nat × Int) (e : Ending) (w' : World) : Prop :=
 Mods (RFr gs g b1 b2) W w' ∧ SrcAt w' gs v l r.2.1 r.2.2 ∧
  ((∃ t good n', r.1 = some (t, good) ∧ e = .returned (.bool good) ∧ n' ≤ n + 300 ∧ TabAt w' g b1 b2 n' t) ∨ (r.1 = none ∧ r.2.2 ≠ 0 ∧ e = panicE r.2.2))
theorem stepU_bnd {s : TabP × Bool × Int} {num b c : Int} {name : Str} (h1 : 0 ≤ s.2.2 ∧ s.2.2 ≤ 999) (h2 : 0 ≤ num) : 0 ≤ (stepU s num name b c).2.2 ∧ (stepU s num name b c).2.2 ≤ 999 := by
 unfold stepU
 simp only
 have hr : (addU { s.1 with next := min (max num (s.2.2 + 1)) 1000 } name b c).2.1 = 0 ∨ (addU { s.1 with next := min (max num (s.2.2 + 1)) 1000 } name b c).2.1 = min (max num (s.2.2 + 1)) 1000 ∧ min (max num (s.2.2 + 1)) 1000 ≤ 999 := by
  unfold addU
  split
  ·exact .inl rfl
  split
  ·exact .inl rfl
  split
  ·exact .inl rfl
  split
  ·exact .inl rfl
  ·rename_i h
   simp only [not_or] at h
   exact .inr ⟨rfl, by have := h.2; omega⟩
 rcases hr with hr | ⟨hr, h3⟩
 ·rw [hr]; omega
 ·rw [hr]; omega
set_option maxRecDepth 100000 in
set_option maxHeartbeats 4000000 in
theorem readUsers_any (w : World) (gs : Nat) (v : Value) (l : Str) (a : Nat) (er : Int) (g b1 b2 n : Nat) (t : TabP) (h : RdAt w gs v l a er g b1 b2 n t) (hn : n ≤ 100000) : Calls Tryz.prog 64 #[.pointer (some ⟨gs, 0, none⟩), .pointer (some ⟨g, 0, none⟩)] w (RdDid w gs v l g b1 b2 n ((rdUsers t).run l a er)) := by
 have CU := Lib.hid (srcU_any gs v l a er 1 w h.src)
 have HH0 := Lib.hid h
 have hc := uV_2 (l := l) (a := a) (er := er) (k := 1) (by omega)
 have HRUN := Lib.hid (show (rdUsers t).run l a er = match (rdUs (uV l a er 1) (t, true, 0)).run l (uA l.length a er 1) (uE l.length a er 1) with | (some x, a', er') => (some (x.1, x.2.1), a', er') | (none, a', er') => (none, a', er') from by
  unfold rdUsers
  simp only [Rd.run]
  rw [Rd.run_bind, show ((1 : Nat) : Int) = 1 from rfl]
  generalize (rdUs (uV l a er 1) (t, true, 0)).run l (uA l.length a er 1) (uE l.length a er 1) = q
  obtain ⟨o, a', e'⟩ := q
  cases o <;> rfl)
 generalize (rdUsers t).run l a er = R at *
 obtain ⟨c, hcc⟩ : ∃ c, uV l a er 1 = c := ⟨_, rfl⟩
 rw [show ((1 : Nat) : Int) = 1 from rfl, hcc] at hc
 rw [hcc] at CU HRUN
 have hc2 : c < 256 := hc
 clear h hc hcc
 go_enter Tryz.func64, Tryz.ntmps64
 go_wp2_with fail
 refine CU.out.mono ?_
 rintro e w1 ⟨rfl, hs, hm⟩
 have HR1 := Lib.hid (HH0.out.did hs hm)
 have HM1 := Lib.hid (show Mods (RFr gs g b1 b2) w w1 from hm.mono (fun x hx => .inl hx))
 generalize uA l.length a er 1 = a1 at *
 generalize uE l.length a er 1 = e1 at *
 clear hs hm CU
 go_wp2_with fail
 go_loopw [14, 5, 6] (fun iv gv lv wr => ∃ (j : Nat) (s : TabP × Bool × Int) (aj : Nat) (ej : Int), iv = .int .u64 (j : Int) ∧ j ≤ c ∧ gv = .bool s.2.1 ∧ lv = .int .i64 s.2.2 ∧ (0 ≤ s.2.2 ∧ s.2.2 ≤ 999) ∧ Hid (RdAt wr gs v l aj ej g b1 b2 (n + j) s.1 ∧ Mods (RFr gs g b1 b2) w wr ∧ (rdUs (c - j) s).run l aj ej = (rdUs c (t, true, 0)).run l a1 e1)) (fun iv _ _ _ => c - (RowKit.intOf iv).toNat)
 case atStart => exact ⟨0, (t, true, 0), a1, e1, rfl, Nat.zero_le _, rfl, rfl, ⟨by simp, by simp⟩, Lib.hid ⟨HR1.out, HM1.out, rfl⟩⟩
 case round =>
  obtain ⟨j, s, aj, ej, rfl, hj, rfl, rfl, hl0, HH⟩ := hrel
  obtain ⟨wz, rfl⟩ : ∃ z : World, z = wr := ⟨_, rfl⟩
  clear HR1 HM1
  obtain ⟨st, sg, sl⟩ := s
  simp only at hl0 HH ⊢
  by_cases hlt : j < c
  ·have hd : decide ((j : Int) < (c : Int)) = true := decide_eq_true (by omega)
   have HQ := Lib.hid (show (rdUs (c - j) (st, sg, sl)).run l aj ej = (rdUs (c - (j + 1) + 1) (st, sg, sl)).run l aj ej from by rw [show c - (j + 1) + 1 = c - j from by omega])
   have CU := Lib.hid (srcU_any gs v l aj ej 2 wz HH.out.1.src)
   have hv2 := uV_2 (l := l) (a := aj) (er := ej) (k := 2) (by omega)
   have HX := Lib.hid HH.out.2.2
   rw [HQ.out] at HX
   simp only [rdUs, Rd.run] at HX
   rw [show ((2 : Nat) : Int) = 2 from rfl, show ((8 : Nat) : Int) = 8 from rfl, show ((maxP : Nat) : Int) = 65536 from rfl] at HX
   rw [show ((2 : Nat) : Int) = 2 from rfl, show 256 ^ 2 = 65536 from rfl] at hv2
   generalize uV l aj ej 2 = num at *
   generalize uA l.length aj ej 2 = a2 at *
   generalize uE l.length aj ej 2 = e2 at *
   have hwn : IntKind.i64.wrap (num : Int) = (num : Int) := IntWalk.i64_in _ (by omega)
   clear HQ
   go_wp2_with fail
   refine CU.out.mono ?_
   rintro e w2 ⟨rfl, hs, hm⟩
   have HR := Lib.hid (HH.out.1.did hs hm)
   have HM := Lib.hid (show Mods (RFr gs g b1 b2) w w2 from HH.out.2.1.trans hm (fun x hx _ => .inl hx))
   clear hs hm CU
   have CT := Lib.hid (srcText_any gs v l a2 e2 65536 w2 HR.out.src (by decide) (by decide))
   have htl := tL_len (l := l) (a := a2) (er := e2) (m := 65536)
   rw [show ((65536 : Nat) : Int) = 65536 from rfl] at htl
   generalize tL l a2 e2 65536 = nm at *
   generalize tA l a2 e2 65536 = a3 at *
   generalize tE l a2 e2 65536 = e3 at *
   go_wp2_with fail
   refine CT.out.mono ?_
   rintro e w3 ⟨rfl, hs, hm⟩
   have HM := Lib.hid (show Mods (RFr gs g b1 b2) w w3 from HM.out.trans hm (fun x hx _ => .inl hx))
   have HR := Lib.hid (HR.out.did hs hm)
   clear hs hm CT
   have CB := Lib.hid (srcI_any gs v l a3 e3 8 w3 HR.out.src)
   generalize sgnV (uV l a3 e3 8) 8 = bb at *
   generalize uA l.length a3 e3 8 = a4 at *
   generalize uE l.length a3 e3 8 = e4 at *
   go_wp2_with fail
   refine CB.out.mono ?_
   rintro e w4 ⟨rfl, hs, hm⟩
   have HM := Lib.hid (show Mods (RFr gs g b1 b2) w w4 from HM.out.trans hm (fun x hx _ => .inl hx))
   have HR := Lib.hid (HR.out.did hs hm)
   clear hs hm CB
   have CC := Lib.hid (srcI_any gs v l a4 e4 8 w4 HR.out.src)
   generalize sgnV (uV l a4 e4 8) 8 = cc at *
   generalize uA l.length a4 e4 8 = a5 at *
   generalize uE l.length a4 e4 8 = e5 at *
   go_wp2_with fail
   refine CC.out.mono ?_
   rintro e w5 ⟨rfl, hs, hm⟩
   have HM := Lib.hid (show Mods (RFr gs g b1 b2) w w5 from HM.out.trans hm (fun x hx _ => .inl hx))
   have HR := Lib.hid (HR.out.did hs hm)
   clear hs hm CC
   go_upto_region 7 with fail
   obtain ⟨q, hq⟩ : ∃ q, w5.heap.size = q := ⟨_, rfl⟩
   obtain ⟨w6, hw6⟩ : ∃ z, w5.alloc (.cells #[.int .i64 bb, .int .i64 cc] 36) = z := ⟨_, rfl⟩
   have HK6 := Lib.hid (show Keeps w5 w6 from by rw [← hw6]; exact (Keeps.refl _).alloc _)
   have HB := Lib.hid (show Blk w6 q 36 #[.int .i64 bb, .int .i64 cc] from by rw [← hw6]; exact Blk.new _ _ _ hq.symm)
   rw [hw6, hq]
   have HR := Lib.hid (HR.out.keeps HK6.out)
   have HM := Lib.hid (HM.out.then HK6.out)
   clear hw6 hq HK6 HH
   go_wp2_with fail
   refine (must_any w6 gs v l a5 e5 HR.out.src).mono ?_
   rintro e w7 ⟨rfl, ⟨rfl, rfl⟩ | ⟨hne, rfl⟩⟩
   ·obtain ⟨-, c1, -, -⟩ := HR.out.tab.cells
    have f1 : w6.frozen? ⟨g, 1, none⟩ = false := HR.out.tab.blk.frozen 1
    have hws : IntKind.i64.wrap (sl + 1) = sl + 1 := IntWalk.i64_in _ (by omega)
    go_upto_region 9 with fail
    obtain ⟨nx, hnx⟩ : ∃ nx, min (max (num : Int) (sl + 1)) 1000 = nx := ⟨_, rfl⟩
    have hnx2 : 1 ≤ nx ∧ nx ≤ 1000000 := by omega
    obtain ⟨hTn, hMn⟩ := HR.out.tab.setNext nx
    have hqg : q ≠ g := Frm.blk_tyne HB.out HR.out.tab.blk (by decide)
    have HBn := Lib.hid (HB.out.far (p := ⟨g, 1, none⟩) hqg (.int .i64 nx))
    rw [hnx]
    have HR := Lib.hid (HR.out.act hTn (hMn.mono (fun x hx => .inl hx)))
    have HM := Lib.hid (HM.out.trans hMn (fun x hx _ => .inr (.inl hx)))
    have HSU := Lib.hid (show stepU (st, sg, sl) (num : Int) nm bb cc = ((addU { st with next := nx } nm bb cc).1, sg && decide ((addU { st with next := nx } nm bb cc).2.2 = 0) && decide ((addU { st with next := nx } nm bb cc).2.1 = (num : Int)), max sl (addU { st with next := nx } nm bb cc).2.1) from by rw [← hnx]; rfl)
    have HBD := Lib.hid (stepU_bnd (s := (st, sg, sl)) (num := (num : Int)) (b := bb) (c := cc) (name := nm) hl0 (by omega))
    generalize w6.setCell ⟨g, 1, none⟩ (.int .i64 nx) = w7 at *
    have CA := Lib.hid (addUser_any w7 g b1 b2 (n + j) { st with next := nx } HR.out.tab hnx2 (by omega) nm (by omega) bb cc)
    unfold Acted at CA
    generalize addU { st with next := nx } nm bb cc = r at *
    obtain ⟨rt, rn, re⟩ := r
    simp only at HSU CA
    have q0 : w7.cell? ⟨q, 0, none⟩ = some (.int .i64 bb) := by rw [HBn.out.cell]; rfl
    have q1 : w7.cell? ⟨q, 1, none⟩ = some (.int .i64 cc) := by rw [HBn.out.cell]; rfl
    clear hTn hMn hqg c1 f1 hws hnx hnx2 HB
    go_wp2_with fail
    refine CA.out.mono ?_
    rintro e w8 ⟨rfl, hT, hMa⟩
    have HRn := Lib.hid (HR.out.act hT hMa)
    have HMn := Lib.hid (HM.out.trans hMa (fun x hx _ => .inr hx))
    clear hT hMa CA q0 q1
    go_upto_region 10 with fail
    obtain ⟨be, hbe⟩ : ∃ z, (re == 0) = z := ⟨_, rfl⟩
    obtain ⟨bn, hbn⟩ : ∃ z, (rn == (num : Int)) = z := ⟨_, rfl⟩
    have HS2 := Lib.hid (show stepU (st, sg, sl) (num : Int) nm bb cc = (rt, sg && be && bn, max sl rn) from by
     rw [HSU.out, ← hbe, ← hbn]
     rfl)
    have HX2 := Lib.hid (show (rdUs (c - (j + 1)) (rt, sg && be && bn, max sl rn)).run l a5 0 = (rdUs c (t, true, 0)).run l a1 e1 from by
     rw [← HX.out, if_pos trivial, HS2.out])
    have hmx : 0 ≤ max sl rn ∧ max sl rn ≤ 999 := by have := HBD.out; rw [HS2.out] at this; exact this
    have HMX := Lib.hid hmx
    clear hmx HSU HBD HX HS2
    have HLAST : ∀ (gd : Bool), (sg && be && bn) = gd → Hid (RdAt w8 gs v l a5 0 g b1 b2 (n + (j + 1)) rt ∧ Mods (RFr gs g b1 b2) w w8 ∧ (rdUs (c - (j + 1)) (rt, gd, max sl rn)).run l a5 0 = (rdUs c (t, true, 0)).run l a1 e1) := fun gd hgd => Lib.hid ⟨HRn.out, HMn.out, by rw [← hgd]; exact HX2.out⟩
    have HLS := Lib.hid HLAST
    clear HLAST
    cases sg with
    |false =>
     go_wp2_with fail
     go_roundw
     case rel => exact ⟨j + 1, (rt, false, max sl rn), a5, 0, by simp, by omega, rfl, rfl, HMX.out, HLS.out false (by simp)⟩
     case measure => simp only [RowKit.intOf]; omega
    |true =>
    cases be with
    |false =>
     go_wp2_with fail
     go_roundw
     case rel => exact ⟨j + 1, (rt, false, max sl rn), a5, 0, by simp, by omega, rfl, rfl, HMX.out, HLS.out false (by simp)⟩
     case measure => simp only [RowKit.intOf]; omega
    |true =>
    cases bn with
    |false =>
     go_wp2_with fail
     go_roundw
     case rel => exact ⟨j + 1, (rt, false, max sl rn), a5, 0, by simp, by omega, rfl, rfl, HMX.out, HLS.out false (by simp)⟩
     case measure => simp only [RowKit.intOf]; omega
    |true =>
     go_wp2_with fail
     go_roundw
     case rel => exact ⟨j + 1, (rt, true, max sl rn), a5, 0, by simp, by omega, rfl, rfl, HMX.out, HLS.out true (by simp)⟩
     case measure => simp only [RowKit.intOf]; omega
   ·have HX2 := Lib.hid (show R = (none, a5, e5) from by rw [HRUN.out, ← HX.out, if_neg hne])
    have HNE := Lib.hid hne
    clear hne
    unfold panicE
    go_wp2_with fail
    refine ⟨rfl, ?_⟩
    unfold RdDid
    rw [HX2.out]
    exact ⟨HM.out, HR.out.src, .inr ⟨rfl, HNE.out, rfl⟩⟩
  ·have hjc : j = c := by omega
   have HX2 := Lib.hid (show R = (some (st, sg), aj, ej) from by
    have h1 := HH.out.2.2
    rw [show c - j = 0 from by omega] at h1
    rw [HRUN.out, ← h1]
    rfl)
   have hd : decide ((j : Int) < (c : Int)) = false := decide_eq_false (by omega)
   go_wp2_with fail
   go_ret
   unfold RdDid
   rw [HX2.out]
   exact ⟨HH.out.2.1, HH.out.1.src, .inl ⟨st, sg, n + j, rfl, rfl, by omega, HH.out.1.tab⟩⟩
end Usr
end Go.Proofs.YtklbemkafdccgaaGreat

/- users: readAliases. -/
namespace Go.Proofs.YtklbemkafdccgaaGreat
open Go.RowKit
namespace Usr
open Adr (Str)
open Oct (SrcAt SrcDid uE uA uV tE tA tL sgnV srcU_any srcI_any srcText_any)
open Mp Go.Maps
theorem strok3 : ElemOk Tryz.prog 37 9 16 := elemOk (z := .string (bstr [])) Tryz.underlying37 (by kernel_rfl) rfl
theorem less_lt : ∀ a b : Str, Op.bytesLess a b = ltS a b
 | [], [] => rfl
 | _ :: _, [] => rfl
 | [], _ :: _ => rfl
 |a :: x, b :: y => by
  have ih := less_lt x y
  unfold Op.bytesLess ltS
  rw [ih]
  rfl
theorem ltS_gt (a b : Str) : ltS a b = true ↔ (Op.bytesLess (bstr b).toList (bstr a).toList = false ∧ ¬ (bstr b).toList = (bstr a).toList) := by
 rw [bstr_toList, bstr_toList, less_lt, ltS_lt]
 constructor
 ·intro h
  refine ⟨?_, fun e => List.lt_irrefl _ (e ▸ h)⟩
  rw [Bool.eq_false_iff]
  intro h2
  rw [ltS_lt] at h2
  exact List.lt_asymm h h2
 ·rintro ⟨h1, h2⟩
  have h3 : ¬ b < a := fun h => by rw [(ltS_lt b a).2 h] at h1; cases h1
  exact Classical.byContradiction fun h => h2 (List.le_antisymm (List.not_lt.1 h) (List.not_lt.1 h3))
theorem tos_src {w w' : World} {base : Nat} {gs : Nat} {v tv : Value} {l : Str} {a : Nat} {er : Int} {T : List Value} (h : Own w base 9 tv T) (hs : SrcAt w gs v l a er) (m : Mods (· = gs) w w') : Own w' base 9 tv T :=
 h.mods m (fun x hx e => Own.blk_ne h hs.blk (by decide) (by rw [hx, e]))
set_option maxRecDepth 100000 in
set_option maxHeartbeats 4000000 in
theorem readAliases_any (w : World) (gs : Nat) (v : Value) (l : Str) (a : Nat) (er : Int) (g b1 b2 n : Nat) (t : TabP) (h : RdAt w gs v l a er g b1 b2 n t) (hn : n ≤ 100000) : Calls Tryz.prog 65 #[.pointer (some ⟨gs, 0, none⟩), .pointer (some ⟨g, 0, none⟩)] w (RdDid w gs v l g b1 b2 n ((rdAliases t).run l a er)) := by
 have CU := Lib.hid (srcU_any gs v l a er 1 w h.src)
 have HH0 := Lib.hid h
 have hc := uV_2 (l := l) (a := a) (er := er) (k := 1) (by omega)
 have HRUN := Lib.hid (show (rdAliases t).run l a er = match (rdAl (uV l a er 1) (t, true, [])).run l (uA l.length a er 1) (uE l.length a er 1) with | (some x, a', er') => (some (x.1, x.2.1), a', er') | (none, a', er') => (none, a', er') from by
  unfold rdAliases
  simp only [Rd.run]
  rw [Rd.run_bind, show ((1 : Nat) : Int) = 1 from rfl]
  generalize (rdAl (uV l a er 1) (t, true, [])).run l (uA l.length a er 1) (uE l.length a er 1) = q
  obtain ⟨o, a', e'⟩ := q
  cases o <;> rfl)
 generalize (rdAliases t).run l a er = R at *
 obtain ⟨c, hcc⟩ : ∃ c, uV l a er 1 = c := ⟨_, rfl⟩
 rw [show ((1 : Nat) : Int) = 1 from rfl, hcc] at hc
 rw [hcc] at CU HRUN
 have hc2 : c < 256 := hc
 clear h hc hcc
 go_enter Tryz.func65, Tryz.ntmps65
 go_wp2_with fail
 refine CU.out.mono ?_
 rintro e w1 ⟨rfl, hs, hm⟩
 have HR1 := Lib.hid (HH0.out.did hs hm)
 have HM1 := Lib.hid (show Mods (RFr gs g b1 b2) w w1 from hm.mono (fun x hx => .inl hx))
 generalize uA l.length a er 1 = a1 at *
 generalize uE l.length a er 1 = e1 at *
 clear hs hm CU
 go_wp2_with fail
 go_loopw [11, 5, 6] (fun iv gv lv wr => ∃ (j : Nat) (s : TabP × Bool × Str) (aj : Nat) (ej : Int), iv = .int .u64 (j : Int) ∧ j ≤ c ∧ gv = .bool s.2.1 ∧ lv = .string (bstr s.2.2) ∧ Hid (RdAt wr gs v l aj ej g b1 b2 (n + j) s.1 ∧ Mods (RFr gs g b1 b2) w wr ∧ (rdAl (c - j) s).run l aj ej = (rdAl c (t, true, [])).run l a1 e1)) (fun iv _ _ _ => c - (RowKit.intOf iv).toNat)
 case atStart => exact ⟨0, (t, true, []), a1, e1, rfl, Nat.zero_le _, rfl, rfl, Lib.hid ⟨HR1.out, HM1.out, rfl⟩⟩
 case round =>
  obtain ⟨j, s, aj, ej, rfl, hj, rfl, rfl, HH⟩ := hrel
  obtain ⟨wz, rfl⟩ : ∃ z : World, z = wr := ⟨_, rfl⟩
  clear HR1 HM1
  obtain ⟨st, sg, sa⟩ := s
  simp only at HH ⊢
  by_cases hlt : j < c
  ·have hd : decide ((j : Int) < (c : Int)) = true := decide_eq_true (by omega)
   have HQ := Lib.hid (show (rdAl (c - j) (st, sg, sa)).run l aj ej = (rdAl (c - (j + 1) + 1) (st, sg, sa)).run l aj ej from by rw [show c - (j + 1) + 1 = c - j from by omega])
   have CT := Lib.hid (srcText_any gs v l aj ej 65536 wz HH.out.1.src (by decide) (by decide))
   have htl := tL_len (l := l) (a := aj) (er := ej) (m := 65536)
   rw [show ((65536 : Nat) : Int) = 65536 from rfl] at htl
   have HX := Lib.hid HH.out.2.2
   rw [HQ.out] at HX
   simp only [rdAl, Rd.run] at HX
   rw [show ((1 : Nat) : Int) = 1 from rfl, show ((maxP : Nat) : Int) = 65536 from rfl] at HX
   generalize tL l aj ej 65536 = nm at *
   generalize tA l aj ej 65536 = a2 at *
   generalize tE l aj ej 65536 = e2 at *
   clear HQ
   go_wp2_with fail
   refine CT.out.mono ?_
   rintro e w2 ⟨rfl, hs, hm⟩
   have HR := Lib.hid (HH.out.1.did hs hm)
   have HM := Lib.hid (show Mods (RFr gs g b1 b2) w w2 from HH.out.2.1.trans hm (fun x hx _ => .inl hx))
   clear hs hm CT
   have CU := Lib.hid (srcU_any gs v l a2 e2 1 w2 HR.out.src)
   have hk2 := uV_2 (l := l) (a := a2) (er := e2) (k := 1) (by omega)
   rw [show ((1 : Nat) : Int) = 1 from rfl, show 256 ^ 1 = 256 from rfl] at hk2
   generalize uV l a2 e2 1 = kk at *
   generalize uA l.length a2 e2 1 = a3 at *
   generalize uE l.length a2 e2 1 = e3 at *
   go_wp2_with fail
   refine CU.out.mono ?_
   rintro e w3 ⟨rfl, hs, hm⟩
   have HM := Lib.hid (show Mods (RFr gs g b1 b2) w w3 from HM.out.trans hm (fun x hx _ => .inl hx))
   have HR := Lib.hid (HR.out.did hs hm)
   have HSZ := Lib.hid (show w.heap.size ≤ w3.heap.size from HM.out.size)
   clear hs hm CU HH
   rw [Rd.run_bind] at HX
   have HI0 := Lib.hid HR.out.src
   go_wp2_with fail
   go_loopw [17, 8] (fun kv tv wr => ∃ (i : Nat) (T : List Str) (pt : Option Addr) (ct : Nat) (ai : Nat) (ei : Int), kv = .int .u64 (i : Int) ∧ i ≤ kk ∧ T.length = i ∧ tv = .slice pt i ct ∧ Hid (SrcAt wr gs v l ai ei ∧ Mods (· = gs) w3 wr ∧ (rdTos (kk - i) T).run l ai ei = (rdTos kk []).run l a3 e3 ∧ Own wr w3.heap.size 9 (.slice pt i ct) (T.map strV) ∧ ∀ x ∈ T, x.length ≤ 65536)) (fun kv _ _ => kk - (RowKit.intOf kv).toNat)
   case atStart => exact ⟨0, [], none, 0, a3, e3, rfl, Nat.zero_le _, rfl, rfl, Lib.hid ⟨HI0.out, Mods.refl _ _, rfl, Own.nil _ _ _, fun x hx => by cases hx⟩⟩
   case round =>
    obtain ⟨i, T, pt, ct, ai, ei, rfl, hi, hTl, rfl, HI⟩ := hrel
    obtain ⟨wq, rfl⟩ : ∃ z : World, z = wr := ⟨_, rfl⟩
    have HTl := Lib.hid hTl
    clear HI0 hTl
    by_cases hik : i < kk
    ·have hd2 : decide ((i : Int) < (kk : Int)) = true := decide_eq_true (by omega)
     have HQ := Lib.hid (show (rdTos (kk - i) T).run l ai ei = (rdTos (kk - (i + 1) + 1) T).run l ai ei from by rw [show kk - (i + 1) + 1 = kk - i from by omega])
     have HY := Lib.hid HI.out.2.2.1
     rw [HQ.out] at HY
     simp only [rdTos, Rd.run] at HY
     rw [show ((maxP : Nat) : Int) = 65536 from rfl] at HY
     have CT := Lib.hid (srcText_any gs v l ai ei 65536 wq HI.out.1 (by decide) (by decide))
     have htl2 := tL_len (l := l) (a := ai) (er := ei) (m := 65536)
     rw [show ((65536 : Nat) : Int) = 65536 from rfl] at htl2
     generalize tL l ai ei 65536 = X at *
     generalize tA l ai ei 65536 = a4 at *
     generalize tE l ai ei 65536 = e4 at *
     clear HQ
     go_wp2_with fail
     refine CT.out.mono ?_
     rintro e w4 ⟨rfl, hs, hm⟩
     have HO := Lib.hid (tos_src HI.out.2.2.2.1 HI.out.1 hm)
     have HS := Lib.hid hs
     have HM4 := Lib.hid (show Mods (· = gs) w3 w4 from HI.out.2.1.trans hm (fun x hx _ => hx))
     clear hs hm CT
     go_upto_region 9 with (at_builtin; refine wpList_app1 (base := w3.heap.size) strok3 rfl _ _ rfl (.slice pt i ct) (.slice (some ⟨w4.heap.size, 0, none⟩) 1 1) (T.map strV) [.string (bstr X)] rfl rfl (HO.out.alloc _) (row_one rfl) (by simp [Value.oneCell']) (by have := HTl.out; simp; omega) (by omega) (Nat.le_trans HM4.out.size ((Keeps.refl w4).alloc _).size) ?_; intro v5 w5 ho5 hg5 hf5; have HV := Lib.hid (And.intro ho5 hg5); clear ho5 hg5 hf5)
     obtain ⟨p5, c5, hv5, -, -⟩ := HV.out.1.row.form
     rw [show (T.map strV ++ ([Value.string (bstr X)] : List Value)).length = i + 1 from by simp [HTl.out]] at hv5
     subst hv5
     have HO5 := Lib.hid (show Own w5 w3.heap.size 9 (.slice p5 (i + 1) c5) ((T ++ [X]).map strV) from by rw [List.map_append]; exact HV.out.1)
     have HS5 := Lib.hid (show SrcAt w5 gs v l a4 e4 from by
      have h1 : SrcAt (w4.alloc (.cells #[.string (bstr X)] 9)) gs v l a4 e4 := HS.out.keeps ((Keeps.refl _).alloc _)
      have h2 : Own (w4.alloc (.cells #[.string (bstr X)] 9)) w3.heap.size 9 (.slice pt i ct) (T.map strV) := HO.out.alloc _
      refine h1.mods ((Mods.refl (fun x => (Value.slice pt i ct).ownBlock = some x) _).grown HV.out.2 (fun k hk _ => hk)) ?_
      rintro x (rfl | hx) he
      ·exact Own.blk_ne h2 h1.blk (by decide) he
      ·obtain ⟨cs, fr, hc⟩ := SrcAt.own_ty h1 x hx
       exact Frm.ownsRow_ty h2 (by decide) x he _ _ hc)
     have HM5 := Lib.hid (show Mods (· = gs) w3 w5 from (HM4.out.alloc _).grown HV.out.2 (fun k hk hlt => by have := HO.out.base k hk; omega))
     clear HV HO HS HM4
     go_wp2_with fail
     refine (must_any w5 gs v l a4 e4 HS5.out).mono ?_
     rintro e w6 ⟨rfl, ⟨rfl, rfl⟩ | ⟨hne, rfl⟩⟩
     ·have HZ := Lib.hid (show (rdTos (kk - (i + 1)) (T ++ [X])).run l a4 0 = (rdTos kk []).run l a3 e3 from by rw [← HY.out, if_pos rfl])
      have HTX := Lib.hid (show ∀ x ∈ T ++ [X], x.length ≤ 65536 from fun x hx => (List.mem_append.1 hx).elim (HI.out.2.2.2.2 x) (fun e => by simp at e; subst e; exact htl2))
      go_wp2_with fail
      go_roundw
      case rel => exact ⟨i + 1, T ++ [X], p5, c5, a4, 0, by simp, by omega, by simp [HTl.out], rfl, Lib.hid ⟨HS5.out, HM5.out, HZ.out, HO5.out, HTX.out⟩⟩
      case measure => simp only [RowKit.intOf]; omega
     ·have HX2 := Lib.hid (show R = (none, a4, e4) from by
       have h1 : (rdTos kk []).run l a3 e3 = (none, a4, e4) := by rw [← HY.out, if_neg hne]
       rw [HRUN.out, ← HX.out, h1])
      have HNE := Lib.hid hne
      clear hne
      unfold panicE
      go_wp2_with fail
      refine ⟨rfl, ?_⟩
      unfold RdDid
      rw [HX2.out]
      exact ⟨HM.out.trans HM5.out (fun x hx _ => .inl hx), HS5.out, .inr ⟨rfl, HNE.out, rfl⟩⟩
    ·have hik2 : i = kk := by omega
     have HY := Lib.hid (show (rdTos kk []).run l a3 e3 = (some T, ai, ei) from by
      have h1 := HI.out.2.2.1
      rw [show kk - i = 0 from by omega] at h1
      rw [← h1]; rfl)
     rw [HY.out] at HX
     simp only [Rd.run] at HX
     have HRw := Lib.hid (HR.out.did HI.out.1 HI.out.2.1)
     have HMw := Lib.hid (HM.out.trans HI.out.2.1 (fun x hx _ => .inl hx))
     have hd2 : decide ((i : Int) < (kk : Int)) = false := decide_eq_false (by omega)
     clear hik2
     go_wp2_with fail
     refine (must_any wq gs v l ai ei HI.out.1).mono ?_
     rintro e w6 ⟨rfl, ⟨rfl, rfl⟩ | ⟨hne, rfl⟩⟩
     ·rw [if_pos rfl] at HX
      obtain ⟨bg, hbg⟩ : ∃ z, ltS sa nm = z := ⟨_, rfl⟩
      have HBG := Lib.hid hbg
      cases sg with
      |false =>
       have HS2 := Lib.hid (show stepA (st, false, sa) nm T = (st, false, nm) from by unfold stepA; simp)
       go_wp2_with fail
       all_goals exact ⟨⟨j + 1, (st, false, nm), ai, 0, by simp, by omega, rfl, rfl, Lib.hid ⟨⟨HRw.out.src, HRw.out.tab.mono (by omega)⟩, HMw.out, by rw [← HX.out, HS2.out]⟩⟩, by simp only [RowKit.intOf]; omega⟩
      |true =>
       by_cases hlt3 : ltS sa nm = true
       ·obtain ⟨k1, k2⟩ := (ltS_gt sa nm).1 hlt3
        have k3 : ((bstr nm).toList == (bstr sa).toList) = false := by simpa using k2
        have HS2 := Lib.hid (show stepA (st, true, sa) nm T = ((addA st nm T).1, decide ((addA st nm T).2.2 = 0), nm) from by unfold stepA; simp [hlt3])
        have CA := Lib.hid (addAlias_any wq g b1 b2 (n + j) st HRw.out.tab (by omega) nm (by omega) (.slice pt i ct) T HI.out.2.2.2.1.row (fun x hx => by have := HI.out.2.2.2.2 x hx; omega) (by have := HTl.out; omega))
        unfold ActedE at CA
        generalize addA st nm T = r at *
        obtain ⟨rt, rn, re⟩ := r
        simp only at HS2 CA
        clear hbg HBG hlt3
        go_wp2_with fail
        refine CA.out.mono ?_
        rintro e w8 ⟨rfl, hT, hMa⟩
        have HRn := Lib.hid (HRw.out.act hT hMa)
        have HMn := Lib.hid (HMw.out.trans hMa (fun x hx _ => .inr hx))
        clear hT hMa CA
        obtain ⟨be, hbe⟩ : ∃ z, (re == 0) = z := ⟨_, rfl⟩
        have HX3 := Lib.hid (show (rdAl (c - (j + 1)) (rt, be, nm)).run l ai 0 = (rdAl c (t, true, [])).run l a1 e1 from by
         rw [← HX.out, HS2.out, ← hbe]
         rfl)
        cases be with
        |false =>
         go_wp2_with fail
         all_goals exact ⟨⟨j + 1, (rt, false, nm), ai, 0, by simp, by omega, rfl, rfl, Lib.hid ⟨HRn.out, HMn.out, HX3.out⟩⟩, by simp only [RowKit.intOf]; omega⟩
        |true =>
         go_wp2_with fail
         all_goals exact ⟨⟨j + 1, (rt, true, nm), ai, 0, by simp, by omega, rfl, rfl, Lib.hid ⟨HRn.out, HMn.out, HX3.out⟩⟩, by simp only [RowKit.intOf]; omega⟩
       ·have HS2 := Lib.hid (show stepA (st, true, sa) nm T = (st, false, nm) from by unfold stepA; simp [hlt3])
        have k0 : ¬ (Op.bytesLess (bstr nm).toList (bstr sa).toList = false ∧ ¬ (bstr nm).toList = (bstr sa).toList) := fun k => hlt3 ((ltS_gt sa nm).2 k)
        clear hbg HBG hlt3
        by_cases k1 : Op.bytesLess (bstr nm).toList (bstr sa).toList = true
        ·clear k0
         go_wp2_with fail
         all_goals exact ⟨⟨j + 1, (st, false, nm), ai, 0, by simp, by omega, rfl, rfl, Lib.hid ⟨⟨HRw.out.src, HRw.out.tab.mono (by omega)⟩, HMw.out, by rw [← HX.out, HS2.out]⟩⟩, by simp only [RowKit.intOf]; omega⟩
        ·have k2 : (bstr nm).toList = (bstr sa).toList := Classical.byContradiction fun hne => k0 ⟨by simpa using k1, hne⟩
         rw [bstr_toList, bstr_toList] at k2
         subst k2
         clear k0 k1
         go_wp2_with fail
         all_goals exact ⟨⟨j + 1, (st, false, nm), ai, 0, by simp, by omega, rfl, rfl, Lib.hid ⟨⟨HRw.out.src, HRw.out.tab.mono (by omega)⟩, HMw.out, by rw [← HX.out, HS2.out]⟩⟩, by simp only [RowKit.intOf]; omega⟩
     ·have HX2 := Lib.hid (show R = (none, ai, ei) from by rw [HRUN.out, ← HX.out, if_neg hne])
      have HNE := Lib.hid hne
      clear hne
      unfold panicE
      go_wp2_with fail
      refine ⟨rfl, ?_⟩
      unfold RdDid
      rw [HX2.out]
      exact ⟨HMw.out, HI.out.1, .inr ⟨rfl, HNE.out, rfl⟩⟩
  ·have hjc : j = c := by omega
   have HX2 := Lib.hid (show R = (some (st, sg), aj, ej) from by
    have h1 := HH.out.2.2
    rw [show c - j = 0 from by omega] at h1
    rw [HRUN.out, ← h1]
    rfl)
   have hd : decide ((j : Int) < (c : Int)) = false := decide_eq_false (by omega)
   go_wp2_with fail
   go_ret
   unfold RdDid
   rw [HX2.out]
   exact ⟨HH.out.2.1, HH.out.1.src, .inl ⟨st, sg, n + j, rfl, rfl, by omega, HH.out.1.tab⟩⟩
end Usr
end Go.Proofs.YtklbemkafdccgaaGreat

/- The law UsersRings. -/
import Derived.Test.YtpndpooddehbbaaGreatK44
import Derived.Test.YtpndpooddehbbaaGreatK29
import Derived.Test.YtpndpooddehbbaaGreatFrameRef
import Derived.Test.YtpndpooddehbbaaGreatFrameAwake
namespace Go.Proofs.YtpndpooddehbbaaGreat
open Go.RowKit
namespace Usr
open Adr (Str domainB goodB)
open Frm (str_at' bstr_append)
open Mp Go.Maps
theorem strok4 : ElemOk Tryz.prog 40 9 16 := elemOk (z := .string (bstr [])) Tryz.underlying40 (by kernel_rfl) rfl
/-- the bytes of one letter, made a string -/
theorem one_str (c : UInt8) (w : World) : (convert 22 9 (.slice (some ⟨w.heap.size, 0, none⟩) 1 1)).run Tryz.prog (w.alloc (.cells #[.int .u8 (c.toNat : Int)] 5)) = .ok (.string (bstr [c])) (w.alloc (.cells #[.int .u8 (c.toNat : Int)] 5)) := str_at' (l := [c]) (row_one rfl)
theorem toF_short (ring count : Nat) : ∀ f k, ∀ s ∈ toF ring count f k, s.length ≤ 1000000
 | 0, _, _, h => by cases h
 |f + 1, k, s, h => by
  unfold toF at h
  split at h
  ·rcases List.mem_cons.1 h with rfl | h
   ·show (2 : Nat) ≤ _; decide
   ·exact toF_short ring count f _ s h
  ·cases h
theorem toL_short (ring count i : Nat) : ∀ s ∈ toL ring count i, s.length ≤ 1000000 := by
 intro s h
 rcases List.mem_cons.1 h with rfl | h
 ·show (2 : Nat) ≤ _; decide
 ·exact toF_short ring count 8 i s h
theorem Own.sl' {w : World} {base : Nat} {e : TypeId} {v : Value} {l : List Value} (h : Own w base e v l) : ∃ p c, v = .slice p l.length c ∧ l.length ≤ c ∧ c ≤ maxLen := h.row.form
theorem ch_wrap (i : Nat) (h : i ≤ 100) : IntKind.u8.wrap (97 + (i : Int)) = ((chB i).toNat : Int) := by
 unfold chB
 rw [show ((UInt8.ofNat (97 + i)).toNat) = 97 + i from by simp [UInt8.toNat_ofNat]; omega]
 have := IntWalk.u8_in (97 + (i : Int)) (by omega)
 rw [this]; simp
theorem pre_cat (a c : UInt8) : (⟨#[a]⟩ : ByteArray) ++ bstr [c] = bstr [a, c] := bstr_append [a] [c]
theorem one_size (c : UInt8) : (bstr [c]).size = 1 := by rw [bstr_size]; rfl
theorem pre_size (a : UInt8) : (⟨#[a]⟩ : ByteArray).size = 1 := rfl
set_option maxRecDepth 100000 in
set_option maxHeartbeats 4000000 in
theorem usersRings_walk (W : World) (a0 a1 : Int) (w0 : (Lit.int .i64 a0).wf = true) (w1 : (Lit.int .i64 a1).wf = true) : Calls Tryz.prog 4 #[.int .i64 a0, .int .i64 a1] W fun e w' => e = .returned (.bool true) ∧ Keeps W w' := by
 have CA := Lib.hid (awake13_any W)
 clear w0 w1
 by_cases hx : a0 < 1 ∨ 7 < a0 ∨ a1 < 1 ∨ 7 < a1
 ·obtain ⟨b1, h1⟩ : ∃ b, decide (a0 < 1) = b := ⟨_, rfl⟩
  obtain ⟨b2, h2⟩ : ∃ b, decide (7 < a0) = b := ⟨_, rfl⟩
  obtain ⟨b3, h3⟩ : ∃ b, decide (a1 < 1) = b := ⟨_, rfl⟩
  obtain ⟨b4, h4⟩ : ∃ b, decide (7 < a1) = b := ⟨_, rfl⟩
  have HX := Lib.hid (show (b1 || b2 || b3 || b4) = true from by rw [← h1, ← h2, ← h3, ← h4]; simpa [or_assoc] using hx)
  clear hx
  go_enter Tryz.func4, Tryz.ntmps4
  go_wp2_with fail
  refine CA.out.mono ?_
  rintro e w1 ⟨rfl, hk⟩
  have HK := Lib.hid hk
  clear hk CA
  cases b1 <;> cases b2 <;> cases b3 <;> cases b4 <;> first | (exfalso; have := HX.out; revert this; decide) | (go_wp2_with fail; go_ret; exact ⟨rfl, HK.out⟩)
 obtain ⟨ring, rfl⟩ : ∃ n : Nat, a0 = n := Int.eq_ofNat_of_zero_le (by omega)
 obtain ⟨count, rfl⟩ : ∃ n : Nat, a1 = n := Int.eq_ofNat_of_zero_le (by omega)
 have hr1 : 1 ≤ ring := by omega
 have hr7 : ring ≤ 7 := by omega
 have hc1 : 1 ≤ count := by omega
 have hc7 : count ≤ 7 := by omega
 have q1 : decide ((ring : Int) < 1) = false := decide_eq_false (by omega)
 have q2 : decide ((7 : Int) < (ring : Int)) = false := decide_eq_false (by omega)
 have q3 : decide ((count : Int) < 1) = false := decide_eq_false (by omega)
 have q4 : decide ((7 : Int) < (count : Int)) = false := decide_eq_false (by omega)
 have HRC := Lib.hid (And.intro (And.intro hr1 hr7) (And.intro hc1 hc7))
 clear hx hr1 hr7 hc1 hc7
 have C1 := Lib.hid (fun w' => new_any w' rDom (by decide))
 unfold NewDid at C1
 rw [ring_dom.1, ring_dom.2] at C1
 have hst := one_str
 have hca := pre_cat
 have hs1 := one_size
 have hs2 := pre_size
 go_enter Tryz.func4, Tryz.ntmps4
 go_wp2_with fail
 refine CA.out.mono ?_
 rintro e w1 ⟨rfl, hk⟩
 have HK := Lib.hid hk
 clear hk CA
 go_wp2_with fail
 refine (C1.out _).mono ?_
 rintro e w2 (⟨-, g, b1, b2, rfl, hb, hT, hk⟩ | ⟨hx, -, -⟩)
 rotate_left
 ·cases hx
 have HT := Lib.hid (show TabAt w2 g b1 b2 0 (ringU 0) from hT)
 have HFR := Lib.hid (show ∀ x, TFr g b1 b2 x → W.heap.size ≤ x from by
  have := HK.out.size
  rintro x (rfl | rfl | rfl) <;> omega)
 have HK := Lib.hid (HK.out.trans hk)
 clear hT hb hk C1
 clear q1 q2 q3 q4
 go_upto_region 9 with fail
 go_loopw [6] (fun iv wr => ∃ i : Nat, iv = .int .i64 (i : Int) ∧ Hid (i ≤ count ∧ TabAt wr g b1 b2 i (ringU i) ∧ Keeps W wr)) (fun iv _ => count - (RowKit.intOf iv).toNat)
 case atStart => exact ⟨0, rfl, Lib.hid ⟨Nat.zero_le _, HT.out, HK.out⟩⟩
 case round =>
  obtain ⟨i, rfl, HR⟩ := hrel
  obtain ⟨wz, rfl⟩ : ∃ z : World, z = wr := ⟨_, rfl⟩
  clear HT HK
  by_cases hlt : i < count
  ·have hd : decide ((i : Int) < (count : Int)) = true := decide_eq_true (by omega)
   have hi7 : i < 7 := by have := HRC.out; omega
   have e97 : IntKind.i64.wrap (97 + (i : Int)) = 97 + (i : Int) := IntWalk.i64_in _ (by omega)
   have e8 := ch_wrap i (by omega)
   have ei : IntKind.i64.wrap ((i : Int) + 1) = (i : Int) + 1 := IntWalk.i64_in _ (by omega)
   have CU := Lib.hid (fun w' (h : TabAt w' g b1 b2 i (ringU i)) => addUser_any w' g b1 b2 i (ringU i) h (by show (1 : Int) ≤ (i : Int) + 1 ∧ (i : Int) + 1 ≤ 1000000; omega) (by omega) (uNm i) (by show (2 : Nat) ≤ _; decide) (-1) (-1))
   unfold Acted at CU
   rw [ringU_step i hi7] at CU
   have HLT := Lib.hid hlt
   clear hlt
   go_wp2_with fail
   refine (CU.out _ (HR.out.2.1.keeps ((Keeps.refl _).alloc _))).mono ?_
   rintro e w3 ⟨rfl, hT, hm⟩
   have HT := Lib.hid hT
   have HK := Lib.hid (hm.keeps (HR.out.2.2.alloc _) HFR.out)
   clear hT hm CU HR
   go_wp2_with fail
   go_roundw
   case rel => exact ⟨i + 1, by simp, Lib.hid ⟨HLT.out, HT.out, HK.out⟩⟩
   case measure => have := HLT.out; simp only [RowKit.intOf]; omega
  ·have hd : decide ((i : Int) < (count : Int)) = false := decide_eq_false (by omega)
   obtain rfl : i = count := by have := HR.out.1; omega
   have HT := Lib.hid (show TabAt wz g b1 b2 (i + 0) (ringA ring i 0) from HR.out.2.1)
   have HK := Lib.hid HR.out.2.2
   clear HR hlt
   go_upto_region 15 with fail
   go_loopw [9] (fun iv wr => ∃ j : Nat, iv = .int .i64 (j : Int) ∧ Hid (j ≤ ring ∧ TabAt wr g b1 b2 (i + j) (ringA ring i j) ∧ Keeps W wr)) (fun iv _ => ring - (RowKit.intOf iv).toNat)
   case atStart => exact ⟨0, rfl, Lib.hid ⟨Nat.zero_le _, HT.out, HK.out⟩⟩
   case round =>
    obtain ⟨j, rfl, HR⟩ := hrel
    obtain ⟨wy, rfl⟩ : ∃ z : World, z = wr := ⟨_, rfl⟩
    clear HT HK
    by_cases hlt : j < ring
    ·have hd : decide ((j : Int) < (ring : Int)) = true := decide_eq_true (by omega)
     have hj7 : j < 7 := by have := HRC.out; omega
     have ej : IntKind.i64.wrap ((j : Int) + 1) = (j : Int) + 1 := IntWalk.i64_in _ (by omega)
     obtain ⟨m, hm⟩ : ∃ z, (j + 1) % ring = z := ⟨_, rfl⟩
     have em : ((j : Int) + 1) % (ring : Int) = (m : Int) := by rw [← hm]; simp
     have hm7 : m < 8 := by have := HRC.out; have := Nat.mod_lt (j + 1) (show ring > 0 by omega); omega
     have em1 : IntKind.i64.wrap (97 + (m : Int)) = 97 + (m : Int) := IntWalk.i64_in _ (by omega)
     have em2 := ch_wrap m (by omega)
     have HM := Lib.hid hm
     clear hm hm7
     go_upto_region 18 with fail
     obtain ⟨wa, hwa⟩ : ∃ z, wy.alloc (.cells #[.int .u8 ((chB m).toNat : Int)] 5) = z := ⟨_, rfl⟩
     have esz : wa.heap.size = wy.heap.size + 1 := by rw [← hwa]; exact Frm.alloc_size _ _
     have HKa := Lib.hid (show Keeps wy wa from by rw [← hwa]; exact (Keeps.refl _).alloc _)
     rw [hwa]
     obtain ⟨qa, hqa⟩ : ∃ z, z = wa.heap.size := ⟨_, rfl⟩
     rw [← esz, ← hqa]
     have HO := Lib.hid (show Own (wa.alloc (.cells #[.string (bstr [114, chB m])] 9)) wy.heap.size 9 (.slice (some ⟨qa, 0, none⟩) 1 1) ([rNm m].map strV) from Frm.own_lit hqa rfl (by have := HKa.out.size; omega) (by show (1 : Nat) ≤ _; decide))
     have HKa := Lib.hid (HKa.out.alloc (.cells #[.string (bstr [114, chB m])] 9))
     have hj3 : IntKind.i64.wrap ((j : Int) + (ring : Int)) = (j : Int) + (ring : Int) := IntWalk.i64_in _ (by have := HRC.out; omega)
     obtain ⟨wb, hwb⟩ : ∃ z, wa.alloc (.cells #[.string (bstr [114, chB m])] 9) = z := ⟨_, rfl⟩
     rw [hwb] at HO HKa ⊢
     have HLT := Lib.hid hlt
     clear hwa esz hwb hqa hlt em em1 em2 hj3
     go_upto_region 19 with fail
     go_loopw [10, 11] (fun tv kv wr => ∃ (k f : Nat) (P : List Str) (po : Option Addr) (co : Nat), tv = .slice po P.length co ∧ kv = .int .i64 (k : Int) ∧ Hid (8 ≤ f + k ∧ k ≤ 14 ∧ P.length ≤ 10 ∧ P.length + f ≤ 9 ∧ P ++ toF ring i f k = toL ring i j ∧ Own wr wy.heap.size 9 (.slice po P.length co) (P.map strV) ∧ Keeps wy wr)) (fun _ kv _ => i - (RowKit.intOf kv).toNat)
     case atStart => exact ⟨j, 8, [rNm m], _, _, rfl, rfl, Lib.hid ⟨by omega, by omega, by simp, by simp, by unfold toL; rw [HM.out]; rfl, HO.out, HKa.out⟩⟩
     case round =>
      obtain ⟨k, f, P, po, co, rfl, rfl, HP⟩ := hrel
      obtain ⟨wx, rfl⟩ : ∃ z : World, z = wr := ⟨_, rfl⟩
      clear HO HKa
      by_cases hlt : k < i
      ·have hd : decide ((k : Int) < (i : Int)) = true := decide_eq_true (by omega)
       have hi7 : i ≤ 7 := HRC.out.2.2
       have hr7 : ring ≤ 7 := HRC.out.1.2
       have e97 : IntKind.i64.wrap (97 + (k : Int)) = 97 + (k : Int) := IntWalk.i64_in _ (by omega)
       have e8 := ch_wrap k (by omega)
       have ek : IntKind.i64.wrap ((k : Int) + (ring : Int)) = (k : Int) + (ring : Int) := IntWalk.i64_in _ (by omega)
       have HLK := Lib.hid hlt
       clear hlt hi7 hr7
       have HPL := Lib.hid HP.out.2.2.1
       have HZ := Lib.hid (Nat.le_trans HP.out.2.2.2.2.2.2.size (((Keeps.refl wx).alloc (.cells #[.int .u8 ((chB k).toNat : Int)] 5)).alloc (.cells #[.string (bstr [117, chB k])] 9)).size)
       go_upto_region 20 with (at_builtin; refine wpList_app1 (base := wy.heap.size) strok4 rfl _ _ rfl (.slice po P.length co) (.slice (some ⟨wx.heap.size + 1, 0, none⟩) 1 1) (P.map strV) [.string (bstr [117, chB k])] rfl rfl ((HP.out.2.2.2.2.2.1.alloc _).alloc _) (row_one (Frm.alloc_size _ _).symm) (by simp [Value.oneCell']) (by have := HPL.out; simp; omega) (by omega) HZ.out ?_; intro v5 w5 ho5 hg5 hf5; have HV := Lib.hid (And.intro ho5 (HP.out.2.2.2.2.2.2.alloc (.cells #[.int .u8 ((chB k).toNat : Int)] 5) |>.alloc (.cells #[.string (bstr [117, chB k])] 9) |>.grown hg5 (fun x hx => HP.out.2.2.2.2.2.1.base x hx))); clear ho5 hg5 hf5)
       obtain ⟨p5, c5, rfl, -, -⟩ := Own.sl' HV.out.1
       go_wp2_with fail
       go_roundw
       case rel =>
        obtain ⟨f', rfl, hf⟩ := toF_next (ring := ring) HLK.out HP.out.1 HRC.out.2.2
        exact ⟨k + ring, f', P ++ [uNm k], p5, c5, by simp, by simp, Lib.hid ⟨by have := HP.out.1; have := HRC.out; omega, by have := HLK.out; have := HRC.out; omega, by have := HP.out.2.2.2.1; simp; omega, by have := HP.out.2.2.2.1; simp; omega, by rw [List.append_assoc, ← HP.out.2.2.2.2.1, hf]; rfl, by have h := HV.out.1; simp at h ⊢; exact h, HV.out.2⟩⟩
       case measure => have := HLK.out; have := HRC.out; simp only [RowKit.intOf]; omega
      ·have hd : decide ((k : Int) < (i : Int)) = false := decide_eq_false (by omega)
       have HPE := Lib.hid (show P = toL ring i j from by have := HP.out.2.2.2.2.1; rwa [toF_end (by omega), List.append_nil] at this)
       have HPO := Lib.hid HP.out.2.2.2.2.2.1
       have HPL := Lib.hid HP.out.2.2.1
       have HPK := Lib.hid HP.out.2.2.2.2.2.2
       clear HP
       have e97 : IntKind.i64.wrap (97 + (j : Int)) = 97 + (j : Int) := IntWalk.i64_in _ (by omega)
       have e8 := ch_wrap j (by omega)
       have CL := Lib.hid (fun w' (h : TabAt w' g b1 b2 (i + j) (ringA ring i j)) (hr : Row w' (.slice po P.length co) (P.map strV)) => addAlias_any w' g b1 b2 (i + j) (ringA ring i j) h (by have := HRC.out; omega) (rNm j) (by show (2 : Nat) ≤ _; decide) (.slice po P.length co) P hr (by rw [HPE.out]; exact toL_short ring i j) (by have := HPL.out; omega))
       have hadd := ringA_step HRC.out.1.1 HRC.out.1.2 HRC.out.2.2 HLT.out
       rw [← HPE.out] at hadd
       unfold ActedE at CL
       rw [hadd] at CL
       clear hadd
       go_wp2_with fail
       refine (CL.out _ ((HR.out.2.1.keeps HPK.out).keeps ((Keeps.refl _).alloc _)) (HPO.out.row.keeps ((Keeps.refl _).alloc _))).mono ?_
       rintro e w6 ⟨rfl, hT, hm⟩
       have HT := Lib.hid hT
       have HK := Lib.hid (hm.keeps ((HR.out.2.2.trans HPK.out).alloc _) HFR.out)
       clear hT hm CL HR
       go_wp2_with fail
       go_roundw
       case rel => exact ⟨j + 1, by simp, Lib.hid ⟨HLT.out, HT.out, HK.out⟩⟩
       case measure => have := HLT.out; simp only [RowKit.intOf]; omega
    ·have hd : decide ((j : Int) < (ring : Int)) = false := decide_eq_false (by omega)
     obtain rfl : j = ring := by have := HR.out.1; omega
     have HT := Lib.hid HR.out.2.1
     have HK := Lib.hid HR.out.2.2
     clear HR hlt
     go_upto_region 25 with fail
     go_loopw [12] (fun iv wr => ∃ k : Nat, iv = .int .i64 (k : Int) ∧ Hid (k ≤ j ∧ Keeps wy wr)) (fun iv _ => j - (RowKit.intOf iv).toNat)
     case atStart => exact ⟨0, rfl, Lib.hid ⟨Nat.zero_le _, Keeps.refl _⟩⟩
     case round =>
      obtain ⟨k, rfl, HR⟩ := hrel
      obtain ⟨wx, rfl⟩ : ∃ z : World, z = wr := ⟨_, rfl⟩
      by_cases hlt : k < j
      ·have hd : decide ((k : Int) < (j : Int)) = true := decide_eq_true (by omega)
       have hj7 : j ≤ 7 := HRC.out.1.2
       have e97 : IntKind.i64.wrap (97 + (k : Int)) = 97 + (k : Int) := IntWalk.i64_in _ (by omega)
       have e8 := ch_wrap k (by omega)
       have ek : IntKind.i64.wrap ((k : Int) + 1) = (k : Int) + 1 := IntWalk.i64_in _ (by omega)
       have CR := Lib.hid (fun w' (h : TabAt w' g b1 b2 (i + j) (ringA j i j)) => resolve_any w' g b1 b2 (i + j) (ringA j i j) h (ringA_right hj7 HRC.out.2.2 j (Nat.le_refl _)) (uR k) rDom (by show (2 : Nat) ≤ _; decide) (by decide))
       rw [ring_resP hj7 HRC.out.2.1 HRC.out.2.2 hlt] at CR
       unfold ResDid at CR
       have HLK := Lib.hid hlt
       clear hlt hj7
       go_wp2_with fail
       refine (CR.out _ ((HT.out.keeps HR.out.2).keeps ((Keeps.refl _).alloc _))).mono ?_
       rintro e w6 ⟨v6, rfl, ho, hk⟩
       obtain ⟨q, c6, rfl⟩ : ∃ q cap, v6 = .slice (some ⟨q, 0, none⟩) i cap := by
        obtain ⟨q, cap, hv, -⟩ := ho.form (by have := HRC.out; simp; omega)
        exact ⟨q, cap, by simpa using hv⟩
       have HO := Lib.hid ho
       have HK6 := Lib.hid ((HR.out.2.alloc _).trans hk)
       clear ho hk CR HR
       go_upto_region 31 with fail
       go_loopw [15] (fun iv wr => ∃ l : Nat, iv = .int .i64 (l : Int) ∧ l ≤ i ∧ w6 = wr) (fun iv _ => i - (RowKit.intOf iv).toNat)
       case atStart => exact ⟨0, rfl, Nat.zero_le _, rfl⟩
       case round =>
        obtain ⟨l, rfl, hl, rfl⟩ := hrel
        by_cases hlt : l < i
        ·have hd : decide ((l : Int) < (i : Int)) = true := decide_eq_true (by omega)
         have el : IntKind.i64.wrap ((l : Int) + 1) = (l : Int) + 1 := IntWalk.i64_in _ (by have := HRC.out; omega)
         have z0 : w6.cell? ⟨q, l, none⟩ = some (.int .i64 ((l : Int) + 1)) := HO.out.cellAt l _ (by simp [hlt, encZ])
         go_wp2_with fail
         go_roundw
         case rel => exact ⟨l + 1, by simp, by omega, trivial⟩
         case measure => simp only [RowKit.intOf]; omega
        ·have hd : decide ((l : Int) < (i : Int)) = false := decide_eq_false (by omega)
         go_wp2_with fail
         go_roundw
         case rel => exact ⟨k + 1, by simp, Lib.hid ⟨HLK.out, HK6.out⟩⟩
         case measure => have := HLK.out; simp only [RowKit.intOf]; omega
      ·have hd : decide ((k : Int) < (j : Int)) = false := decide_eq_false (by omega)
       have HK := Lib.hid (HK.out.trans HR.out.2)
       go_wp2_with fail
       go_ret
       exact ⟨rfl, HK.out⟩
end Usr
end Go.Proofs.YtpndpooddehbbaaGreat

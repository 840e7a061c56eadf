/- Several texts in one: CrcRow, Crc, CrcMore. -/
import Derived.Test.YtcleakjjefmmbaaGreatK00
import Derived.Test.YtcleakjjefmmbaaGreatRows
/- The functions of package crc, and the reference's, compute the plain sums. -/
namespace Go.Proofs.YtcleakjjefmmbaaGreat
open Go.RowKit
namespace Crc

theorem ret_u32 {a b : Int} (h : a = b) : Ending.returned (.int .u32 a) = .returned (.int .u32 b) := by rw [h]
theorem st_odd {c : Nat} (hc : c < 4294967296) (h : c % 2 = 1) : bits BinOp.xor IntKind.u32 ((c : Int) / 2) 3988292384 = ((st c : Nat) : Int) := by
 have := u32_xor_nat (c / 2) 3988292384 (by omega) (by omega)
 unfold st
 rw [if_pos h, ← this]
 rfl
theorem st_even {c : Nat} (h : ¬ c % 2 = 1) : (c : Int) / 2 = ((st c : Nat) : Int) := by unfold st; rw [if_neg h]; rfl
theorem sts_snoc (n : Nat) (c : Nat) : sts (n + 1) c = st (sts n c) := sts_add n 1 c

def tabV : Array Value := #[.int .u32 0, .int .u32 498536548, .int .u32 997073096, .int .u32 651767980, .int .u32 1994146192, .int .u32 1802195444, .int .u32 1303535960, .int .u32 1342533948, .int .u32 3988292384, .int .u32 4027552580, .int .u32 3604390888, .int .u32 3412177804, .int .u32 2607071920, .int .u32 2262029012, .int .u32 2685067896, .int .u32 3183342108]

theorem tab_get (j : Nat) (h : j < 16) : tabV[j]? = some (.int .u32 (sts 4 j : Nat)) := by
 exact match j, h with
 | 0, _ => rfl
 | 1, _ => rfl
 | 2, _ => rfl
 | 3, _ => rfl
 | 4, _ => rfl
 | 5, _ => rfl
 | 6, _ => rfl
 | 7, _ => rfl
 | 8, _ => rfl
 | 9, _ => rfl
 | 10, _ => rfl
 | 11, _ => rfl
 | 12, _ => rfl
 | 13, _ => rfl
 | 14, _ => rfl
 | 15, _ => rfl
 |n + 16, h => by omega

theorem tab_of {cs : Array Value} (hsz : cs.size = 16) (h : ∀ j, j < 16 → cs[j]? = some (.int .u32 (sts 4 j : Nat))) : cs = tabV := by
 apply Array.ext_getElem?
 intro j
 by_cases hj : j < 16
 ·rw [h j hj, tab_get j hj]
 ·rw [Array.getElem?_eq_none (by omega), Array.getElem?_eq_none (by simp [tabV]; omega)]

set_option maxHeartbeats 1000000 in
theorem row_any (w : World) :
  Calls Tryz.prog 261 #[] w fun e w' => e = .returned (.agg #[.int .u32 0, .int .u32 498536548, .int .u32 997073096, .int .u32 651767980, .int .u32 1994146192, .int .u32 1802195444, .int .u32 1303535960, .int .u32 1342533948, .int .u32 3988292384, .int .u32 4027552580, .int .u32 3604390888, .int .u32 3412177804, .int .u32 2607071920, .int .u32 2262029012, .int .u32 2685067896, .int .u32 3183342108]) ∧ Keeps w w' := by
 go_enter Tryz.func261, Tryz.ntmps261
 go_wp2
 go_loopw [1, 2, 3, 8] (fun s1 s2 i s8 wr => ∃ (k : Nat) (cs : Array Value), k ≤ 16 ∧ i = .int .i64 k ∧ wr = w.alloc (.cells cs 310) ∧ cs.size = 16 ∧ Hid (∀ j, j < k → cs[j]? = some (.int .u32 (sts 4 j : Nat)))) (fun _ _ i _ _ => 16 - (intOf i).toNat)
 case atStart => exact ⟨0, _, by omega, rfl, rfl, rfl, Lib.hid (by omega)⟩
 case round =>
  obtain ⟨k, cs, hk, rfl, rfl, hsz, HC⟩ := hrel
  have HZ := Lib.hid hsz
  clear hsz
  by_cases hlt : k < 16
  ·obtain ⟨old, hold⟩ : ∃ old, cs[k]? = some old := ⟨cs[k]'(by have := HZ.out; omega), by simp [HZ.out, hlt]⟩
   have hcell : ((w.alloc (.cells cs 310)).cell? ⟨w.heap.size, k, none⟩) = some old := by
    rw [cell_alloc_new]; exact hold
   go_wp2
   go_loop [2, 8] (fun c s8 => ∃ j : Nat, j ≤ 4 ∧ s8 = .int .i64 j ∧ c = .int .u32 (sts j k : Nat)) (fun _ s8 => 4 - (intOf s8).toNat)
   case atStart => exact ⟨0, by omega, rfl, rfl⟩
   case round =>
    obtain ⟨j, hj, rfl, rfl⟩ := hrel
    have HS := Lib.hid (sts_snoc j k)
    have hc := sts_lt j (c := k) (by omega)
    by_cases hj4 : j < 4
    ·generalize sts j k = c at *
     by_cases h : c % 2 = 1
     ·have h' : (bits BinOp.and IntKind.u32 (c : Int) 1 == 1) = true := by
       have := u32_and_nat c 1 hc (by omega)
       rw [show ((1 : Nat) : Int) = 1 from rfl] at this
       rw [this, nat_mask1, h]
       rfl
      go_wp2
      go_round
      case rel => exact ⟨j + 1, by omega, by go_num, by rw [HS.out]; exact congrArg (Value.int IntKind.u32) (st_odd hc h)⟩
      case measure => simp [intOf] <;> omega
     ·have h' : (bits BinOp.and IntKind.u32 (c : Int) 1 == 1) = false := by
       have := u32_and_nat c 1 hc (by omega)
       rw [show ((1 : Nat) : Int) = 1 from rfl] at this
       rw [this, nat_mask1, show c % 2 = 0 from by omega]
       rfl
      go_wp2
      go_round
      case rel => exact ⟨j + 1, by omega, by go_num, by rw [HS.out]; exact congrArg (Value.int IntKind.u32) (st_even h)⟩
      case measure => simp [intOf] <;> omega
    ·obtain rfl : j = 4 := by omega
     clear HS
     generalize hv : sts 4 k = c at *
     have HV := Lib.hid hv
     clear hv
     go_wp2
     go_roundw
     case rel =>
      refine ⟨k + 1, cs.setIfInBounds k (.int .u32 (c : Int)), by omega, by go_num, ?_, by simp [HZ.out], Lib.hid fun j' hj' => ?_⟩
      ·rfl
      ·rw [Array.getElem?_setIfInBounds]
       split
       ·rename_i e
        subst e
        rw [if_pos (by have := HZ.out; omega), HV.out]
       ·exact HC.out j' (by omega)
     case measure => simp [intOf] <;> omega
  ·obtain rfl : k = 16 := by omega
   have hcs := tab_of HZ.out HC.out
   subst hcs
   unfold tabV at *
   clear HC HZ
   go_wp2
   refine bodyPost_ret (by simp [results, Tryz.results261, go_sem] <;> rfl) rfl ⟨rfl, by repeat (first | assumption | exact Keeps.refl _ | refine Keeps.alloc ?_ _ | refine Keeps.setCell ?_ (by simp; try omega) _ | refine Keeps.drewN ?_ _ | refine Keeps.drew ?_)⟩

end Crc
end Go.Proofs.YtcleakjjefmmbaaGreat

/- The functions of package crc, and the reference's, compute the plain sums. -/
namespace Go.Proofs.YtcleakjjefmmbaaGreat
open Go.RowKit
namespace Crc

theorem and15 {c : Nat} (h : c < 4294967296) : bits BinOp.and IntKind.u32 (c : Int) 15 = ((c % 16 : Nat) : Int) := by
 have := u32_and_nat c 15 h (by omega)
 rw [show ((15 : Nat) : Int) = 15 from rfl] at this
 rw [this, nat_mask4]
theorem nib_bits {c : Nat} (h : c < 4294967296) : bits BinOp.xor IntKind.u32 ((sts 4 (c % 16) : Nat) : Int) ((c : Int) / 16) = ((nib c : Nat) : Int) := by
 exact u32_xor_nat (sts 4 (c % 16)) (c / 16) (sts_lt 4 (by omega)) (by omega)
theorem xor_byte {c : Nat} (h : c < 4294967296) (x : UInt8) : bits BinOp.xor IntKind.u32 (c : Int) (x.toNat : Int) = ((c ^^^ x.toNat : Nat) : Int) := by
 exact u32_xor_nat c x.toNat h (by have := byte_lt x; omega)

end Crc
end Go.Proofs.YtcleakjjefmmbaaGreat

/- crc.More, Of, Same and the reference's Of, and what the document tells. -/
namespace Go.Proofs.YtcleakjjefmmbaaGreat
open Go.RowKit
namespace Crc

theorem ones_xor {c : Nat} (h : c < 4294967296) : 4294967295 ^^^ c = 4294967295 - c := by
 have h1 : (BitVec.allOnes 32 ^^^ BitVec.ofNat 32 c) = ~~~ (BitVec.ofNat 32 c) := by rw [BitVec.xor_comm, BitVec.xor_allOnes]
 have h2 := congrArg BitVec.toNat h1
 rw [BitVec.toNat_xor, BitVec.toNat_not, BitVec.toNat_allOnes, BitVec.toNat_ofNat] at h2
 rw [Nat.mod_eq_of_lt (by omega)] at h2
 exact h2
theorem not_u32 {c : Nat} (h : c < 4294967296) : bits BinOp.xor IntKind.u32 IntKind.u32.max (c : Int) = ((4294967295 - c : Nat) : Int) := by
 have := u32_xor_nat 4294967295 c (by omega) h
 rw [ones_xor h] at this
 rw [← this]
 rfl

set_option maxHeartbeats 1000000 in
theorem more_any (s : Nat) (hs : s < 4294967296) (v : Value) (l : List UInt8) (w : World) (hr : Row w v (l.map u8v)) :
  Calls Tryz.prog 226 #[.int .u32 (s : Int), v] w fun e w' => e = .returned (.int .u32 (more s l : Nat)) ∧ Keeps w w' := by
 have hp : (l = [] ∧ ∃ p cap, v = .slice p 0 cap) ∨ ∃ b off cap, v = .slice (some ⟨b, off, none⟩) l.length cap ∧ Hid (∀ i x, l[i]? = some x → w.cell? ⟨b, off + i, none⟩ = some (.int .u8 (x.toNat : Int))) ∧ l.length ≤ cap ∧ cap ≤ maxLen := by
  rcases hr with ⟨a0, cap', rfl, hl, -, -⟩ | ⟨b, off, cap', rfl, h1, h2, hcell⟩
  ·exact .inl ⟨by simpa using hl, _, _, rfl⟩
  ·exact .inr ⟨b, off, cap', by simp, Lib.hid fun i x hx => hcell i _ (by simp [hx, u8v]), by simpa using h1, h2⟩
 rcases hp with ⟨rfl, p, cap, rfl⟩ | ⟨b, off, cap, rfl, HC, hle, hcap⟩
 ·go_enter Tryz.func226, Tryz.ntmps226
  go_wp2_with fail
  refine (row_any _).mono ?_
  rintro e w1 ⟨rfl, hk1⟩
  go_wp2_with fail
  generalize hW : World.alloc _ _ = w2
  have hK : Keeps w w2 := by rw [← hW]; exact hk1.alloc _
  clear hW hk1
  have H0 := Lib.hid (not_u32 hs)
  have HF : Hid (((4294967295 - (4294967295 - s) : Nat) : Int) = ((more s [] : Nat) : Int)) := Lib.hid (by unfold more run; rfl)
  go_loop [6, 8, 14] (fun c x i => i = .int .i64 0 ∧ c = .int .u32 ((4294967295 - s : Nat) : Int)) (fun _ _ _ => 0)
  case atStart => exact ⟨rfl, congrArg (Value.int .u32) H0.out⟩
  case round =>
   obtain ⟨rfl, rfl⟩ := hrel
   have hn := not_u32 (c := 4294967295 - s) (by omega)
   go_wp2
   go_ret
   exact ⟨ret_u32 HF.out, hK⟩
 ·unfold maxLen at hcap
  go_enter Tryz.func226, Tryz.ntmps226
  go_wp2_with fail
  refine (row_any _).mono ?_
  rintro e w1 ⟨rfl, hk1⟩
  go_wp2_with fail
  generalize hW : World.alloc _ _ = w2
  have HT : Hid (∀ i, i < 16 → w2.cell? ⟨w1.heap.size, i, none⟩ = some (.int .u32 (sts 4 i : Nat))) := Lib.hid (by
   intro i hi
   rw [← hW, cell_alloc_new]
   exact tab_get i hi)
  have hK : Keeps w w2 := by rw [← hW]; exact hk1.alloc _
  clear hW hk1
  have H0 := Lib.hid (not_u32 hs)
  go_loop [6, 8, 14] (fun c x i => ∃ n c0 : Nat, n ≤ l.length ∧ i = .int .i64 n ∧ c = .int .u32 (c0 : Int) ∧ c0 < 4294967296 ∧ run (4294967295 - s) l = run c0 (l.drop n)) (fun _ _ i => l.length - (intOf i).toNat)
  case atStart => exact ⟨0, 4294967295 - s, by omega, rfl, congrArg (Value.int .u32) H0.out, by omega, rfl⟩
  case round =>
   obtain ⟨n, c0, hn, rfl, rfl, hc0, hrun⟩ := hrel
   have HR := Lib.hid hrun
   clear hrun
   by_cases hlt : n < l.length
   ·have hcell : w2.cell? ⟨b, off + n, none⟩ = some (.int .u8 (l[n].toNat : Int)) := keep1 hK (HC.out n _ (by simp [hlt]))
    have HD : Hid (l.drop n = l[n] :: l.drop (n + 1)) := Lib.hid (List.drop_eq_getElem_cons hlt)
    have hb := byte_lt l[n]
    generalize l[n] = x at *
    have hx := xor_byte hc0 x
    have hlt0 : (c0 ^^^ x.toNat) < 4294967296 := xor_lt hc0 (by omega)
    have HU : Hid (nib (nib (c0 ^^^ x.toNat)) = upd c0 x) := Lib.hid (upd_nib c0 x).symm
    generalize c0 ^^^ x.toNat = c1 at *
    have ha1 := and15 hlt0
    have ht1 := HT.out (c1 % 16) (by omega)
    have hn1 := nib_bits hlt0
    have hl1 : nib c1 < 4294967296 := by rw [nib_eq]; exact sts_lt 4 hlt0
    generalize nib c1 = c2 at *
    have ha2 := and15 hl1
    have ht2 := HT.out (c2 % 16) (by omega)
    have hn2 := nib_bits hl1
    have hl2 : nib c2 < 4294967296 := by rw [nib_eq]; exact sts_lt 4 hl1
    generalize nib c2 = c3 at *
    go_wp2
    go_round
    case rel => exact ⟨n + 1, c3, by omega, by go_num, rfl, by have := HU.out; rw [this]; exact upd_lt hc0 x, by rw [HR.out, HD.out, HU.out]; rfl⟩
    case measure => simp [intOf] <;> omega
   ·have HF : Hid (((4294967295 - c0 : Nat) : Int) = ((more s l : Nat) : Int)) := Lib.hid (by unfold more; rw [HR.out, List.drop_of_length_le (by omega)]; rfl)
    have hn := not_u32 hc0
    go_wp2
    go_ret
    exact ⟨ret_u32 HF.out, hK⟩

theorem of_any (v : Value) (l : List UInt8) (w : World) (hr : Row w v (l.map u8v)) :
  Calls Tryz.prog 227 #[v] w fun e w' => e = .returned (.int .u32 (more 0 l : Nat)) ∧ Keeps w w' := by
 have H := Lib.hid (more_any 0 (by omega) v l w hr)
 go_enter Tryz.func227, Tryz.ntmps227
 go_wp2_with fail
 refine H.out.mono ?_
 rintro e w1 ⟨rfl, hk1⟩
 go_wp2_with fail
 go_ret
 exact ⟨rfl, hk1⟩
end Crc
end Go.Proofs.YtcleakjjefmmbaaGreat

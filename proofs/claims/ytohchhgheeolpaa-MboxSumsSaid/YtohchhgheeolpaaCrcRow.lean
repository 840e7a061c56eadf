/- The functions of package crc, and the reference's, compute the plain sums. -/
import Derived.Test.YtohchhgheeolpaaPPlain
import Derived.Test.YtohchhgheeolpaaRows
import Derived.Test.YtohchhgheeolpaaPGen
namespace Go.Proofs.Ytohchhgheeolpaa
open Go.RowKit
namespace Crc

theorem ret_u32 {a b : Int} (h : a = b) : Ending.returned (.int .u32 a) = .returned (.int .u32 b) := by rw [h]
theorem st_odd {c : Nat} (hc : c < 4294967296) (h : c % 2 = 1) : bits BinOp.xor IntKind.u32 ((c : Int) / 2) 3988292384 = ((st c : Nat) : Int) := by
  have := u32_xor_nat (c / 2) 3988292384 (by omega) (by omega)
  unfold st
  rw [if_pos h, ← this]
  rfl
theorem st_even {c : Nat} (h : ¬ c % 2 = 1) : (c : Int) / 2 = ((st c : Nat) : Int) := by unfold st; rw [if_neg h]; rfl
theorem sts_snoc (n : Nat) (c : Nat) : sts (n + 1) c = st (sts n c) := sts_add n 1 c

theorem rStep_any (c : Nat) (hc : c < 4294967296) (w : World) :
    Calls Try.prog 258 #[.int .u32 (c : Int)] w fun e w' => e = .returned (.int .u32 (st c : Nat)) ∧ w = w' := by
  by_cases h : c % 2 = 1
  · have h' : ((c : Int) % 2 == 1) = true := by simp; omega
    go_enter Try.func258, Try.ntmps258
    go_wp2
    go_ret
    exact ⟨ret_u32 (st_odd hc h), rfl⟩
  · have h' : ((c : Int) % 2 == 1) = false := by simp; omega
    go_enter Try.func258, Try.ntmps258
    go_wp2
    go_ret
    exact ⟨ret_u32 (st_even h), rfl⟩

def tabV : Array Value := #[.int .u32 0, .int .u32 498536548, .int .u32 997073096, .int .u32 651767980, .int .u32 1994146192, .int .u32 1802195444, .int .u32 1303535960, .int .u32 1342533948, .int .u32 3988292384, .int .u32 4027552580, .int .u32 3604390888, .int .u32 3412177804, .int .u32 2607071920, .int .u32 2262029012, .int .u32 2685067896, .int .u32 3183342108]

theorem tab_get (j : Nat) (h : j < 16) : tabV[j]? = some (.int .u32 (sts 4 j : Nat)) := by
  exact match j, h with
  | 0, _ => rfl
  | 1, _ => rfl
  | 2, _ => rfl
  | 3, _ => rfl
  | 4, _ => rfl
  | 5, _ => rfl
  | 6, _ => rfl
  | 7, _ => rfl
  | 8, _ => rfl
  | 9, _ => rfl
  | 10, _ => rfl
  | 11, _ => rfl
  | 12, _ => rfl
  | 13, _ => rfl
  | 14, _ => rfl
  | 15, _ => rfl
  | n + 16, h => by omega

theorem tab_of {cs : Array Value} (hsz : cs.size = 16) (h : ∀ j, j < 16 → cs[j]? = some (.int .u32 (sts 4 j : Nat))) : cs = tabV := by
  apply Array.ext_getElem?
  intro j
  by_cases hj : j < 16
  · rw [h j hj, tab_get j hj]
  · rw [Array.getElem?_eq_none (by omega), Array.getElem?_eq_none (by simp [tabV]; omega)]

set_option maxHeartbeats 1000000 in
theorem row_any (w : World) :
    Calls Try.prog 231 #[] w fun e w' => e = .returned (.agg #[.int .u32 0, .int .u32 498536548, .int .u32 997073096, .int .u32 651767980, .int .u32 1994146192, .int .u32 1802195444, .int .u32 1303535960, .int .u32 1342533948, .int .u32 3988292384, .int .u32 4027552580, .int .u32 3604390888, .int .u32 3412177804, .int .u32 2607071920, .int .u32 2262029012, .int .u32 2685067896, .int .u32 3183342108]) ∧ Keeps w w' := by
  go_enter Try.func231, Try.ntmps231
  go_wp2
  go_loopw [1, 2, 3, 8] (fun s1 s2 i s8 wr => ∃ (k : Nat) (cs : Array Value), k ≤ 16 ∧ i = .int .i64 k ∧ wr = w.alloc (.cells cs 279) ∧ cs.size = 16 ∧ Hid (∀ j, j < k → cs[j]? = some (.int .u32 (sts 4 j : Nat)))) (fun _ _ i _ _ => 16 - (intOf i).toNat)
  case atStart => exact ⟨0, _, by omega, rfl, rfl, rfl, Lib.hid (by omega)⟩
  case round =>
    obtain ⟨k, cs, hk, rfl, rfl, hsz, HC⟩ := hrel
    have HZ := Lib.hid hsz
    clear hsz
    by_cases hlt : k < 16
    · obtain ⟨old, hold⟩ : ∃ old, cs[k]? = some old := ⟨cs[k]'(by have := HZ.out; omega), by simp [HZ.out, hlt]⟩
      have hcell : ((w.alloc (.cells cs 279)).cell? ⟨w.heap.size, k, none⟩) = some old := by
        rw [cell_alloc_new]; exact hold
      go_wp2
      go_loop [2, 8] (fun c s8 => ∃ j : Nat, j ≤ 4 ∧ s8 = .int .i64 j ∧ c = .int .u32 (sts j k : Nat)) (fun _ s8 => 4 - (intOf s8).toNat)
      case atStart => exact ⟨0, by omega, rfl, rfl⟩
      case round =>
        obtain ⟨j, hj, rfl, rfl⟩ := hrel
        have HS := Lib.hid (sts_snoc j k)
        have hc := sts_lt j (c := k) (by omega)
        by_cases hj4 : j < 4
        · generalize sts j k = c at *
          by_cases h : c % 2 = 1
          · have h' : (bits BinOp.and IntKind.u32 (c : Int) 1 == 1) = true := by
              have := u32_and_nat c 1 hc (by omega)
              rw [show ((1 : Nat) : Int) = 1 from rfl] at this
              rw [this, nat_mask1, h]
              rfl
            go_wp2
            go_round
            case rel => exact ⟨j + 1, by omega, by go_num, by rw [HS.out]; exact congrArg (Value.int IntKind.u32) (st_odd hc h)⟩
            case measure => simp [intOf] <;> omega
          · have h' : (bits BinOp.and IntKind.u32 (c : Int) 1 == 1) = false := by
              have := u32_and_nat c 1 hc (by omega)
              rw [show ((1 : Nat) : Int) = 1 from rfl] at this
              rw [this, nat_mask1, show c % 2 = 0 from by omega]
              rfl
            go_wp2
            go_round
            case rel => exact ⟨j + 1, by omega, by go_num, by rw [HS.out]; exact congrArg (Value.int IntKind.u32) (st_even h)⟩
            case measure => simp [intOf] <;> omega
        · obtain rfl : j = 4 := by omega
          clear HS
          generalize hv : sts 4 k = c at *
          have HV := Lib.hid hv
          clear hv
          go_wp2
          go_roundw
          case rel =>
            refine ⟨k + 1, cs.setIfInBounds k (.int .u32 (c : Int)), by omega, by go_num, ?_, by simp [HZ.out], Lib.hid fun j' hj' => ?_⟩
            · rfl
            · rw [Array.getElem?_setIfInBounds]
              split
              · rename_i e
                subst e
                rw [if_pos (by have := HZ.out; omega), HV.out]
              · exact HC.out j' (by omega)
          case measure => simp [intOf] <;> omega
    · obtain rfl : k = 16 := by omega
      have hcs := tab_of HZ.out HC.out
      subst hcs
      unfold tabV at *
      clear HC HZ
      go_wp2
      refine bodyPost_ret (by simp [results, Try.results231, go_sem] <;> rfl) rfl ⟨rfl, by repeat (first | assumption | exact Keeps.refl _ | refine Keeps.alloc ?_ _ | refine Keeps.setCell ?_ (by simp; try omega) _ | refine Keeps.drewN ?_ _ | refine Keeps.drew ?_)⟩

end Crc
end Go.Proofs.Ytohchhgheeolpaa

/- Get, half, Signed, Fits, Unsigned and Turn of the reference, octet.Get. -/
import Derived.Test.YtfmjlgkbohidjaaOctetRef
namespace Go.Proofs.Ytfmjlgkbohidjaa
open Go.RowKit

theorem Row.bytesAt {w : World} {v : Value} {l : List UInt8} (h : Row w v (l.map u8v)) (hl : 0 < l.length) : ∃ b off cap, v = .slice (some ⟨b, off, none⟩) l.length cap ∧ l.length ≤ cap ∧ cap ≤ 9223372036854775807 ∧ Hid (∀ i x, l[i]? = some x → w.cell? ⟨b, off + i, none⟩ = some (.int .u8 (x.toNat : Int))) := by
  rcases h with ⟨a0, cap', rfl, hl0, -, -⟩ | ⟨b, off, cap', rfl, h1, h2, hcell⟩
  · have : l = [] := by simpa using hl0
    subst this
    simp at hl
  · exact ⟨b, off, cap', by simp, by simpa using h1, by simpa [maxLen] using h2, Lib.hid fun i x hx => hcell i _ (by simp [hx, u8v])⟩
theorem Row.formB {w : World} {v : Value} {l : List UInt8} (h : Row w v (l.map u8v)) : ∃ p cap, v = .slice p l.length cap ∧ l.length ≤ cap ∧ cap ≤ 9223372036854775807 := by
  obtain ⟨p, cap, rfl, h1, h2⟩ := h.form
  rw [List.length_map] at *
  exact ⟨p, cap, rfl, h1, by simpa [maxLen] using h2⟩

theorem retI {k : IntKind} {a b : Int} (h : a = b) : Ending.returned (.int k a) = .returned (.int k b) := by rw [h]
theorem retB {a b : Bool} (h : a = b) : Ending.returned (.bool a) = .returned (.bool b) := by rw [h]
theorem retIB {k : IntKind} {a b : Int} {c d : Bool} (h : a = b) (h' : c = d) : Ending.returned (.tuple #[.int k a, .bool c]) = .returned (.tuple #[.int k b, .bool d]) := by rw [h, h']

namespace Oct
def half (n : Nat) : Nat := 128 * 256 ^ (n - 1)
theorem half_le {n : Nat} (h : n ≤ 8) : half n ≤ 9223372036854775808 := by
  unfold half
  have := Nat.pow_le_pow_right (show 0 < 256 by omega) (show n - 1 ≤ 7 by omega)
  have e : (256 : Nat) ^ 7 = 72057594037927936 := by decide
  omega
theorem half_pos (n : Nat) : 1 ≤ half n := by
  unfold half
  have : 0 < 256 ^ (n - 1) := Nat.pow_pos (by omega)
  omega
theorem two_half {n : Nat} (h : 1 ≤ n) : 2 * half n = 256 ^ n := by
  obtain ⟨m, rfl⟩ : ∃ m, n = m + 1 := ⟨n - 1, by omega⟩
  unfold half
  rw [Nat.add_sub_cancel, Nat.pow_succ]
  omega
theorem half_two {n : Nat} (h : 1 ≤ n) : half n = 2 ^ (8 * n - 1) := by
  obtain ⟨m, rfl⟩ : ∃ m, n = m + 1 := ⟨n - 1, by omega⟩
  unfold half
  rw [Nat.add_sub_cancel, show 8 * (m + 1) - 1 = 7 + 8 * m from by omega, Nat.pow_add, Nat.pow_mul]
theorem half_twoI {n : Nat} (h : 1 ≤ n) : (2 : Int) ^ (8 * n - 1) = (half n : Int) := by rw [half_two h]; simp
theorem full_twoI {n : Nat} (h : 1 ≤ n) : (2 : Int) ^ (8 * n) = 2 * (half n : Int) := by
  rw [show 8 * n = (8 * n - 1) + 1 from by omega, Int.pow_succ, half_twoI h]; omega
theorem sgn_half {v n : Nat} (h : 1 ≤ n) (hp : putB v n = true) : sgnV v n = (if (v : Int) < half n then (v : Int) else (v : Int) - 2 * half n) ∧ v < 2 * half n := by
  have hv : v < 256 ^ n := by simp [putB] at hp; exact hp.2
  refine ⟨?_, by rw [two_half h]; exact hv⟩
  unfold sgnV
  rw [if_pos hp, Int.toNat_natCast, half_twoI h, full_twoI h]
theorem fits_half {v : Int} {n : Nat} (h : 1 ≤ n) (h8 : n ≤ 8) : fitsB v n = decide (-(half n : Int) ≤ v ∧ v < half n) := by
  have : okk (n : Int) = true := by simp [okk]; omega
  unfold fitsB
  rw [this, Int.toNat_natCast, half_twoI h]
  simp
theorem uns_half {v : Int} {n : Nat} (h : 1 ≤ n) (h8 : n ≤ 8) (hf : fitsB v n = true) : (unsV v n : Int) = if 0 ≤ v then v else v + 2 * half n := by
  rw [fits_half h h8] at hf
  have hb : -(half n : Int) ≤ v ∧ v < half n := of_decide_eq_true hf
  unfold unsV
  rw [Int.toNat_natCast, full_twoI h]
  split
  · rw [Int.emod_eq_of_lt (by omega) (by omega)]; omega
  · rw [show v % (2 * (half n : Int)) = (v + 2 * half n) % (2 * half n) from by simp, Int.emod_eq_of_lt (by omega) (by omega)]; omega

theorem half_any (n : Nat) (h1 : 1 ≤ n) (h8 : n ≤ 8) (w : World) : Calls Try.prog 63 #[.int .i64 (n : Int)] w fun e w' => e = .returned (.int .u64 (half n : Nat)) ∧ w = w' := by
  go_enter Try.func63, Try.ntmps63
  go_wp2
  go_loop [3, 4] (fun a i => ∃ j a' : Nat, j ≤ n ∧ 1 ≤ j ∧ i = .int .i64 j ∧ a = .int .u64 (a' : Int) ∧ a' = half j) (fun _ i => n - (intOf i).toNat)
  case atStart => exact ⟨1, 128, by omega, by omega, rfl, rfl, rfl⟩
  case round =>
    obtain ⟨j, a', hj, hj1, rfl, rfl, ha⟩ := hrel
    have HA := Lib.hid ha
    clear ha
    by_cases hlt : j < n
    · have ha7 : a' ≤ 36028797018963968 := by
        rw [HA.out]; unfold half
        have := Nat.pow_le_pow_right (show 0 < 256 by omega) (show j - 1 ≤ 6 by omega)
        have e : (256 : Nat) ^ 6 = 281474976710656 := by decide
        omega
      go_wp2
      go_round
      case rel => exact ⟨j + 1, 256 * a', by omega, by omega, by go_num, rfl, by
        rw [HA.out]; unfold half
        rw [show j + 1 - 1 = (j - 1) + 1 from by omega, Nat.pow_succ]; omega⟩
      case measure => simp [intOf] <;> omega
    · obtain rfl : j = n := by omega
      go_wp2
      go_ret
      exact ⟨retI (by rw [HA.out]), rfl⟩

theorem rSigned_any (v : Nat) (hv : v < 18446744073709551616) (k : Int) (w : World) : Calls Try.prog 20 #[.int .u64 (v : Int), .int .i64 k] w fun e w' => e = .returned (.tuple #[.int .i64 (sgnV v k), .bool (putB v k)]) ∧ w = w' := by
  cases hk : okk k
  · have hp := putB_false (v := v) hk
    have hk' : ¬ (1 ≤ k ∧ k ≤ 8) := by simpa [okk] using hk
    have H : Hid (sgnV v k = 0 ∧ putB v k = false) := Lib.hid ⟨by simp [sgnV, hp], hp⟩
    clear hp hk
    by_cases h1 : k < 1
    · go_enter Try.func20, Try.ntmps20
      go_wp2
      go_ret2
      exact ⟨retIB H.out.1.symm H.out.2.symm, rfl⟩
    · have h2 : 8 < k := by omega
      clear hk'
      go_enter Try.func20, Try.ntmps20
      go_wp2
      go_ret2
      exact ⟨retIB H.out.1.symm H.out.2.symm, rfl⟩
  · have HC := Lib.hid (rfits_any v hv k hk w)
    cases hp : putB v k
    · have H : Hid (sgnV v k = 0) := Lib.hid (by simp [sgnV, hp])
      have hk' : 1 ≤ k ∧ k ≤ 8 := by simpa [okk] using hk
      rw [hp] at HC
      clear hp hk
      go_enter Try.func20, Try.ntmps20
      go_wp2_with (go_at_call 62; refine HC.out.mono ?_; rintro e w' ⟨rfl, rfl⟩)
      go_ret2
      exact ⟨retIB H.out.symm rfl, rfl⟩
    · obtain ⟨n, rfl, h1, h8⟩ := okk_nat hk
      have hs := sgn_half h1 hp
      have hh := half_le h8
      have hp1 := half_pos n
      have hv2 := hs.2
      have HS := Lib.hid hs.1
      have HH := Lib.hid (half_any n h1 h8 w)
      rw [hp] at HC
      clear hp hk hs
      generalize half n = m at *
      by_cases hlt : v < m
      · have H : Hid (sgnV v (n : Int) = v) := Lib.hid (by rw [HS.out, if_pos (by omega)])
        clear HS
        go_enter Try.func20, Try.ntmps20
        go_wp2_with (first | (go_at_call 62; refine HC.out.mono ?_; rintro e w' ⟨rfl, rfl⟩) | (go_at_call 63; refine HH.out.mono ?_; rintro e w' ⟨rfl, rfl⟩))
        go_ret2
        exact ⟨retIB H.out.symm rfl, rfl⟩
      · have H : Hid (sgnV v (n : Int) = (v : Int) - 2 * m) := Lib.hid (by rw [HS.out, if_neg (by omega)])
        clear HS
        go_enter Try.func20, Try.ntmps20
        go_wp2_with (first | (go_at_call 62; refine HC.out.mono ?_; rintro e w' ⟨rfl, rfl⟩) | (go_at_call 63; refine HH.out.mono ?_; rintro e w' ⟨rfl, rfl⟩))
        go_ret2
        exact ⟨retIB (by rw [H.out]; omega) rfl, rfl⟩

theorem rFits_any (v : Int) (k : Int) (hv : -9223372036854775808 ≤ v ∧ v ≤ 9223372036854775807) (w : World) : Calls Try.prog 32 #[.int .i64 v, .int .i64 k] w fun e w' => e = .returned (.bool (fitsB v k)) ∧ w = w' := by
  obtain ⟨hv1, hv2⟩ := hv
  cases hk : okk k
  · have hk' : ¬ (1 ≤ k ∧ k ≤ 8) := by simpa [okk] using hk
    have H : Hid (fitsB v k = false) := Lib.hid (by simp [fitsB, hk])
    clear hk
    by_cases h1 : k < 1
    · go_enter Try.func32, Try.ntmps32
      go_wp2
      go_ret
      exact ⟨retB H.out.symm, rfl⟩
    · have h2 : 8 < k := by omega
      clear hk'
      go_enter Try.func32, Try.ntmps32
      go_wp2
      go_ret
      exact ⟨retB H.out.symm, rfl⟩
  · obtain ⟨n, rfl, h1, h8⟩ := okk_nat hk
    have HF := Lib.hid (fits_half (v := v) h1 h8)
    have hh := half_le h8
    have HH := Lib.hid (half_any n h1 h8 w)
    clear hk
    generalize half n = m at *
    by_cases h0 : 0 ≤ v
    · go_enter Try.func32, Try.ntmps32
      go_wp2_with (go_at_call 63; refine HH.out.mono ?_; rintro e w' ⟨rfl, rfl⟩)
      go_ret
      refine ⟨retB ?_, rfl⟩
      rw [HF.out, Bool.eq_iff_iff]
      simp
      omega
    · go_enter Try.func32, Try.ntmps32
      go_wp2_with (go_at_call 63; refine HH.out.mono ?_; rintro e w' ⟨rfl, rfl⟩)
      go_ret
      refine ⟨retB ?_, rfl⟩
      rw [HF.out, Bool.eq_iff_iff]
      simp
      omega

theorem rUnsigned_any (v : Int) (k : Int) (hf : fitsB v k = true) (w : World) : Calls Try.prog 40 #[.int .i64 v, .int .i64 k] w fun e w' => e = .returned (.int .u64 (unsV v k : Nat)) ∧ w = w' := by
  have hk : okk k = true := by simp [fitsB] at hf; exact hf.1
  obtain ⟨n, rfl, h1, h8⟩ := okk_nat hk
  have HU := Lib.hid (uns_half h1 h8 hf)
  rw [fits_half h1 h8] at hf
  have hb : -(half n : Int) ≤ v ∧ v < half n := of_decide_eq_true hf
  have hh := half_le h8
  have HH := Lib.hid (half_any n h1 h8 w)
  clear hk hf
  generalize half n = m at *
  obtain ⟨hb1, hb2⟩ := hb
  by_cases h0 : 0 ≤ v
  · have HU' : Hid ((unsV v (n : Int) : Int) = v) := Lib.hid (by rw [HU.out, if_pos h0])
    clear HU
    go_enter Try.func40, Try.ntmps40
    go_wp2_with (go_at_call 63; refine HH.out.mono ?_; rintro e w' ⟨rfl, rfl⟩)
    go_ret
    exact ⟨retI HU'.out.symm, rfl⟩
  · have HU' : Hid ((unsV v (n : Int) : Int) = v + 2 * m) := Lib.hid (by rw [HU.out, if_neg h0])
    clear HU
    go_enter Try.func40, Try.ntmps40
    go_wp2_with (go_at_call 63; refine HH.out.mono ?_; rintro e w' ⟨rfl, rfl⟩)
    go_ret
    exact ⟨retI (by rw [HU'.out]; omega), rfl⟩
end Oct
end Go.Proofs.Ytfmjlgkbohidjaa

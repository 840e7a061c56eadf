/- Get, half, Signed, Fits, Unsigned and Turn of the reference, octet.Get. -/
import Derived.Test.YtohchhgheeolpaaOctetRef
namespace Go.Proofs.Ytohchhgheeolpaa
open Go.RowKit

theorem Row.bytesAt {w : World} {v : Value} {l : List UInt8} (h : Row w v (l.map u8v)) (hl : 0 < l.length) : ∃ b off cap, v = .slice (some ⟨b, off, none⟩) l.length cap ∧ l.length ≤ cap ∧ cap ≤ 9223372036854775807 ∧ Hid (∀ i x, l[i]? = some x → w.cell? ⟨b, off + i, none⟩ = some (.int .u8 (x.toNat : Int))) := by
  rcases h with ⟨a0, cap', rfl, hl0, -, -⟩ | ⟨b, off, cap', rfl, h1, h2, hcell⟩
  · have : l = [] := by simpa using hl0
    subst this
    simp at hl
  · exact ⟨b, off, cap', by simp, by simpa using h1, by simpa [maxLen] using h2, Lib.hid fun i x hx => hcell i _ (by simp [hx, u8v])⟩
theorem Row.formB {w : World} {v : Value} {l : List UInt8} (h : Row w v (l.map u8v)) : ∃ p cap, v = .slice p l.length cap ∧ l.length ≤ cap ∧ cap ≤ 9223372036854775807 := by
  obtain ⟨p, cap, rfl, h1, h2⟩ := h.form
  rw [List.length_map] at *
  exact ⟨p, cap, rfl, h1, by simpa [maxLen] using h2⟩

theorem retI {k : IntKind} {a b : Int} (h : a = b) : Ending.returned (.int k a) = .returned (.int k b) := by rw [h]
theorem retB {a b : Bool} (h : a = b) : Ending.returned (.bool a) = .returned (.bool b) := by rw [h]
theorem retIB {k : IntKind} {a b : Int} {c d : Bool} (h : a = b) (h' : c = d) : Ending.returned (.tuple #[.int k a, .bool c]) = .returned (.tuple #[.int k b, .bool d]) := by rw [h, h']

namespace Oct
def half (n : Nat) : Nat := 128 * 256 ^ (n - 1)
theorem half_le {n : Nat} (h : n ≤ 8) : half n ≤ 9223372036854775808 := by
  unfold half
  have := Nat.pow_le_pow_right (show 0 < 256 by omega) (show n - 1 ≤ 7 by omega)
  have e : (256 : Nat) ^ 7 = 72057594037927936 := by decide
  omega
theorem half_pos (n : Nat) : 1 ≤ half n := by
  unfold half
  have : 0 < 256 ^ (n - 1) := Nat.pow_pos (by omega)
  omega
theorem two_half {n : Nat} (h : 1 ≤ n) : 2 * half n = 256 ^ n := by
  obtain ⟨m, rfl⟩ : ∃ m, n = m + 1 := ⟨n - 1, by omega⟩
  unfold half
  rw [Nat.add_sub_cancel, Nat.pow_succ]
  omega
theorem half_two {n : Nat} (h : 1 ≤ n) : half n = 2 ^ (8 * n - 1) := by
  obtain ⟨m, rfl⟩ : ∃ m, n = m + 1 := ⟨n - 1, by omega⟩
  unfold half
  rw [Nat.add_sub_cancel, show 8 * (m + 1) - 1 = 7 + 8 * m from by omega, Nat.pow_add, Nat.pow_mul]
theorem half_twoI {n : Nat} (h : 1 ≤ n) : (2 : Int) ^ (8 * n - 1) = (half n : Int) := by rw [half_two h]; simp
theorem full_twoI {n : Nat} (h : 1 ≤ n) : (2 : Int) ^ (8 * n) = 2 * (half n : Int) := by
  rw [show 8 * n = (8 * n - 1) + 1 from by omega, Int.pow_succ, half_twoI h]; omega
theorem sgn_half {v n : Nat} (h : 1 ≤ n) (hp : putB v n = true) : sgnV v n = (if (v : Int) < half n then (v : Int) else (v : Int) - 2 * half n) ∧ v < 2 * half n := by
  have hv : v < 256 ^ n := by simp [putB] at hp; exact hp.2
  refine ⟨?_, by rw [two_half h]; exact hv⟩
  unfold sgnV
  rw [if_pos hp, Int.toNat_natCast, half_twoI h, full_twoI h]
theorem fits_half {v : Int} {n : Nat} (h : 1 ≤ n) (h8 : n ≤ 8) : fitsB v n = decide (-(half n : Int) ≤ v ∧ v < half n) := by
  have : okk (n : Int) = true := by simp [okk]; omega
  unfold fitsB
  rw [this, Int.toNat_natCast, half_twoI h]
  simp
theorem uns_half {v : Int} {n : Nat} (h : 1 ≤ n) (h8 : n ≤ 8) (hf : fitsB v n = true) : (unsV v n : Int) = if 0 ≤ v then v else v + 2 * half n := by
  rw [fits_half h h8] at hf
  have hb : -(half n : Int) ≤ v ∧ v < half n := of_decide_eq_true hf
  unfold unsV
  rw [Int.toNat_natCast, full_twoI h]
  split
  · rw [Int.emod_eq_of_lt (by omega) (by omega)]; omega
  · rw [show v % (2 * (half n : Int)) = (v + 2 * half n) % (2 * half n) from by simp, Int.emod_eq_of_lt (by omega) (by omega)]; omega

end Oct
end Go.Proofs.Ytohchhgheeolpaa

/- Many bytes 00: matrices of bits, plain. No program. -/
import Derived.Test.YtdleoohhnldlgaaCrcPlain
namespace Go.Proofs.Ytdleoohhnldlgaa.Crc

theorem sts_zero' (n : Nat) : sts n 0 = 0 := by
  induction n with
  | zero => rfl
  | succ n ih => simp only [sts]; exact ih
/-- what a matrix makes of the bits of a number from i on, k of them -/
def appN (M : Nat → Nat) (c : Nat) : Nat → Nat
  | 0 => 0
  | k + 1 => if (c / 2 ^ k) % 2 = 1 then appN M c k ^^^ M k else appN M c k
/-- the low bits -/
theorem low_succ (c k : Nat) : c % 2 ^ (k + 1) = if (c / 2 ^ k) % 2 = 1 then (c % 2 ^ k) ^^^ 2 ^ k else c % 2 ^ k := by
  apply Nat.eq_of_testBit_eq
  intro i
  have hk : (c / 2 ^ k) % 2 = 1 ↔ c.testBit k = true := by
    rw [Nat.testBit_eq_decide_div_mod_eq, decide_eq_true_eq]
  by_cases h : (c / 2 ^ k) % 2 = 1
  · rw [if_pos h, Nat.testBit_xor, Nat.testBit_mod_two_pow, Nat.testBit_mod_two_pow, Nat.testBit_two_pow]
    by_cases hi : i = k
    · subst hi; simp [hk.1 h]
    · have : ¬ k = i := fun e => hi e.symm
      by_cases h2 : i < k
      · simp [this, h2, show i < k + 1 from by omega]
      · simp [this, h2, show ¬ i < k + 1 from by omega]
  · rw [if_neg h, Nat.testBit_mod_two_pow, Nat.testBit_mod_two_pow]
    by_cases hi : i = k
    · subst hi
      have : c.testBit i = false := by
        cases hc : c.testBit i with
        | false => rfl
        | true => exact absurd (hk.2 hc) h
      simp [this]
    · by_cases h2 : i < k
      · simp [h2, show i < k + 1 from by omega]
      · simp [h2, show ¬ i < k + 1 from by omega]
theorem appN_lin {f : Nat → Nat} (h0 : f 0 = 0) (hx : ∀ a b, f (a ^^^ b) = f a ^^^ f b) {M : Nat → Nat} (c : Nat) : ∀ k, (∀ i, i < k → M i = f (2 ^ i)) → appN M c k = f (c % 2 ^ k) := by
  intro k
  induction k with
  | zero => intro _; rw [Nat.pow_zero, Nat.mod_one, h0]; rfl
  | succ k ih =>
    intro hM
    have hi := ih (fun i h => hM i (by omega))
    rw [low_succ]
    unfold appN
    by_cases h : (c / 2 ^ k) % 2 = 1
    · rw [if_pos h, if_pos h, hi, hx, hM k (by omega)]
    · rw [if_neg h, if_neg h, hi]
/-- the matrix of n steps, at work -/
theorem app_sts {M : Nat → Nat} {n : Nat} (hM : ∀ i, i < 32 → M i = sts n (2 ^ i)) {c : Nat} (hc : c < 4294967296) : appN M c 32 = sts n c := by
  rw [appN_lin (f := sts n) (sts_zero' n) (sts_xor n) c 32 hM, Nat.mod_eq_of_lt (by omega)]

theorem upd_zero (c : Nat) : upd c 0 = sts 8 c := by
  unfold upd
  rw [show ((0 : UInt8).toNat) = 0 from rfl, Nat.xor_zero]
theorem run_zeros (n : Nat) : ∀ c, run c (List.replicate n 0) = sts (8 * n) c := by
  induction n with
  | zero => intro c; rfl
  | succ n ih =>
    intro c
    rw [List.replicate_succ]
    show run (upd c 0) (List.replicate n 0) = _
    rw [ih, upd_zero, ← sts_add]
    congr 1
    omega
/-- the sum behind so many bytes 00 -/
def zer (s n : Nat) : Nat := 4294967295 - sts (8 * n) (4294967295 - s)
theorem zer_more (s n : Nat) : zer s n = more s (List.replicate n 0) := by unfold zer more; rw [run_zeros]
theorem zer_lt (s n : Nat) : zer s n < 4294967296 := by unfold zer; omega
theorem zer_add (s a b : Nat) : zer (zer s a) b = zer s (a + b) := by
  unfold zer
  have := sts_lt (8 * a) (c := 4294967295 - s) (by omega)
  rw [show 4294967295 - (4294967295 - sts (8 * a) (4294967295 - s)) = sts (8 * a) (4294967295 - s) from by omega, ← sts_add, Nat.mul_add]
/-- one round of the loop over the bits of n -/
theorem zer_round (k n c : Nat) : sts (8 * k * n) c = if n % 2 = 1 then sts (8 * (2 * k) * (n / 2)) (sts (8 * k) c) else sts (8 * (2 * k) * (n / 2)) c := by
  have hq : ∀ q, 8 * k * (2 * q) = 8 * (2 * k) * q := fun q => by rw [← Nat.mul_assoc, Nat.mul_assoc 8 k 2, Nat.mul_comm k 2]
  have hn := hq (n / 2)
  split
  · rename_i h
    rw [← sts_add]
    have e : 8 * k * n = 8 * k + 8 * (2 * k) * (n / 2) := by
      conv => lhs; rw [show n = 2 * (n / 2) + 1 from by omega, Nat.mul_add, Nat.mul_one]
      omega
    rw [e]
  · rename_i h
    have e : 8 * k * n = 8 * (2 * k) * (n / 2) := by
      conv => lhs; rw [show n = 2 * (n / 2) from by omega]
      exact hn
    rw [e]
end Go.Proofs.Ytdleoohhnldlgaa.Crc

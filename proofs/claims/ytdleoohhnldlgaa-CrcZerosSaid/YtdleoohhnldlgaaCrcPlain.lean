/- The plain arithmetic of check sums: one step, half a byte, a byte, many; steps are linear and one to one. No program. -/
import Derived.Test.YtdleoohhnldlgaaBase
namespace Go.Proofs.Ytdleoohhnldlgaa.Crc

/-- one step -/
def st (c : Nat) : Nat := if c % 2 = 1 then (c / 2) ^^^ 3988292384 else c / 2
/-- n steps -/
def sts : Nat → Nat → Nat
  | 0, c => c
  | n + 1, c => sts n (st c)
/-- a byte -/
def upd (c : Nat) (x : UInt8) : Nat := sts 8 (c ^^^ x.toNat)
def run (c : Nat) (l : List UInt8) : Nat := l.foldl upd c
/-- the sum of bytes that had a sum, and more -/
def more (s : Nat) (l : List UInt8) : Nat := 4294967295 - run (4294967295 - s) l

theorem st_lt {c : Nat} (h : c < 4294967296) : st c < 4294967296 := by
  unfold st
  split
  · exact Nat.xor_lt_two_pow (n := 32) (by omega) (by omega)
  · omega
theorem sts_lt (n : Nat) : ∀ {c : Nat}, c < 4294967296 → sts n c < 4294967296 := by
  induction n with
  | zero => intro c h; exact h
  | succ n ih => intro c h; exact ih (st_lt h)
theorem xor_lt {a b : Nat} (h : a < 4294967296) (k : b < 4294967296) : a ^^^ b < 4294967296 := Nat.xor_lt_two_pow (n := 32) h k
theorem byte_lt (x : UInt8) : x.toNat < 256 := x.toNat_lt
theorem upd_lt {c : Nat} (h : c < 4294967296) (x : UInt8) : upd c x < 4294967296 := sts_lt 8 (xor_lt h (by have := byte_lt x; omega))
theorem run_lt (l : List UInt8) : ∀ {c : Nat}, c < 4294967296 → run c l < 4294967296 := by
  induction l with
  | nil => intro c h; exact h
  | cons x l ih => intro c h; exact ih (upd_lt h x)
theorem more_lt (s : Nat) (l : List UInt8) : more s l < 4294967296 := by unfold more; omega

theorem xor_odd (a b : Nat) : (a ^^^ b) % 2 = (a % 2 + b % 2) % 2 := by
  have ha : a % 2 = 0 ∨ a % 2 = 1 := by omega
  have hb : b % 2 = 0 ∨ b % 2 = 1 := by omega
  have := Nat.xor_mod_two_pow (a := a) (b := b) (n := 1)
  simp only [Nat.pow_one] at this
  rw [this]
  rcases ha with h | h <;> rcases hb with k | k <;> rw [h, k] <;> rfl

theorem st_xor (a b : Nat) : st (a ^^^ b) = st a ^^^ st b := by
  have h := xor_odd a b
  have hd : (a ^^^ b) / 2 = a / 2 ^^^ b / 2 := by
    have := Nat.xor_div_two_pow (a := a) (b := b) (n := 1)
    simpa using this
  unfold st
  rw [h, hd]
  have ha : a % 2 = 0 ∨ a % 2 = 1 := by omega
  have hb : b % 2 = 0 ∨ b % 2 = 1 := by omega
  rcases ha with ha | ha <;> rcases hb with hb | hb <;> simp [ha, hb]
  · rw [Nat.xor_assoc]
  · rw [Nat.xor_assoc, Nat.xor_assoc, Nat.xor_comm 3988292384 (b / 2)]
  · rw [Nat.xor_assoc, ← Nat.xor_assoc 3988292384, Nat.xor_comm 3988292384 (b / 2), Nat.xor_assoc, Nat.xor_self, Nat.xor_zero]
theorem sts_xor (n : Nat) : ∀ a b, sts n (a ^^^ b) = sts n a ^^^ sts n b := by
  induction n with
  | zero => intro a b; rfl
  | succ n ih => intro a b; simp only [sts]; rw [st_xor, ih]
theorem sts_add (n m : Nat) : ∀ c, sts (n + m) c = sts m (sts n c) := by
  induction n with
  | zero => intro c; simp [sts]
  | succ n ih => intro c; rw [Nat.succ_add]; simp only [sts]; exact ih _

/-- half a byte by the table -/
def nib (c : Nat) : Nat := sts 4 (c % 16) ^^^ (c / 16)
theorem split16 (c : Nat) : c = (c / 16 * 16) ^^^ (c % 16) := by
  have h : (c / 16 * 16) ||| (c % 16) = c / 16 * 16 + c % 16 := by
    have := Nat.shiftLeft_add_eq_or_of_lt (i := 4) (b := c % 16) (by omega) (c / 16)
    rw [Nat.shiftLeft_eq] at this
    exact this.symm
  have h2 : (c / 16 * 16) &&& (c % 16) = 0 := by
    apply Nat.eq_of_testBit_eq
    intro i
    rw [Nat.testBit_and, Nat.zero_testBit]
    by_cases hi : i < 4
    · have : (c / 16 * 16).testBit i = false := by
        rw [show (16 : Nat) = 2 ^ 4 from rfl, Nat.testBit_mul_two_pow]
        simp; omega
      simp [this]
    · have : (c % 16).testBit i = false := Nat.testBit_lt_two_pow (Nat.lt_of_lt_of_le (by omega : c % 16 < 2 ^ 4) (Nat.pow_le_pow_right (by omega) (by omega)))
      simp [this]
  have h3 : (c / 16 * 16) ^^^ (c % 16) = (c / 16 * 16) ||| (c % 16) := by
    apply Nat.eq_of_testBit_eq
    intro i
    have := congrArg (fun n => Nat.testBit n i) h2
    simp only [Nat.testBit_and, Nat.zero_testBit] at this
    rw [Nat.testBit_xor, Nat.testBit_or]
    cases hx : (c / 16 * 16).testBit i <;> cases hy : (c % 16).testBit i <;> simp_all
  rw [h3, h]
  omega
theorem sts_even (k : Nat) (c : Nat) : sts 4 (c * 16) = c := by
  have h1 : ∀ d, st (d * 2) = d := fun d => by unfold st; rw [if_neg (by omega)]; omega
  simp only [sts]
  rw [show c * 16 = c * 8 * 2 from by omega, h1, show c * 8 = c * 4 * 2 from by omega, h1, show c * 4 = c * 2 * 2 from by omega, h1, h1]
theorem nib_eq (c : Nat) : nib c = sts 4 c := by
  conv => rhs; rw [split16 c, sts_xor, sts_even 0]
  rw [Nat.xor_comm]
  rfl
theorem upd_nib (c : Nat) (x : UInt8) : upd c x = nib (nib (c ^^^ x.toNat)) := by
  rw [nib_eq, nib_eq, ← sts_add]; rfl

theorem st_zero {x : Nat} (h : x < 4294967296) (k : st x = 0) : x = 0 := by
  unfold st at k
  split at k
  · exfalso
    have : x / 2 = 3988292384 := by
      have := congrArg (· ^^^ 3988292384) k
      simp only [Nat.xor_assoc, Nat.xor_self, Nat.xor_zero, Nat.zero_xor] at this
      exact this
    omega
  · omega
theorem sts_zero (n : Nat) : ∀ {x : Nat}, x < 4294967296 → sts n x = 0 → x = 0 := by
  induction n with
  | zero => intro x _ k; exact k
  | succ n ih => intro x h k; exact st_zero h (ih (st_lt h) k)
theorem sts_inj {n a b : Nat} (ha : a < 4294967296) (hb : b < 4294967296) (h : sts n a = sts n b) : a = b := by
  have : sts n (a ^^^ b) = 0 := by rw [sts_xor, h, Nat.xor_self]
  have := sts_zero n (xor_lt ha hb) this
  have h2 := congrArg (· ^^^ b) this
  simp only [Nat.xor_assoc, Nat.xor_self, Nat.xor_zero, Nat.zero_xor] at h2
  exact h2
theorem upd_inj {a b : Nat} {x : UInt8} (ha : a < 4294967296) (hb : b < 4294967296) (h : upd a x = upd b x) : a = b := by
  have hx := byte_lt x
  have h1 := sts_inj (xor_lt ha (by omega)) (xor_lt hb (by omega)) h
  have h2 := congrArg (· ^^^ x.toNat) h1
  simp only [Nat.xor_assoc, Nat.xor_self, Nat.xor_zero] at h2
  exact h2
theorem upd_inj2 {a : Nat} {x y : UInt8} (ha : a < 4294967296) (h : upd a x = upd a y) : x = y := by
  have hx := byte_lt x
  have hy := byte_lt y
  have h1 := sts_inj (xor_lt ha (by omega)) (xor_lt ha (by omega)) h
  have h2 := congrArg (a ^^^ ·) h1
  simp only [← Nat.xor_assoc, Nat.xor_self, Nat.zero_xor] at h2
  exact UInt8.toNat_inj.1 h2
theorem run_inj (l : List UInt8) : ∀ {a b : Nat}, a < 4294967296 → b < 4294967296 → run a l = run b l → a = b := by
  induction l with
  | nil => intro a b _ _ h; exact h
  | cons x l ih => intro a b ha hb h; exact upd_inj ha hb (ih (upd_lt ha x) (upd_lt hb x) h)
theorem run_append (c : Nat) (l m : List UInt8) : run c (l ++ m) = run (run c l) m := by simp [run, List.foldl_append]
theorem more_append (s : Nat) (l m : List UInt8) : more (more s l) m = more s (l ++ m) := by
  unfold more
  rw [run_append]
  have := run_lt l (c := 4294967295 - s) (by omega)
  rw [show 4294967295 - (4294967295 - run (4294967295 - s) l) = run (4294967295 - s) l from by omega]
theorem more_inj {s t : Nat} {l : List UInt8} (hs : s < 4294967296) (ht : t < 4294967296) (h : more s l = more t l) : s = t := by
  unfold more at h
  have h1 := run_lt l (c := 4294967295 - s) (by omega)
  have h2 := run_lt l (c := 4294967295 - t) (by omega)
  have := run_inj l (a := 4294967295 - s) (b := 4294967295 - t) (by omega) (by omega) (by omega)
  omega
/-- one byte turned turns the sum -/
theorem more_tells (s : Nat) (l m : List UInt8) {x y : UInt8} (h : x ≠ y) : more s (l ++ x :: m) ≠ more s (l ++ y :: m) := by
  intro e
  apply h
  unfold more at e
  rw [run_append, run_append] at e
  have hc := run_lt l (c := 4294967295 - s) (by omega)
  generalize run (4294967295 - s) l = c at *
  have h1 := run_lt m (upd_lt hc x)
  have h2 := run_lt m (upd_lt hc y)
  have e2 : run (upd c x) m = run (upd c y) m := by
    have a : run c (x :: m) = run (upd c x) m := rfl
    have b : run c (y :: m) = run (upd c y) m := rfl
    omega
  exact upd_inj2 hc (run_inj m (upd_lt hc x) (upd_lt hc y) e2)
end Go.Proofs.Ytdleoohhnldlgaa.Crc

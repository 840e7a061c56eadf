/- Numbers in bytes, the highest first: the plain arithmetic. No program. -/
import Derived.Test.YtfmjlgkbohidjaaBase
namespace Go.Proofs.Ytfmjlgkbohidjaa.Oct

/-- the k bytes of v -/
def be : Nat → Nat → List UInt8
  | 0, _ => []
  | k + 1, v => be k (v / 256) ++ [UInt8.ofNat (v % 256)]
/-- the number that bytes tell -/
def valOf (l : List UInt8) : Nat := l.foldl (fun v c => v * 256 + c.toNat) 0

theorem be_length (k : Nat) : ∀ v, (be k v).length = k := by
  induction k with
  | zero => intro v; rfl
  | succ k ih => intro v; simp [be, ih]
theorem valOf_snoc (l : List UInt8) (c : UInt8) : valOf (l ++ [c]) = valOf l * 256 + c.toNat := by simp [valOf, List.foldl_append]
theorem valOf_be (k : Nat) : ∀ v, valOf (be k v) = v % 256 ^ k := by
  induction k with
  | zero => intro v; simp [be, valOf, Nat.mod_one]
  | succ k ih =>
    intro v
    have hb : (UInt8.ofNat (v % 256)).toNat = v % 256 := by simp
    rw [be, valOf_snoc, ih, hb, Nat.pow_succ, Nat.mul_comm (256 ^ k) 256, Nat.mod_mul]
    omega
theorem snoc_ind {α : Type} {p : List α → Prop} (h0 : p []) (h1 : ∀ l x, p l → p (l ++ [x])) (l : List α) : p l := by
  have h : ∀ m : List α, p m.reverse := by
    intro m
    induction m with
    | nil => exact h0
    | cons x m ih => rw [List.reverse_cons]; exact h1 _ _ ih
  have := h l.reverse
  rwa [List.reverse_reverse] at this
theorem valOf_lt (l : List UInt8) : valOf l < 256 ^ l.length := by
  induction l using snoc_ind with
  | h0 => simp [valOf]
  | h1 l c ih =>
    have := c.toNat_lt
    rw [valOf_snoc, List.length_append, List.length_singleton, Nat.pow_succ]
    have h2 : (valOf l + 1) * 256 ≤ 256 ^ l.length * 256 := Nat.mul_le_mul_right _ ih
    omega
theorem be_valOf (l : List UInt8) : be l.length (valOf l) = l := by
  induction l using snoc_ind with
  | h0 => rfl
  | h1 l c ih =>
    have hc := c.toNat_lt
    rw [valOf_snoc, List.length_append, List.length_singleton, be]
    rw [show (valOf l * 256 + c.toNat) / 256 = valOf l from by omega, show (valOf l * 256 + c.toNat) % 256 = c.toNat from by omega, ih]
    simp
theorem be_get (k : Nat) : ∀ v i, i < k → (be k v)[i]? = some (UInt8.ofNat (v / 256 ^ (k - 1 - i) % 256)) := by
  induction k with
  | zero => intro v i h; omega
  | succ k ih =>
    intro v i h
    rw [be]
    by_cases hi : i < k
    · rw [List.getElem?_append_left (by rw [be_length]; exact hi), ih _ _ hi]
      have e : v / 256 / 256 ^ (k - 1 - i) = v / 256 ^ (k + 1 - 1 - i) := by
        rw [Nat.div_div_eq_div_mul, show k + 1 - 1 - i = (k - 1 - i) + 1 from by omega, Nat.pow_succ, Nat.mul_comm 256]
      rw [e]
    · have : i = k := by omega
      subst this
      rw [List.getElem?_append_right (by rw [be_length]; omega), be_length]
      simp

/-- the same bytes, the lowest first -/
def le : Nat → Nat → List UInt8
  | 0, _ => []
  | k + 1, v => le k v ++ [UInt8.ofNat (v / 256 ^ k % 256)]
theorem le_cons (k : Nat) : ∀ v, le (k + 1) v = UInt8.ofNat (v % 256) :: le k (v / 256) := by
  induction k with
  | zero => intro v; simp [le]
  | succ k ih =>
    intro v
    rw [le, ih, le, Nat.div_div_eq_div_mul, Nat.pow_succ, Nat.mul_comm 256]
    rfl
theorem be_reverse (k : Nat) : ∀ v, (be k v).reverse = le k v := by
  induction k with
  | zero => intro v; rfl
  | succ k ih => intro v; rw [le_cons, be, List.reverse_append, ih]; rfl
theorem or_byte (a : Nat) {b : Nat} (hb : b < 256) : a * 256 ||| b = a * 256 + b := by
  have := Nat.shiftLeft_add_eq_or_of_lt (i := 8) (b := b) hb a
  rw [Nat.shiftLeft_eq] at this
  exact this.symm
theorem le_length (k : Nat) : ∀ v, (le k v).length = k := by
  induction k with
  | zero => intro v; rfl
  | succ k ih => intro v; simp [le, ih]

/-- k is from 1 to 8 -/
def okk (k : Int) : Bool := decide (1 ≤ k ∧ k ≤ 8)
/-- Put answers true -/
def putB (v : Nat) (k : Int) : Bool := okk k && decide (v < 256 ^ k.toNat)
/-- what Put answers -/
def putL (v : Nat) (k : Int) : List UInt8 := if putB v k then be k.toNat v else []
/-- Get -/
def getB (l : List UInt8) (at' k : Int) : Bool := okk k && decide (0 ≤ at' ∧ at' + k ≤ l.length)
def getV (l : List UInt8) (at' k : Int) : Nat := if getB l at' k then valOf ((l.drop at'.toNat).take k.toNat) else 0
/-- Signed -/
def sgnV (v : Nat) (k : Int) : Int := if putB v k then (if (v : Int) < 2 ^ (8 * k.toNat - 1) then (v : Int) else (v : Int) - 2 ^ (8 * k.toNat)) else 0
/-- Fits -/
def fitsB (v k : Int) : Bool := okk k && decide (-(2 ^ (8 * k.toNat - 1)) ≤ v ∧ v < 2 ^ (8 * k.toNat - 1))
/-- the number whose k bytes a signed one has -/
def unsV (v k : Int) : Nat := (v % 2 ^ (8 * k.toNat)).toNat
/-- Turn -/
def turnV (v : Nat) (k : Int) : Nat := if putB v k then valOf (le k.toNat v) else 0

theorem okk_cases {k : Int} (h : okk k = true) : k = 1 ∨ k = 2 ∨ k = 3 ∨ k = 4 ∨ k = 5 ∨ k = 6 ∨ k = 7 ∨ k = 8 := by
  have : 1 ≤ k ∧ k ≤ 8 := by simpa [okk] using h
  omega
end Go.Proofs.Ytfmjlgkbohidjaa.Oct

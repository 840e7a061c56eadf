/- Frames: the plain forms. No program. -/
import Derived.Test.YtfmjlgkbohidjaaOctetPlain
import Derived.Test.YtfmjlgkbohidjaaCrcPlain
namespace Go.Proofs.Ytfmjlgkbohidjaa.Frm
open Oct

def veilB (c : UInt8) : List UInt8 := if c = 80 ∨ c = 81 then [81, c - 80] else [c]
def veil (l : List UInt8) : List UInt8 := l.flatMap veilB
def front (kind n : Nat) : List UInt8 := be 1 kind ++ be 4 n
def sumN (kind : Nat) (p : List UInt8) : Nat := Crc.more 0 (front kind p.length ++ p)
/-- what is veiled -/
def body (kind : Nat) (p : List UInt8) : List UInt8 := front kind p.length ++ (be 4 (sumN kind p) ++ p)
def wrapE (kind : Int) (n : Nat) : Int := if kind < 0 ∨ 255 < kind then 1 else if 65536 < n then 4 else 0
def wrapL (kind : Int) (p : List UInt8) : List UInt8 := if wrapE kind p.length = 0 then 80 :: veil (body kind.toNat p) else []

theorem veil_append (a b : List UInt8) : veil (a ++ b) = veil a ++ veil b := by simp [veil]
theorem veilB_len (c : UInt8) : 1 ≤ (veilB c).length ∧ (veilB c).length ≤ 2 := by unfold veilB; split <;> simp
theorem veil_len (l : List UInt8) : l.length ≤ (veil l).length ∧ (veil l).length ≤ 2 * l.length := by
  induction l with
  | nil => simp [veil]
  | cons c l ih =>
    have := veilB_len c
    simp only [veil, List.flatMap_cons, List.length_append, List.length_cons] at *
    omega
theorem veilB_mark (c : UInt8) : (80 : UInt8) ∉ veilB c := by
  unfold veilB
  split
  · rename_i h
    rcases h with rfl | rfl <;> decide
  · rename_i h
    simp only [List.mem_singleton]
    intro e
    exact h (.inl e.symm)
theorem veil_mark (l : List UInt8) : (80 : UInt8) ∉ veil l := by
  unfold veil
  rw [List.mem_flatMap]
  rintro ⟨c, -, h⟩
  exact veilB_mark c h
theorem front_len (kind n : Nat) : (front kind n).length = 5 := by simp [front, be_length]
theorem body_len (kind : Nat) (p : List UInt8) : (body kind p).length = 9 + p.length := by simp [body, front_len, be_length]; omega

/-- one byte that is read: 0, the byte, how many were used; or an error -/
def rd (l : List UInt8) : Int × UInt8 × Nat :=
  match l with
  | [] => (2, 0, 0)
  | c :: r => if c = 80 then (3, 0, 0) else if c = 81 then (match r with | [] => (2, 0, 0) | d :: _ => if d.toNat > 1 then (3, 0, 0) else (0, 80 + d, 2)) else (0, c, 1)
/-- k bytes -/
def rdN : Nat → List UInt8 → Int × List UInt8 × Nat
  | 0, _ => (0, [], 0)
  | k + 1, l => if (rd l).1 = 0 then ((rdN k (l.drop (rd l).2.2)).1, (rd l).2.1 :: (rdN k (l.drop (rd l).2.2)).2.1, (rd l).2.2 + (rdN k (l.drop (rd l).2.2)).2.2) else ((rd l).1, [], 0)

theorem rd_veil {l : List UInt8} (h : (rd l).1 = 0) : l = veilB (rd l).2.1 ++ l.drop (rd l).2.2 ∧ (rd l).2.2 = (veilB (rd l).2.1).length := by
  unfold rd at h ⊢
  cases l with
  | nil => simp at h
  | cons c r =>
    simp only at h ⊢
    split at h
    · simp at h
    · rename_i h80
      rw [if_neg h80]
      split at h
      · rename_i h81
        rw [if_pos h81]
        subst h81
        cases r with
        | nil => simp at h
        | cons d r =>
          simp only at h ⊢
          split at h
          · simp at h
          · rename_i hd
            rw [if_neg hd]
            have hd' : d = 0 ∨ d = 1 := by
              have : d.toNat = 0 ∨ d.toNat = 1 := by omega
              rcases this with h | h
              · left; exact UInt8.toNat_inj.1 h
              · right; exact UInt8.toNat_inj.1 h
            rcases hd' with rfl | rfl <;> simp [veilB] <;> decide
      · rename_i h81
        rw [if_neg h81]
        simp [veilB, h80, h81]
theorem rd_put (c : UInt8) (r : List UInt8) : rd (veilB c ++ r) = (0, c, (veilB c).length) := by
  unfold veilB
  by_cases h0 : c = 80
  · subst h0
    rw [if_pos (.inl rfl)]
    simp [rd]
  · by_cases h1 : c = 81
    · subst h1
      rw [if_pos (.inr rfl)]
      simp [rd]
    · rw [if_neg (by simp [h0, h1])]
      simp [rd, h0, h1]
theorem rdN_veil (k : Nat) : ∀ {l : List UInt8}, (rdN k l).1 = 0 → (rdN k l).2.1.length = k ∧ l = veil (rdN k l).2.1 ++ l.drop (rdN k l).2.2 ∧ (rdN k l).2.2 = (veil (rdN k l).2.1).length := by
  induction k with
  | zero => intro l _; simp [rdN, veil]
  | succ k ih =>
    intro l h
    by_cases h0 : (rd l).1 = 0
    · simp only [rdN, h0, if_true] at h ⊢
      obtain ⟨h1, h2, h3⟩ := ih h
      obtain ⟨h4, h5⟩ := rd_veil h0
      refine ⟨by simp [h1], ?_, ?_⟩
      · conv => lhs; rw [h4, h2]
        simp [veil, List.drop_drop, Nat.add_comm]
      · simp only [veil, List.flatMap_cons, List.length_append] at *
        omega
    · simp only [rdN, h0] at h
      simp at h
      exact absurd h h0
theorem rdN_put (m : List UInt8) : ∀ (r : List UInt8), rdN m.length (veil m ++ r) = (0, m, (veil m).length) := by
  induction m with
  | nil => intro r; rfl
  | cons c m ih =>
    intro r
    have h := rd_put c (veil m ++ r)
    have e : veil (c :: m) ++ r = veilB c ++ (veil m ++ r) := by simp [veil]
    rw [e]
    simp only [List.length_cons, rdN, h, if_true]
    rw [List.drop_left, ih]
    simp [veil]
theorem rdN_add (a b : Nat) : ∀ l, rdN (a + b) l = if (rdN a l).1 = 0 then ((rdN b (l.drop (rdN a l).2.2)).1, (rdN a l).2.1 ++ (rdN b (l.drop (rdN a l).2.2)).2.1, (rdN a l).2.2 + (rdN b (l.drop (rdN a l).2.2)).2.2) else rdN a l := by
  induction a with
  | zero => intro l; simp [rdN]
  | succ a ih =>
    intro l
    rw [show a + 1 + b = (a + b) + 1 from by omega]
    by_cases h0 : (rd l).1 = 0
    · simp only [rdN, h0, if_true, ih]
      by_cases h1 : (rdN a (l.drop (rd l).2.2)).1 = 0
      · simp [h1, List.drop_drop, Nat.add_assoc]
      · simp [h1]
    · simp [rdN, h0]
end Go.Proofs.Ytfmjlgkbohidjaa.Frm

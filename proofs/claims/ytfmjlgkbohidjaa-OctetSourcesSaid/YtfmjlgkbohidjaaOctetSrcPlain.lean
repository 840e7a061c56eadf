/- What is taken of any bytes, word by word: plain. -/
import Derived.Test.YtfmjlgkbohidjaaOctetBackPlain
namespace Go.Proofs.Ytfmjlgkbohidjaa
open Go.RowKit
namespace Oct

/-- what becomes of a word that is taken: the error, the place, the number, the text -/
def sE (L : List UInt8) (a : Nat) (er : Int) (x : Word) : Int :=
  if x.kind = 0 ∨ x.kind = 1 then uE L.length a er x.k else if x.kind = 2 then tE L a er x.n else if x.kind = 3 then rE L.length a er x.n else er
def sA (L : List UInt8) (a : Nat) (er : Int) (x : Word) : Nat :=
  if x.kind = 0 ∨ x.kind = 1 then uA L.length a er x.k else if x.kind = 2 then tA L a er x.n else if x.kind = 3 then rA L.length a er x.n else a
def sN (L : List UInt8) (a : Nat) (er : Int) (x : Word) : Int := (sA L a er x : Int) - a
def sV (L : List UInt8) (a : Nat) (er : Int) (x : Word) : Nat := if x.kind = 0 ∨ x.kind = 1 then uV L a er x.k else 0
def sT (L : List UInt8) (a : Nat) (er : Int) (x : Word) : List UInt8 := if x.kind = 2 then tL L a er x.n else if x.kind = 3 then rL L a er x.n else []

theorem uE_er {n a : Nat} {er k : Int} (h : er ≠ 0) : uE n a er k = er := by simp [uE, h]
theorem tE_er {L : List UInt8} {a : Nat} {er k : Int} (h : er ≠ 0) : tE L a er k = er := by
  unfold tE; rw [uE_er h, if_pos h]
theorem rE_er {n a : Nat} {er k : Int} (h : er ≠ 0) : rE n a er k = er := by simp [rE, h]
theorem uA_er {n a : Nat} {er k : Int} (h : er ≠ 0) : uA n a er k = a := by unfold uA; rw [uE_er h, if_neg h]
theorem uV_er {l : List UInt8} {a : Nat} {er k : Int} (h : er ≠ 0) : uV l a er k = 0 := by unfold uV; rw [uE_er h, if_neg h]
theorem tA_er {l : List UInt8} {a : Nat} {er k : Int} (h : er ≠ 0) : tA l a er k = a := by unfold tA; rw [tE_er h, if_neg h]
theorem tL_er {l : List UInt8} {a : Nat} {er k : Int} (h : er ≠ 0) : tL l a er k = [] := by unfold tL; rw [tE_er h, if_neg h]
theorem rA_er {n a : Nat} {er k : Int} (h : er ≠ 0) : rA n a er k = a := by unfold rA; rw [rE_er h, if_neg h]
theorem rL_er {l : List UInt8} {a : Nat} {er k : Int} (h : er ≠ 0) : rL l a er k = [] := by unfold rL; rw [rE_er h, if_neg h]
theorem s_er {L : List UInt8} {a : Nat} {er : Int} {x : Word} (h : er ≠ 0) : sE L a er x = er ∧ sA L a er x = a ∧ sN L a er x = 0 ∧ sV L a er x = 0 ∧ sT L a er x = [] := by
  have hA : sA L a er x = a := by unfold sA; rw [uA_er h, tA_er h, rA_er h]; simp
  refine ⟨by unfold sE; rw [uE_er h, tE_er h, rE_er h]; simp, hA, by unfold sN; rw [hA]; omega, by unfold sV; rw [uV_er h]; simp, by unfold sT; rw [tL_er h, rL_er h]; simp⟩
theorem s_num {L : List UInt8} {a : Nat} {er : Int} {x : Word} (h : x.kind = 0 ∨ x.kind = 1) : sE L a er x = uE L.length a er x.k ∧ sA L a er x = uA L.length a er x.k ∧ sV L a er x = uV L a er x.k ∧ sT L a er x = [] :=
  ⟨if_pos h, if_pos h, if_pos h, by unfold sT; rw [if_neg (by omega), if_neg (by omega)]⟩
theorem s_text {L : List UInt8} {a : Nat} {er : Int} {x : Word} (h : x.kind = 2) : sE L a er x = tE L a er x.n ∧ sA L a er x = tA L a er x.n ∧ sV L a er x = 0 ∧ sT L a er x = tL L a er x.n :=
  ⟨by unfold sE; rw [if_neg (by omega), if_pos h], by unfold sA; rw [if_neg (by omega), if_pos h], by unfold sV; rw [if_neg (by omega)], by unfold sT; rw [if_pos h]⟩
theorem s_raw {L : List UInt8} {a : Nat} {er : Int} {x : Word} (h : x.kind = 3) : sE L a er x = rE L.length a er x.n ∧ sA L a er x = rA L.length a er x.n ∧ sV L a er x = 0 ∧ sT L a er x = rL L a er x.n :=
  ⟨by unfold sE; rw [if_neg (by omega), if_neg (by omega), if_pos h], by unfold sA; rw [if_neg (by omega), if_neg (by omega), if_pos h], by unfold sV; rw [if_neg (by omega)], by unfold sT; rw [if_neg (by omega), if_pos h]⟩
theorem s_other {L : List UInt8} {a : Nat} {er : Int} {x : Word} (h0 : ¬ (x.kind = 0 ∨ x.kind = 1)) (h2 : ¬ x.kind = 2) (h3 : ¬ x.kind = 3) : sE L a er x = er ∧ sA L a er x = a ∧ sV L a er x = 0 ∧ sT L a er x = [] :=
  ⟨by unfold sE; rw [if_neg h0, if_neg h2, if_neg h3], by unfold sA; rw [if_neg h0, if_neg h2, if_neg h3], by unfold sV; rw [if_neg h0], by unfold sT; rw [if_neg h2, if_neg h3]⟩
theorem sA_le {L : List UInt8} {a : Nat} {x : Word} (ha : a ≤ L.length) (er : Int) : sA L a er x ≤ L.length ∧ a ≤ sA L a er x := by
  have hu : ∀ k, uA L.length a er k ≤ L.length ∧ a ≤ uA L.length a er k := fun k => by
    unfold uA
    split
    · rename_i h
      unfold uE at h
      split at h
      · omega
      · split at h
        · omega
        · split at h
          · omega
          · omega
    · omega
  have hr : ∀ k, rA L.length a er k ≤ L.length ∧ a ≤ rA L.length a er k := fun k => by
    unfold rA
    split
    · rename_i h
      unfold rE at h
      split at h
      · omega
      · split at h
        · omega
        · split at h
          · omega
          · omega
    · omega
  have ht : ∀ k, tA L a er k ≤ L.length ∧ a ≤ tA L a er k := fun k => by
    unfold tA
    split
    · rename_i h
      unfold tE at h
      split at h
      · omega
      · split at h
        · omega
        · split at h
          · omega
          · omega
    · omega
  unfold sA
  split
  · exact hu _
  · split
    · exact ht _
    · split
      · exact hr _
      · omega
end Oct
end Go.Proofs.Ytfmjlgkbohidjaa

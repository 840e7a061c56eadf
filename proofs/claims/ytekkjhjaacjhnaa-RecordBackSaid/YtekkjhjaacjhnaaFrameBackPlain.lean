/- What was wrapped is read: plain. No program. -/
import Derived.Test.YtekkjhjaacjhnaaFrameRowPlain
import Derived.Test.YtekkjhjaacjhnaaOctetTake
namespace Go.Proofs.Ytekkjhjaacjhnaa.Frm
open Oct

theorem getV_mid {l a b c : List UInt8} {n k : Nat} (h : l = a ++ (b ++ c)) (hn : n = a.length) (hk : k = b.length) (h1 : 1 ≤ k) (h8 : k ≤ 8) : getV l n k = Oct.valOf b := by
  subst hn hk h
  have hb : getB (a ++ (b ++ c)) a.length b.length = true := by simp [getB, okk]; omega
  rw [getV_nat hb, List.drop_left, List.take_left]
theorem front_head (k : Nat) {n : Nat} (hn : n < 4294967296) : headN (front k n) = n := by
  unfold headN front
  have := getV_mid (l := be 1 k ++ be 4 n) (a := be 1 k) (b := be 4 n) (c := []) (n := 1) (k := 4) (by simp) (by rw [be_length]) (by rw [be_length]) (by omega) (by omega)
  rw [show (((1 : Nat) : Int)) = 1 from rfl, show (((4 : Nat) : Int)) = 4 from rfl] at this
  rw [this, valOf_be]
  omega
theorem sumN_lt (k : Nat) (p : List UInt8) : sumN k p < 4294967296 := by
  exact Crc.more_lt _ _
theorem inner_put {k : Nat} {p : List UInt8} (hp : p.length ≤ 65536) (r : List UInt8) : inner (veil (body k p) ++ r) = (0, body k p, (veil (body k p)).length) := by
  have hB : body k p = front k p.length ++ (be 4 (sumN k p) ++ p) := rfl
  have h5 : rdN 5 (veil (body k p) ++ r) = (0, front k p.length, (veil (front k p.length)).length) := by
    have := rdN_put (front k p.length) (veil (be 4 (sumN k p) ++ p) ++ r)
    rw [front_len, ← List.append_assoc, ← veil_append, ← hB] at this
    exact this
  have hH : headN (front k p.length) = p.length := front_head k (by omega)
  have h9 : rdN (9 + p.length) (veil (body k p) ++ r) = (0, body k p, (veil (body k p)).length) := by
    have := rdN_put (body k p) r
    rwa [body_len] at this
  have ht : (body k p).take 5 = front k p.length := by
    rw [hB]; exact List.take_left' (front_len _ _)
  have hd : (body k p).drop 9 = p := by
    rw [hB, ← List.append_assoc]; exact List.drop_left' (by rw [List.length_append, front_len, be_length])
  have hg : getV (body k p) 5 4 = sumN k p := by
    have := getV_mid (l := body k p) (a := front k p.length) (b := be 4 (sumN k p)) (c := p) (n := 5) (k := 4) hB (by rw [front_len]) (by rw [be_length]) (by omega) (by omega)
    rw [show (((5 : Nat) : Int)) = 5 from rfl, show (((4 : Nat) : Int)) = 4 from rfl] at this
    rw [this, valOf_be]
    exact Nat.mod_eq_of_lt (sumN_lt k p)
  unfold inner
  rw [h5]
  simp only [ne_eq, not_true_eq_false, if_false]
  rw [hH, if_neg (by omega), h9]
  simp only [not_true_eq_false, if_false]
  rw [ht, hd, hg, if_neg]
  simp [sumN]
theorem be_one (k : Nat) : be 1 k = [UInt8.ofNat k] := by
  show [UInt8.ofNat (k % 256)] = _
  congr 1
  exact UInt8.toNat_inj.1 (by rw [UInt8.toNat_ofNat', UInt8.toNat_ofNat']; omega)
theorem wrapL_ok {k : Nat} {p : List UInt8} (hk : k ≤ 255) (hp : p.length ≤ 65536) : wrapE k p.length = 0 ∧ wrapL k p = 80 :: veil (body k p) := by
  have h : wrapE k p.length = 0 := by unfold wrapE; rw [if_neg (by omega), if_neg (by omega)]
  exact ⟨h, by unfold wrapL; rw [if_pos h, Int.toNat_natCast]⟩
theorem at_put {l r : List UInt8} {a k : Nat} {p : List UInt8} (hk : k ≤ 255) (hp : p.length ≤ 65536) (hd : l.drop a = wrapL k p ++ r) : atE l a = 0 ∧ atF l a = ⟨a, (wrapL k p).length, k, p⟩ := by
  obtain ⟨-, hw⟩ := wrapL_ok hk hp
  rw [hw, List.cons_append] at hd
  have hlt : a < l.length := by
    rcases Nat.lt_or_ge a l.length with h' | h'
    · exact h'
    · rw [List.drop_of_length_le h'] at hd; cases hd
  have hi := inner_put (k := k) hp r
  have hE : atE l a = 0 := by
    unfold atE
    rw [if_neg (by omega), Int.toNat_natCast, hd]
    simp [hi]
  refine ⟨hE, ?_⟩
  unfold atF
  rw [if_pos hE, Int.toNat_natCast, hd]
  simp only [hi]
  rw [hw]
  have hh : ((body k p).headD 0).toNat = k := by
    have : body k p = UInt8.ofNat k :: (be 4 p.length ++ (be 4 (sumN k p) ++ p)) := by
      simp [body, front, be_one]
    rw [this]
    simp only [List.headD_cons]
    rw [UInt8.toNat_ofNat']; omega
  have hdp : (body k p).drop 9 = p := by
    show (front k p.length ++ (be 4 (sumN k p) ++ p)).drop 9 = p
    rw [← List.append_assoc]; exact List.drop_left' (by rw [List.length_append, front_len, be_length])
  rw [hh, hdp]
  simp; omega
end Go.Proofs.Ytekkjhjaacjhnaa.Frm

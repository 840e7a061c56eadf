/- Records, plain: what is taken has this very payload. No program. -/
import Derived.Test.YtekkjhjaacjhnaaRecReadPlain
namespace Go.Proofs.Ytekkjhjaacjhnaa.Rcd
open Oct Frm

theorem take_cut (l : List UInt8) (a w s : Nat) : (l.drop a).take w ++ (l.drop (a + w)).take s = (l.drop a).take (w + s) := by
  rw [List.take_add, List.drop_drop]
theorem seg_be {l : List UInt8} {a w : Nat} {a' w' : Int} (h1 : a' = a) (h2 : w' = w) (hw : 1 ≤ w ∧ w ≤ 8) (ha : a + w ≤ l.length) (hg : gI l a' w' ≤ 9007199254740992) : be w (gI l a' w').toNat = (l.drop a).take w := by
  subst h1 h2
  have hb : getB l a w = true := by
    unfold getB
    rw [okk_of (by omega), decide_eq_true (by omega)]
    rfl
  have hv : getV l a w = Oct.valOf ((l.drop a).take w) := getV_nat hb
  have hc : gI l a w = (getV l a w : Int) := by
    unfold gI capI at *
    split at hg
    · omega
    · rename_i h; rw [if_neg h]
  rw [hc, hv, Int.toNat_natCast]
  have hl : ((l.drop a).take w).length = w := by simp; omega
  have := be_valOf ((l.drop a).take w)
  rw [hl] at this
  exact this
theorem read_back {k : Int} {l : List UInt8} (h : readE k l = 0) : chk (readR k l) = 0 ∧ payO (readR k l) = l := by
  have hk : 1 ≤ k ∧ k ≤ 6 := by
    unfold readE at h
    split at h
    · omega
    · omega
  have hr : readR k l = mkR k l := by unfold readR; rw [if_pos h]
  unfold readE at h
  rw [if_neg (by omega)] at h
  by_cases h1 : l.length < sizeK k
  · rw [if_pos h1] at h; omega
  rw [if_neg h1] at h
  by_cases h2 : sizeK k < l.length ∧ k ≠ 6
  · rw [if_pos h2] at h; omega
  rw [if_neg h2] at h
  by_cases h3 : sizeK k + 32768 < l.length
  · rw [if_pos h3] at h; omega
  rw [if_neg h3] at h
  by_cases h4 : within (mkR k l) = false
  · rw [if_pos h4] at h; omega
  have hw : within (mkR k l) = true := by simpa using h4
  have hc : chk (mkR k l) = 0 := by
    rw [chk_mkR hk (fun hk6 => by subst hk6; have : sizeK 6 = 4 := rfl; omega), if_neg h4]
  rw [hr]
  refine ⟨hc, ?_⟩
  unfold payO
  rw [if_pos hc]
  have : k = 1 ∨ k = 2 ∨ k = 3 ∨ k = 4 ∨ k = 5 ∨ k = 6 := by omega
  rcases this with rfl | rfl | rfl | rfl | rfl | rfl
  · have hn : l.length = 14 := by have : sizeK 1 = 14 := rfl; omega
    simp [within, partsL, mkR, okP, fld, pNext] at hw
    have e0 := seg_be (l := l) (a := 0) (w := 2) (a' := 0) (w' := 2) rfl rfl (by omega) (by omega) (by omega)
    have e1 := seg_be (l := l) (a := 2) (w := 4) (a' := 2) (w' := 4) rfl rfl (by omega) (by omega) (by omega)
    have e2 := seg_be (l := l) (a := 6) (w := 4) (a' := 6) (w' := 4) rfl rfl (by omega) (by omega) (by omega)
    have e3 := seg_be (l := l) (a := 10) (w := 4) (a' := 10) (w' := 4) rfl rfl (by omega) (by omega) (by omega)
    have : payL (mkR 1 l) = be 2 (gI l 0 2).toNat ++ (be 4 (gI l 2 4).toNat ++ (be 4 (gI l 6 4).toNat ++ be 4 (gI l 10 4).toNat)) := by
      simp [payL, numsL, partsL, mkR, fld, pNext]
    rw [this, e0, e1, e2, e3, take_cut l 6, take_cut l 2, take_cut l 0]
    rw [List.drop_zero, List.take_of_length_le (by omega)]
  · have hn : l.length = 29 := by have : sizeK 2 = 29 := rfl; omega
    simp [within, partsL, mkR, okP, fld, pUid, pFlags, pBody] at hw
    have e0 := seg_be (l := l) (a := 0) (w := 4) (a' := 0) (w' := 4) rfl rfl (by omega) (by omega) (by omega)
    have e1 := seg_be (l := l) (a := 4) (w := 8) (a' := 4) (w' := 8) rfl rfl (by omega) (by omega) (by omega)
    have e2 := seg_be (l := l) (a := 12) (w := 1) (a' := 12) (w' := 1) rfl rfl (by omega) (by omega) (by omega)
    have e3 := seg_be (l := l) (a := 13) (w := 4) (a' := 13) (w' := 4) rfl rfl (by omega) (by omega) (by omega)
    have e4 := seg_be (l := l) (a := 17) (w := 4) (a' := 17) (w' := 4) rfl rfl (by omega) (by omega) (by omega)
    have e5 := seg_be (l := l) (a := 21) (w := 8) (a' := 21) (w' := 8) rfl rfl (by omega) (by omega) (by omega)
    have : payL (mkR 2 l) = be 4 (gI l 0 4).toNat ++ (be 8 (gI l 4 8).toNat ++ (be 1 (gI l 12 1).toNat ++ (be 4 (gI l 13 4).toNat ++ (be 4 (gI l 17 4).toNat ++ be 8 (gI l 21 8).toNat)))) := by
      simp [payL, numsL, partsL, mkR, fld, pUid, pFlags, pBody]
    rw [this, e0, e1, e2, e3, e4, e5, take_cut l 17, take_cut l 13, take_cut l 12, take_cut l 4, take_cut l 0]
    rw [List.drop_zero, List.take_of_length_le (by omega)]
  · have hn : l.length = 4 := by have : sizeK 3 = 4 := rfl; omega
    simp [within, partsL, mkR, okP, fld, pUid] at hw
    have e0 := seg_be (l := l) (a := 0) (w := 4) (a' := 0) (w' := 4) rfl rfl (by omega) (by omega) (by omega)
    have : payL (mkR 3 l) = be 4 (gI l 0 4).toNat := by simp [payL, numsL, partsL, mkR, fld, pUid]
    rw [this, e0, List.drop_zero, List.take_of_length_le (by omega)]
  · have hn : l.length = 5 := by have : sizeK 4 = 5 := rfl; omega
    simp [within, partsL, mkR, okP, fld, pUid, pFlags] at hw
    have e0 := seg_be (l := l) (a := 0) (w := 4) (a' := 0) (w' := 4) rfl rfl (by omega) (by omega) (by omega)
    have e1 := seg_be (l := l) (a := 4) (w := 1) (a' := 4) (w' := 1) rfl rfl (by omega) (by omega) (by omega)
    have : payL (mkR 4 l) = be 4 (gI l 0 4).toNat ++ be 1 (gI l 4 1).toNat := by simp [payL, numsL, partsL, mkR, fld, pUid, pFlags]
    rw [this, e0, e1, take_cut l 0, List.drop_zero, List.take_of_length_le (by omega)]
  · have hn : l.length = 4 := by have : sizeK 5 = 4 := rfl; omega
    simp [within, partsL, mkR, okP, fld, pNext] at hw
    have e0 := seg_be (l := l) (a := 0) (w := 4) (a' := 0) (w' := 4) rfl rfl (by omega) (by omega) (by omega)
    have : payL (mkR 5 l) = be 4 (gI l 0 4).toNat := by simp [payL, numsL, partsL, mkR, fld, pNext]
    rw [this, e0, List.drop_zero, List.take_of_length_le (by omega)]
  · have hn : 4 ≤ l.length := by have : sizeK 6 = 4 := rfl; omega
    simp [within, partsL, mkR, okP, fld, pBody] at hw
    have e0 := seg_be (l := l) (a := 0) (w := 4) (a' := 0) (w' := 4) rfl rfl (by omega) (by omega) (by omega)
    have : payL (mkR 6 l) = be 4 (gI l 0 4).toNat ++ l.drop 4 := by simp [payL, numsL, partsL, mkR, fld, pBody]
    rw [this, e0, List.drop_zero, List.take_append_drop]
end Go.Proofs.Ytekkjhjaacjhnaa.Rcd

/- What one record does to a mailbox's entries, read beside those before. Plain. -/
import Derived.Test.YtohchhgheeolpaaMboxListPlain
namespace Go.Proofs.Ytohchhgheeolpaa.Mbx
open Rcd

def GoodW (w a : Ent) : Prop := (w.gone = true → w = a) ∧ w.body = a.body ∧ w.size = a.size ∧ w.origin = a.origin
theorem goodW_refl (a : Ent) : GoodW a a := ⟨fun _ => rfl, rfl, rfl, rfl⟩
def Along (was all : List Ent) (k : Nat → Nat) : Prop := k 0 = 0 ∧ k all.length = was.length ∧ (∀ n, n ≤ all.length → k n ≤ was.length) ∧ ∀ n a, all[n]? = some a → (∃ w, was[k n]? = some w ∧ w.uid = a.uid ∧ GoodW w a ∧ k (n + 1) = k n + 1) ∨ ((∀ w, was[k n]? = some w → w.uid ≠ a.uid) ∧ k (n + 1) = k n)
theorem along_step {was all : List Ent} (h : Step was all) : ∃ k, Along was all k := by
  cases h with
  | same => exact ⟨id, rfl, rfl, fun n h => h, fun n a h => .inl ⟨a, h, rfl, goodW_refl a, rfl⟩⟩
  | ins p s e h1 h2 =>
    refine ⟨fun n => if n ≤ p.length then n else n - 1, rfl, ?_, ?_, ?_⟩
    · simp
    · intro n hn
      simp at hn ⊢
      split <;> omega
    · intro n a ha
      simp only
      by_cases hn : n < p.length
      · rw [if_pos (by omega), if_pos (by omega)]
        rw [List.getElem?_append_left hn] at ha
        exact .inl ⟨a, by rw [List.getElem?_append_left hn]; exact ha, rfl, goodW_refl a, rfl⟩
      · rw [List.getElem?_append_right (by omega)] at ha
        by_cases hn2 : n = p.length
        · subst hn2
          rw [Nat.sub_self, List.getElem?_cons_zero] at ha
          cases ha
          rw [if_pos (by omega), if_neg (by omega)]
          refine .inr ⟨fun w hw => ?_, by omega⟩
          rw [List.getElem?_append_right (by omega), Nat.sub_self] at hw
          have := h2 w (List.mem_of_getElem? hw)
          omega
        · rw [if_neg (by omega), if_neg (by omega)]
          rw [show n - p.length = (n - 1 - p.length) + 1 from by omega, List.getElem?_cons_succ] at ha
          exact .inl ⟨a, by rw [List.getElem?_append_right (by omega)]; exact ha, rfl, goodW_refl a, by omega⟩
  | set p s e e' hg h1 h2 h3 h4 h5 h6 =>
    refine ⟨id, rfl, by simp, fun n hn => by simpa using hn, ?_⟩
    intro n a ha
    refine .inl ?_
    show ∃ w, (p ++ e :: s)[n]? = some w ∧ w.uid = a.uid ∧ GoodW w a ∧ n + 1 = n + 1
    by_cases hn : n < p.length
    · rw [List.getElem?_append_left hn] at ha ⊢
      exact ⟨a, ha, rfl, goodW_refl a, rfl⟩
    · rw [List.getElem?_append_right (by omega)] at ha ⊢
      by_cases hn2 : n = p.length
      · subst hn2
        rw [Nat.sub_self, List.getElem?_cons_zero] at ha ⊢
        cases ha
        exact ⟨e, rfl, h1.symm, ⟨fun h => (by rw [hg] at h; cases h), h2.symm, h3.symm, h4.symm⟩, rfl⟩
      · rw [show n - p.length = (n - 1 - p.length) + 1 from by omega, List.getElem?_cons_succ] at ha ⊢
        exact ⟨a, ha, rfl, goodW_refl a, rfl⟩
theorem asc_get {L : List Ent} (h : Asc L) {i : Nat} (hi : i + 1 < L.length) : L[i].uid < L[i + 1].uid := List.pairwise_iff_getElem.1 h i (i + 1) (by omega) hi (by omega)
theorem sumS_take {L : List Ent} {n : Nat} (h : n < L.length) : sumS (L.take (n + 1)) = sumS (L.take n) + (if L[n].gone then 0 else L[n].size) := by
  rw [List.take_succ_eq_append_getElem h, sumS_app]
  simp [sumS]
theorem cntS_take {L : List Ent} {n : Nat} (h : n < L.length) : cntS (L.take (n + 1)) = cntS (L.take n) + (if L[n].gone then 0 else 1) := by
  rw [List.take_succ_eq_append_getElem h, cntS_app]
  simp [cntS]
theorem sumS_take_le {L : List Ent} (h : ∀ e ∈ L, 0 ≤ e.size) (n : Nat) : 0 ≤ sumS (L.take n) ∧ sumS (L.take n) ≤ sumS L := by
  have h1 := sumS_app (L.take n) (L.drop n)
  rw [List.take_append_drop] at h1
  have h2 := sumS_nonneg (L := L.take n) (fun e he => h e (List.mem_of_mem_take he))
  have h3 := sumS_nonneg (L := L.drop n) (fun e he => h e (List.mem_of_mem_drop he))
  omega
theorem cntS_take_le (L : List Ent) (n : Nat) : 0 ≤ cntS (L.take n) ∧ cntS (L.take n) ≤ cntS L := by
  have h1 := cntS_app (L.take n) (L.drop n)
  rw [List.take_append_drop] at h1
  have h2 := cntS_nonneg (L.take n)
  have h3 := cntS_nonneg (L.drop n)
  omega
end Go.Proofs.Ytohchhgheeolpaa.Mbx

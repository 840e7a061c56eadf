/- Records, plain: their payloads and frames, and what is read of bytes. No program. -/
import Derived.Test.YtohchhgheeolpaaPPlain
import Derived.Test.YtohchhgheeolpaaFrameRowPlain
namespace Go.Proofs.Ytohchhgheeolpaa.Rcd
open Oct Frm

def numsL (r : Rec) (ps : List Part) : List UInt8 := ps.flatMap fun p => be p.width.toNat (fld r p.off).toNat
def payL (r : Rec) : List UInt8 := numsL r (partsL r.kind) ++ r.data
def payO (r : Rec) : List UInt8 := if chk r = 0 then payL r else []
def frmL (r : Rec) : List UInt8 := if chk r = 0 then wrapL r.kind (payL r) else []

theorem bare_data {r : Rec} (h : r.kind ≠ 6) (h1 : 1 ≤ r.kind ∧ r.kind ≤ 6 := by assumption) : (bare r).data = [] := by
  unfold bare
  repeat' split
  all_goals first | rfl | omega
theorem bare_six {r : Rec} (h : r.kind = 6) : (bare r).data = r.data := by
  unfold bare
  repeat' split
  all_goals first | rfl | omega
theorem part_ok {k : Int} : ∀ p ∈ partsL k, 1 ≤ p.width ∧ p.width ≤ 8 ∧ 0 ≤ p.low ∧ p.high < ((256 ^ p.width.toNat : Nat) : Int) ∧ p.high ≤ 9007199254740992 := by
  unfold partsL
  repeat' split
  all_goals decide
theorem part_pos {k : Int} : ∀ p ∈ partsL k, 0 ≤ p.high := by
  unfold partsL
  repeat' split
  all_goals decide
theorem chk_zero {r : Rec} (h : chk r = 0) : (1 ≤ r.kind ∧ r.kind ≤ 6) ∧ (∀ p ∈ partsL r.kind, okP r p = true) ∧ r = bare r ∧ r.data.length ≤ 32768 ∧ (r.kind ≠ 6 → r.data = []) := by
  unfold chk at h
  by_cases h1 : r.kind < 1 ∨ 6 < r.kind
  · rw [if_pos h1] at h; omega
  rw [if_neg h1] at h
  by_cases h2 : within r = false
  · rw [if_pos h2] at h; omega
  rw [if_neg h2] at h
  by_cases h3 : r.kind = 6 ∧ 32768 < r.data.length
  · rw [if_pos h3] at h; omega
  rw [if_neg h3] at h
  by_cases h4 : r = bare r
  · have hk : 1 ≤ r.kind ∧ r.kind ≤ 6 := by omega
    have hd : r.kind ≠ 6 → r.data = [] := fun h6 => by rw [h4]; exact bare_data h6 hk
    refine ⟨hk, ?_, h4, ?_, hd⟩
    · have : within r = true := by simpa using h2
      unfold within at this
      rw [List.all_eq_true] at this
      exact this
    · by_cases h6 : r.kind = 6
      · omega
      · rw [hd h6]; simp
  · rw [if_neg h4] at h; omega
theorem numsL_next (r : Rec) {l : List Part} {j : Nat} (h : j < l.length) : numsL r (l.take (j + 1)) = numsL r (l.take j) ++ be l[j].width.toNat (fld r l[j].off).toNat := by
  rw [List.take_succ_eq_append_getElem h]
  simp only [numsL, List.flatMap_append, List.flatMap_cons, List.flatMap_nil, List.append_nil]
theorem numsL_len (r : Rec) (l : List Part) (h : ∀ p ∈ l, p.width ≤ 8) : (numsL r l).length ≤ 8 * l.length := by
  induction l with
  | nil => simp [numsL]
  | cons p l ih =>
    have := ih (fun q hq => h q (by simp [hq]))
    have := h p (by simp)
    simp only [numsL, List.flatMap_cons, List.length_append, be_length, List.length_cons] at *
    omega
theorem putL_fld {x : Int} {w : Int} (h0 : 0 ≤ x) (hw : 1 ≤ w ∧ w ≤ 8) (hx : x < ((256 ^ w.toNat : Nat) : Int)) : putL x.toNat w = be w.toNat x.toNat := by
  have hx' : x.toNat < 256 ^ w.toNat := by omega
  unfold putL putB okk
  rw [decide_eq_true hw, decide_eq_true hx']
  rfl
end Go.Proofs.Ytohchhgheeolpaa.Rcd

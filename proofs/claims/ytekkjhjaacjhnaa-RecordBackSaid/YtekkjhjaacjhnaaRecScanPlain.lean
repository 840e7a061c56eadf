/- Records that are found in bytes, plain. No program. -/
import Derived.Test.YtekkjhjaacjhnaaRecReadPlain
namespace Go.Proofs.Ytekkjhjaacjhnaa.Rcd
open Oct Frm

/-- what is found: where, how long, the record -/
structure Fnd where
  at' : Int
  len : Int
  rc : Rec
def fndOf (f : Fr1) : List Fnd := if readE f.kind f.pay = 0 then [⟨f.at', f.len, readR f.kind f.pay⟩] else []
def fndL (fs : List Fr1) : List Fnd := fs.flatMap fndOf
def lenL (fs : List Fr1) : Int := (fs.map fun f => if readE f.kind f.pay = 0 then f.len else 0).sum
theorem fndL_next {fs : List Fr1} {j : Nat} (h : j < fs.length) : fndL (fs.take (j + 1)) = fndL (fs.take j) ++ fndOf fs[j] := by
  rw [List.take_succ_eq_append_getElem h]
  simp only [fndL, List.flatMap_append, List.flatMap_cons, List.flatMap_nil, List.append_nil]
theorem lenL_next {fs : List Fr1} {j : Nat} (h : j < fs.length) : lenL (fs.take (j + 1)) = lenL (fs.take j) + (if readE fs[j].kind fs[j].pay = 0 then fs[j].len else 0) := by
  rw [List.take_succ_eq_append_getElem h]
  simp only [lenL, List.map_append, List.sum_append, List.map_cons, List.map_nil, List.sum_cons, List.sum_nil, Int.add_zero]
theorem fndL_len (fs : List Fr1) : (fndL fs).length ≤ fs.length := by
  induction fs with
  | nil => simp [fndL]
  | cons f fs ih =>
    have : (fndOf f).length ≤ 1 := by unfold fndOf; split <;> simp
    simp only [fndL, List.flatMap_cons, List.length_append, List.length_cons] at *
    omega
/-- frames that lie in bytes: in order, apart -/
theorem scanN_in (l : List UInt8) : ∀ (k g u : Nat), u ≤ l.length → g ≤ u → (∀ f ∈ (scanN l k g u).1, 0 ≤ f.len ∧ f.len ≤ l.length ∧ f.pay.length ≤ l.length) ∧ ((scanN l k g u).1.map (·.len)).sum + u ≤ l.length := by
  intro k
  induction k with
  | zero =>
    intro g u hu _
    simp [scanN]
    omega
  | succ k ih =>
    intro g u hu hg
    by_cases hlt : u < l.length
    · by_cases he : atE l u = 0
      · rw [scanN_ok hlt he]
        obtain ⟨h10, hle, h0⟩ := atE_len he
        have hp := atE_pay he
        obtain ⟨ih1, ih2⟩ := ih (u + (atF l u).len.toNat) (u + (atF l u).len.toNat) (by omega) (Nat.le_refl _)
        refine ⟨fun f hf => ?_, ?_⟩
        · rcases List.mem_cons.1 hf with rfl | hf
          · exact ⟨by omega, by omega, hp⟩
          · exact ih1 f hf
        · simp only [List.map_cons, List.sum_cons]
          omega
      · rw [scanN_err hlt he]
        obtain ⟨ih1, ih2⟩ := ih g (u + 1) (by omega) (by omega)
        exact ⟨ih1, by omega⟩
    · rw [scanN_end hlt]
      simp
      omega
theorem lenL_take (l : List UInt8) (j : Nat) : 0 ≤ lenL ((scanR l).1.take j) ∧ lenL ((scanR l).1.take j) ≤ l.length := by
  obtain ⟨h1, h2⟩ := scanN_in l l.length 0 0 (Nat.zero_le _) (Nat.le_refl _)
  have key : ∀ (fs : List Fr1), (∀ f ∈ fs, 0 ≤ f.len) → ∀ j, 0 ≤ lenL (fs.take j) ∧ lenL (fs.take j) ≤ (fs.map (·.len)).sum := by
    intro fs
    induction fs with
    | nil => intro _ j; simp [lenL]
    | cons f fs ih =>
      intro hf j
      have h0 := hf f (by simp)
      have hs : ∀ gs : List Fr1, (∀ f ∈ gs, 0 ≤ f.len) → 0 ≤ (gs.map (·.len)).sum := by
        intro gs
        induction gs with
        | nil => intro _; simp
        | cons g gs ih => intro hg; have := ih (fun x hx => hg x (by simp [hx])); have := hg g (by simp); simp; omega
      cases j with
      | zero =>
        have := hs fs (fun x hx => hf x (by simp [hx]))
        simp [lenL]
        omega
      | succ j =>
        have := ih (fun x hx => hf x (by simp [hx])) j
        simp only [List.take_succ_cons, lenL, List.map_cons, List.sum_cons] at *
        split <;> omega
  have := key (scanR l).1 (fun f hf => (h1 f hf).1) j
  have h2' : ((scanR l).1.map (·.len)).sum + (0 : Nat) ≤ l.length := h2
  omega
end Go.Proofs.Ytekkjhjaacjhnaa.Rcd

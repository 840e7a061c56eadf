/- ref20.Few. -/
import Derived.Test.YtohchhgheeolpaaMboxTake
namespace Go.Proofs.Ytohchhgheeolpaa
open Go.RowKit
namespace Mbx
open Rcd Go.Maps

theorem rowS_rec' {w : World} {v : Value} {l : List RecX} (h : RowS w 12 v l.length (l.flatMap recC)) {j : Nat} (hj : j < l.length) : ∃ b off cap, v = .slice (some ⟨b, off, none⟩) l.length cap ∧ w.rangeAt b (off + j * 12) (recA l[j].1 l[j].2).toList := by
  obtain ⟨b, off, cap, hv, -, -, hc⟩ := h.at_ (by omega)
  refine ⟨b, off, cap, hv, fun i x hx => ?_⟩
  have hi : i < 12 := by
    have := (List.getElem?_eq_some_iff.1 hx).1
    simpa [recA] using this
  rw [Nat.add_assoc]
  refine hc.out (j * 12 + i) x ?_
  rw [rec_at hj hi]
  exact hx
theorem range_keeps' {w w' : World} {g o : Nat} {l : List Value} (h : w.rangeAt g o l) (k : Keeps w w') : w'.rangeAt g o l := fun j x hx => keep1 k (h j x hx)

set_option maxRecDepth 100000 in
set_option maxHeartbeats 2000000 in
theorem few_any (w : World) (v : Value) (l : List RecX) (n : Nat) (hn : n ≤ 1000) (r0 : RowS w 12 v l.length (l.flatMap recC)) (w0 : ∀ y ∈ l, Row w y.2 (y.1.data.map u8v)) :
    Calls Try.prog 46 #[v, .int .i64 (n : Int)] w fun e w' => ∃ b : Bool, e = .returned (.bool b) ∧ (b = true → l.length ≤ n) ∧ Keeps w w' := by
  obtain ⟨p0, c0, rfl, hc0, hc1⟩ := r0.form
  have HR0 := Lib.hid r0
  have HW0 := Lib.hid w0
  clear r0 w0
  by_cases h40 : n < l.length
  · have e40 : decide ((n : Int) < (l.length : Int)) = true := decide_eq_true (by omega)
    have e41 : decide (n < l.length) = true := decide_eq_true h40
    go_enter Try.func46, Try.ntmps46
    go_wp2_with fail
    go_ret
    exact ⟨false, rfl, by simp, Keeps.refl _⟩
  have e40 : decide ((n : Int) < (l.length : Int)) = false := decide_eq_false (by omega)
  have e41 : decide (n < l.length) = false := decide_eq_false h40
  have HLE : Hid (l.length ≤ n) := Lib.hid (by omega)
  go_enter Try.func46, Try.ntmps46
  go_wp2_with fail
  go_loopw [5] (fun i wr => ∃ j : Nat, i = .int .i64 (j : Int) ∧ j ≤ l.length ∧ Hid (Keeps w wr)) (fun i _ => l.length - (intOf i).toNat)
  case atStart => exact ⟨0, rfl, Nat.zero_le _, Lib.hid (Keeps.refl _)⟩
  case round =>
    obtain ⟨j, rfl, hj, HK⟩ := hrel
    by_cases hlt : j < l.length
    · obtain ⟨bb, off, cap, hv, hrg⟩ := rowS_rec' (RowS.keeps HR0.out HK.out) hlt
      simp only [Value.slice.injEq] at hv
      obtain ⟨rfl, -, rfl⟩ := hv
      have HG := Lib.hid hrg
      have HL := Lib.hid (light_any l[j].1 l[j].2 wr ((HW0.out l[j] (List.getElem_mem hlt)).keeps HK.out))
      clear hrg
      generalize decide (l[j].1.data.length ≤ 1000) = li at *
      go_wp2_with (refine wpList_ldR rfl recM HG.out _ rfl rfl ?_)
      refine HL.out.mono ?_
      rintro e y1 ⟨rfl, hk1⟩
      cases li with
      | false =>
        go_wp2_with fail
        go_ret
        exact ⟨false, rfl, by simp, HK.out.trans hk1⟩
      | true =>
        go_wp2_with fail
        go_roundw
        case rel => exact ⟨j + 1, by simp, by omega, Lib.hid (HK.out.trans hk1)⟩
        case measure =>
          simp only [intOf]
          omega
    · go_wp2_with fail
      go_ret
      exact ⟨true, rfl, fun _ => HLE.out, HK.out⟩
end Mbx
end Go.Proofs.Ytohchhgheeolpaa

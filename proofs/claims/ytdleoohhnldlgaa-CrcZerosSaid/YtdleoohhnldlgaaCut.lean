/- Slices of slices: what x[lo:hi] reads as. For every program. -/
import Derived.Test.YtdleoohhnldlgaaBase
namespace Go.Proofs.Ytdleoohhnldlgaa
open Go.RowKit

/-- x[lo:hi] of a slice with this address and capacity (one-cell elements) -/
def cutv (p : Option Addr) (lo hi cap : Nat) : Value := .slice (if cap = lo then p else p.map (·.add lo)) (hi - lo) (cap - lo)

theorem Row.cut {w : World} {p : Option Addr} {cap n : Nat} {l : List Value} (h : Row w (.slice p n cap) l) {lo hi : Nat} (h1 : lo ≤ hi) (h2 : hi ≤ l.length) : Row w (cutv p lo hi cap) ((l.drop lo).take (hi - lo)) := by
  rcases h with ⟨a0, cap', hv, rfl, hc, h0⟩ | ⟨b, off, cap', hv, h3, h4, h5⟩
  · simp only [Value.slice.injEq] at hv
    obtain ⟨rfl, rfl, rfl⟩ := hv
    simp at h2
    obtain rfl : hi = 0 := h2
    obtain rfl : lo = 0 := by omega
    refine .inl ⟨if cap = 0 then p else p.map (·.add 0), cap, by simp [cutv], by simp, hc, ?_⟩
    intro h
    split at h
    · assumption
    · exact h0 (by simpa using h)
  · simp only [Value.slice.injEq] at hv
    obtain ⟨rfl, rfl, rfl⟩ := hv
    have hlen : ((l.drop lo).take (hi - lo)).length = hi - lo := by simp; omega
    by_cases hlo : cap = lo
    · have : hi = lo := by omega
      subst this
      refine .inl ⟨some ⟨b, off, none⟩, cap - hi, by simp [cutv, hlo], by simp, by omega, fun h => by cases h⟩
    · refine .inr ⟨b, off + lo, cap - lo, ?_, by omega, by omega, fun i x hx => ?_⟩
      · rw [hlen]
        simp [cutv, hlo, Go.WideShapes.add_plain]
      · have hi' : i < hi - lo := by have := (List.getElem?_eq_some_iff.1 hx).1; omega
        rw [Nat.add_assoc]
        refine h5 (lo + i) x ?_
        simpa [List.getElem?_take, hi'] using hx

section
variable {P : Program}
theorem sliced_cutv (p : Option Addr) (lo hi cap : Nat) : sliced p lo hi cap 1 = cutv p lo hi cap := by simp [sliced, cutv]

theorem run_cut_lh (w : World) {t e : TypeId} (ht : P.underlying t = some (.slice e)) (hs : ∀ w, (sizeOf e).run P w = .ok 1 w) (p : Option Addr) (len cap : Nat) {kl kh : IntKind} (l h : Nat) (h1 : l ≤ h) (h2 : h ≤ cap) :
    (Instr.slice t (.slice p len cap) (some (.int kl l)) (some (.int kh h)) none).run P w = .ok (cutv p l h cap) w := by
  have he : P.elem t = e := by simp [Program.elem, ht]
  rw [run_slice_lh w t p len cap (by rw [he]; exact ht) kl kh l h (by omega) (by omega) (by omega), he, hs]
  simp [Result.andThen, sliced_cutv]
theorem run_cut_h (w : World) {t e : TypeId} (ht : P.underlying t = some (.slice e)) (hs : ∀ w, (sizeOf e).run P w = .ok 1 w) (p : Option Addr) (len cap : Nat) {kh : IntKind} (h : Nat) (h2 : h ≤ cap) :
    (Instr.slice t (.slice p len cap) none (some (.int kh h)) none).run P w = .ok (cutv p 0 h cap) w := by
  have he : P.elem t = e := by simp [Program.elem, ht]
  rw [run_slice_h w t p len cap (by rw [he]; exact ht) kh h (by omega) (by omega), he, hs]
  simp [Result.andThen, sliced_cutv]
theorem run_cut_l (w : World) {t e : TypeId} (ht : P.underlying t = some (.slice e)) (hs : ∀ w, (sizeOf e).run P w = .ok 1 w) (p : Option Addr) (len cap : Nat) {kl : IntKind} (l : Nat) (h2 : l ≤ len) :
    (Instr.slice t (.slice p len cap) (some (.int kl l)) none none).run P w = .ok (cutv p l len cap) w := by
  have he : P.elem t = e := by simp [Program.elem, ht]
  rw [run_slice_l w t p len cap (by rw [he]; exact ht) kl l (by omega) (by omega), he, hs]
  simp [Result.andThen, sliced_cutv]
end
end Go.Proofs.Ytdleoohhnldlgaa

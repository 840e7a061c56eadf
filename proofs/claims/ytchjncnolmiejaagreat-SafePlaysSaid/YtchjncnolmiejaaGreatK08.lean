/- Several texts in one: Octet, OctetRef, OctetGet, OctetTake, OctetPut. -/
import Derived.Test.YtchjncnolmiejaaGreatK00
import Derived.Test.YtchjncnolmiejaaGreatRows
import Derived.Test.YtchjncnolmiejaaGreatK01
import Derived.Laws.MakeOwn
/- The functions of package octet on numbers compute the plain ones. -/
namespace Go.Proofs.YtchjncnolmiejaaGreat
open Go.RowKit
namespace Oct

end Oct
end Go.Proofs.YtchjncnolmiejaaGreat

/- The reference's functions on numbers, and octet.Put and Get, compute the plain ones. -/
namespace Go.Proofs.YtchjncnolmiejaaGreat
open Go.RowKit
namespace Oct

theorem u8ok : ElemOk Tryz.prog 22 5 1 := elemOk (z := .int .u8 0) Tryz.underlying22 (by kernel_rfl) rfl

/-- a slice of the call's own, and a bool -/
def RetSB (W : World) (l : List UInt8) (b : Bool) (e : Ending) (w' : World) : Prop :=
  ∃ v, e = .returned (.tuple #[v, .bool b]) ∧ Own w' W.heap.size 5 v (l.map u8v) ∧ Keeps W w'
def RetS (W : World) (l : List UInt8) (e : Ending) (w' : World) : Prop :=
  ∃ v, e = .returned v ∧ Own w' W.heap.size 5 v (l.map u8v) ∧ Keeps W w'

end Oct
end Go.Proofs.YtchjncnolmiejaaGreat

/- Get, half, Signed, Fits, Unsigned and Turn of the reference, octet.Get. -/
namespace Go.Proofs.YtchjncnolmiejaaGreat
open Go.RowKit

theorem Row.bytesAt {w : World} {v : Value} {l : List UInt8} (h : Row w v (l.map u8v)) (hl : 0 < l.length) : ∃ b off cap, v = .slice (some ⟨b, off, none⟩) l.length cap ∧ l.length ≤ cap ∧ cap ≤ 9223372036854775807 ∧ Hid (∀ i x, l[i]? = some x → w.cell? ⟨b, off + i, none⟩ = some (.int .u8 (x.toNat : Int))) := by
  rcases h with ⟨a0, cap', rfl, hl0, -, -⟩ | ⟨b, off, cap', rfl, h1, h2, hcell⟩
  · have : l = [] := by simpa using hl0
    subst this
    simp at hl
  · exact ⟨b, off, cap', by simp, by simpa using h1, by simpa [maxLen] using h2, Lib.hid fun i x hx => hcell i _ (by simp [hx, u8v])⟩
theorem Row.formB {w : World} {v : Value} {l : List UInt8} (h : Row w v (l.map u8v)) : ∃ p cap, v = .slice p l.length cap ∧ l.length ≤ cap ∧ cap ≤ 9223372036854775807 := by
  obtain ⟨p, cap, rfl, h1, h2⟩ := h.form
  rw [List.length_map] at *
  exact ⟨p, cap, rfl, h1, by simpa [maxLen] using h2⟩

namespace Oct
def half (n : Nat) : Nat := 128 * 256 ^ (n - 1)
end Oct
end Go.Proofs.YtchjncnolmiejaaGreat

/- Get of both, Turn of the reference, octet.Put. -/
namespace Go.Proofs.YtchjncnolmiejaaGreat
open Go.RowKit
namespace Oct

end Oct
end Go.Proofs.YtchjncnolmiejaaGreat

/- octet.Put, Turn of the reference. -/
namespace Go.Proofs.YtchjncnolmiejaaGreat
open Go.RowKit

/-- so many bytes 00 -/
def zeroB (n : Nat) : Array Value := madeCells #[.int .u8 0] n
theorem zeroB_size (n : Nat) : (zeroB n).size = n := size_madeCells _ _
theorem zeroB_list (n : Nat) : (zeroB n).toList = (List.replicate n (0 : UInt8)).map u8v := by
  apply List.ext_getElem?
  intro i
  simp [zeroB, madeCells, u8v, List.getElem?_replicate]
  by_cases h : i < n <;> simp [h, Nat.mod_one]
theorem run_make_u8 {P : Program} {t e : TypeId} (ht : P.underlying t = some (.slice e)) (hi : (P.info? e).map (fun i => (i.zero, i.size, i.bytes)) = some (some (.int .u8 0), 1, 1)) (n : Nat) (hn : n ≤ 281474976710656) (w : World) :
    (Instr.makeSlice t (.int .i64 (n : Int)) (.int .i64 (n : Int))).run P w = .ok (.slice (some ⟨w.heap.size, 0, none⟩) n n) (w.alloc (.cells (zeroB n) e)) := by
  obtain ⟨i, hi', hz, hs, hb⟩ := info_parts hi
  have := run_make w t e i (.int .u8 0) ht hi' hz .i64 .i64 (n : Int) (n : Int) (by omega) (by omega) (by rw [hb]; omega) (by omega)
  rw [this, hs]
  simp [zeroB, Value.cells]
namespace Oct
theorem i22 : (Tryz.prog.info? 5).map (fun i => (i.zero, i.size, i.bytes)) = some (some (.int .u8 0), 1, 1) := by kernel_rfl
end Oct
end Go.Proofs.YtchjncnolmiejaaGreat

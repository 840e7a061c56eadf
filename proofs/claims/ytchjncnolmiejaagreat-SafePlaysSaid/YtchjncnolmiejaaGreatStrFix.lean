/- strings.HasPrefix, strings.HasSuffix. -/
import Derived.Test.YtchjncnolmiejaaGreatK02
import Derived.Test.YtchjncnolmiejaaGreatRows
namespace Go.Proofs.YtchjncnolmiejaaGreat
open Go.RowKit
namespace Sx
abbrev Str := List UInt8
def preB (s p : Str) : Bool := decide (p.length ≤ s.length) && (s.take p.length == p)
def sufB (s p : Str) : Bool := decide (p.length ≤ s.length) && (s.drop (s.length - p.length) == p)
theorem cut_to (l : Str) (n : Nat) (hn : n ≤ l.length) (w : World) : (Instr.slice 9 (.string (bstr l)) none (some (.int .i64 (n : Int))) none).run Tryz.prog w = .ok (.string (bstr (l.take n))) w := by
  rw [run_slice_string_to_if w 9 (bstr l) .i64 (n : Int) Tryz.underlying9, if_pos (by rw [bstr_size]; omega)]
  congr 2
  apply ByteArray.ext
  simp [bstr, ByteArray.data_extract]
theorem cut_from (l : Str) (n : Nat) (hn : n ≤ l.length) (w : World) : (Instr.slice 9 (.string (bstr l)) (some (.int .i64 (n : Int))) none none).run Tryz.prog w = .ok (.string (bstr (l.drop n))) w := by
  rw [run_slice_string_from_if w 9 (bstr l) .i64 (n : Int) Tryz.underlying9, if_pos (by rw [bstr_size]; omega)]
  congr 2
  apply ByteArray.ext
  simp only [bstr, ByteArray.data_extract]
  apply Array.ext'
  simp
  rw [List.take_of_length_le]
  simp [ByteArray.size]
theorem pre0_any (s p : Str) (hs : s.length ≤ 1000000000000) (hp : p.length ≤ 1000000000000) (w : World) : Calls Tryz.prog 143 #[.string (bstr s), .string (bstr p)] w fun e w' => e = .returned (.bool (preB s p)) ∧ w = w' := by
  have hss := bstr_size s
  have hsp := bstr_size p
  by_cases hA : p.length ≤ s.length
  · have hA' : (p.length : Int) ≤ (s.length : Int) := by omega
    have hcut := fun wz => cut_to s p.length hA wz
    have bt := bstr_toList (s.take p.length)
    have bp := bstr_toList p
    have HX := Lib.hid (show preB s p = (s.take p.length == p) from by unfold preB; rw [decide_eq_true hA]; rfl)
    go_enter Tryz.func143, Tryz.ntmps143
    go_wp2_with fail
    go_ret
    exact ⟨by rw [HX.out]; rfl, rfl⟩
  · have hA' : decide ((p.length : Int) ≤ (s.length : Int)) = false := by simp; omega
    have HX := Lib.hid (show preB s p = false from by unfold preB; rw [decide_eq_false hA]; rfl)
    go_enter Tryz.func143, Tryz.ntmps143
    go_wp2_with fail
    go_ret
    exact ⟨by rw [HX.out]; rfl, rfl⟩
theorem pre_any (s p : Str) (hs : s.length ≤ 1000000000000) (hp : p.length ≤ 1000000000000) (w : World) : Calls Tryz.prog 116 #[.string (bstr s), .string (bstr p)] w fun e w' => e = .returned (.bool (preB s p)) ∧ w = w' := by
  have HC := Lib.hid (pre0_any s p hs hp w)
  go_enter Tryz.func116, Tryz.ntmps116
  go_wp2_with fail
  refine HC.out.mono ?_
  rintro e w2 ⟨rfl, rfl⟩
  go_wp2_with fail
  go_ret
  exact ⟨rfl, rfl⟩
theorem suf0_any (s p : Str) (hs : s.length ≤ 1000000000000) (hp : p.length ≤ 1000000000000) (w : World) : Calls Tryz.prog 144 #[.string (bstr s), .string (bstr p)] w fun e w' => e = .returned (.bool (sufB s p)) ∧ w = w' := by
  have hss := bstr_size s
  have hsp := bstr_size p
  by_cases hA : p.length ≤ s.length
  · have hA' : (p.length : Int) ≤ (s.length : Int) := by omega
    have hcut := fun wz => cut_from s (s.length - p.length) (by omega) wz
    have bt := bstr_toList (s.drop (s.length - p.length))
    have bp := bstr_toList p
    have hw : IntKind.i64.wrap ((s.length : Int) - (p.length : Int)) = ((s.length - p.length : Nat) : Int) := by rw [IntKind.wrap_i64]; omega
    have HX := Lib.hid (show sufB s p = (s.drop (s.length - p.length) == p) from by unfold sufB; rw [decide_eq_true hA]; rfl)
    obtain ⟨q, hq⟩ : ∃ q, q = s.length - p.length := ⟨_, rfl⟩
    rw [← hq] at hcut bt hw HX
    clear hq
    go_enter Tryz.func144, Tryz.ntmps144
    go_wp2_with fail
    go_ret
    exact ⟨by rw [HX.out]; rfl, rfl⟩
  · have hA' : decide ((p.length : Int) ≤ (s.length : Int)) = false := by simp; omega
    have HX := Lib.hid (show sufB s p = false from by unfold sufB; rw [decide_eq_false hA]; rfl)
    go_enter Tryz.func144, Tryz.ntmps144
    go_wp2_with fail
    go_ret
    exact ⟨by rw [HX.out]; rfl, rfl⟩
theorem suf_any (s p : Str) (hs : s.length ≤ 1000000000000) (hp : p.length ≤ 1000000000000) (w : World) : Calls Tryz.prog 117 #[.string (bstr s), .string (bstr p)] w fun e w' => e = .returned (.bool (sufB s p)) ∧ w = w' := by
  have HC := Lib.hid (suf0_any s p hs hp w)
  go_enter Tryz.func117, Tryz.ntmps117
  go_wp2_with fail
  refine HC.out.mono ?_
  rintro e w2 ⟨rfl, rfl⟩
  go_wp2_with fail
  go_ret
  exact ⟨rfl, rfl⟩
end Sx
end Go.Proofs.YtchjncnolmiejaaGreat

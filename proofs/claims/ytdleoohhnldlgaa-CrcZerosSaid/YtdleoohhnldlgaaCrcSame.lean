/- crc.Same. -/
import Derived.Test.YtdleoohhnldlgaaCrcMore
namespace Go.Proofs.Ytdleoohhnldlgaa
open Go.RowKit
namespace Crc
theorem same_any (v : Value) (l : List UInt8) (s : Nat) (w : World) (hr : Row w v (l.map u8v)) :
    Calls Try.prog 16 #[v, .int .u32 (s : Int)] w fun e w' => e = .returned (.bool (more 0 l == s)) ∧ Keeps w w' := by
  have H := Lib.hid (of_any v l w hr)
  have HE : Hid ((((more 0 l : Nat) : Int) == (s : Int)) = (more 0 l == s)) := Lib.hid (by rw [Bool.eq_iff_iff]; simp; omega)
  go_enter Try.func16, Try.ntmps16
  go_wp2_with fail
  refine H.out.mono ?_
  rintro e w1 ⟨rfl, hk1⟩
  go_wp2_with fail
  go_ret
  exact ⟨by simp [← HE.out], hk1⟩
end Crc
end Go.Proofs.Ytdleoohhnldlgaa

/- The functions of package octet on numbers compute the plain ones. -/
import Derived.Test.YtohchhgheeolpaaPPlain
import Derived.Test.YtohchhgheeolpaaRows
import Derived.Test.YtohchhgheeolpaaPGen
namespace Go.Proofs.Ytohchhgheeolpaa
open Go.RowKit
namespace Oct

theorem wrap8 {a : Nat} (h : a < 72057594037927936) : IntKind.u64.wrap ((a : Int) * 256) = ((a * 256 : Nat) : Int) := by
  rw [IntKind.wrap_u64]; omega
theorem or8' {a b : Nat} (ha : a < 72057594037927936) (hb : b < 256) : bits BinOp.or IntKind.u64 ((a : Int) * 256) (b : Int) = ((a * 256 + b : Nat) : Int) := by
  have := u64_or_nat (a * 256) b (by omega) (by omega)
  rw [or_byte a hb] at this
  rw [← this]
  rfl
theorem or8 {a b : Nat} (ha : a < 72057594037927936) (hb : b < 256) : bits BinOp.or IntKind.u64 (IntKind.u64.wrap ((a : Int) * 256)) (b : Int) = ((a * 256 + b : Nat) : Int) := by
  rw [wrap8 ha, u64_or_nat _ _ (by omega) (by omega), or_byte a hb]
theorem and255 {a : Nat} (h : a < 18446744073709551616) : bits BinOp.and IntKind.u64 (a : Int) 255 = ((a % 256 : Nat) : Int) := by
  have := u64_and_nat a 255 h (by omega)
  rw [show ((255 : Nat) : Int) = 255 from rfl] at this
  rw [this]
  have e : a &&& 255 = a % 256 := Nat.and_two_pow_sub_one_eq_mod a 8
  rw [e]
theorem pow_le8 {j : Nat} (h : j ≤ 7) : 256 ^ j ≤ 72057594037927936 := by
  have := Nat.pow_le_pow_right (n := 256) (by omega) h
  simpa using this

theorem good_any (k : Int) (w : World) : Calls Try.prog 207 #[.int .i64 k] w fun e w' => e = .returned (.bool (okk k)) ∧ w = w' := by
  go_enter Try.func207, Try.ntmps207
  go_wp2
  all_goals go_ret
  all_goals (refine ⟨?_, rfl⟩; simp [okk, *])
  all_goals omega

theorem room_any (v : Nat) (hv : v < 18446744073709551616) (k : Int) (hk : okk k = true) (w : World) : Calls Try.prog 230 #[.int .u64 (v : Int), .int .i64 k] w fun e w' => e = .returned (.bool (putB v k)) ∧ w = w' := by
  rcases okk_cases hk with rfl | rfl | rfl | rfl | rfl | rfl | rfl | rfl
  all_goals
    go_enter Try.func230, Try.ntmps230
    go_wp2
    go_ret
    refine ⟨?_, rfl⟩
    simp [putB, hk]
    first | omega | (rw [Bool.eq_iff_iff]; simp; omega)

end Oct
end Go.Proofs.Ytohchhgheeolpaa

/- The functions of package octet on numbers compute the plain ones. -/
import Derived.Test.YtfmjlgkbohidjaaOctetPlain
import Derived.Test.YtfmjlgkbohidjaaRows
import Derived.Test.YtfmjlgkbohidjaaMods
import Derived.Test.YtfmjlgkbohidjaaCut
import Derived.Test.YtfmjlgkbohidjaaCells
namespace Go.Proofs.Ytfmjlgkbohidjaa
open Go.RowKit
namespace Oct

theorem wrap8 {a : Nat} (h : a < 72057594037927936) : IntKind.u64.wrap ((a : Int) * 256) = ((a * 256 : Nat) : Int) := by
  rw [IntKind.wrap_u64]; omega
theorem or8' {a b : Nat} (ha : a < 72057594037927936) (hb : b < 256) : bits BinOp.or IntKind.u64 ((a : Int) * 256) (b : Int) = ((a * 256 + b : Nat) : Int) := by
  have := u64_or_nat (a * 256) b (by omega) (by omega)
  rw [or_byte a hb] at this
  rw [← this]
  rfl
theorem or8 {a b : Nat} (ha : a < 72057594037927936) (hb : b < 256) : bits BinOp.or IntKind.u64 (IntKind.u64.wrap ((a : Int) * 256)) (b : Int) = ((a * 256 + b : Nat) : Int) := by
  rw [wrap8 ha, u64_or_nat _ _ (by omega) (by omega), or_byte a hb]
theorem and255 {a : Nat} (h : a < 18446744073709551616) : bits BinOp.and IntKind.u64 (a : Int) 255 = ((a % 256 : Nat) : Int) := by
  have := u64_and_nat a 255 h (by omega)
  rw [show ((255 : Nat) : Int) = 255 from rfl] at this
  rw [this]
  have e : a &&& 255 = a % 256 := Nat.and_two_pow_sub_one_eq_mod a 8
  rw [e]
theorem pow_le8 {j : Nat} (h : j ≤ 7) : 256 ^ j ≤ 72057594037927936 := by
  have := Nat.pow_le_pow_right (n := 256) (by omega) h
  simpa using this

theorem good_any (k : Int) (w : World) : Calls Try.prog 61 #[.int .i64 k] w fun e w' => e = .returned (.bool (okk k)) ∧ w = w' := by
  go_enter Try.func61, Try.ntmps61
  go_wp2
  all_goals go_ret
  all_goals (refine ⟨?_, rfl⟩; simp [okk, *])
  all_goals omega

theorem room_any (v : Nat) (hv : v < 18446744073709551616) (k : Int) (hk : okk k = true) (w : World) : Calls Try.prog 64 #[.int .u64 (v : Int), .int .i64 k] w fun e w' => e = .returned (.bool (putB v k)) ∧ w = w' := by
  rcases okk_cases hk with rfl | rfl | rfl | rfl | rfl | rfl | rfl | rfl
  all_goals
    go_enter Try.func64, Try.ntmps64
    go_wp2
    go_ret
    refine ⟨?_, rfl⟩
    simp [putB, hk]
    first | omega | (rw [Bool.eq_iff_iff]; simp; omega)

theorem signed_any (v : Nat) (hv : v < 18446744073709551616) (k : Int) (w : World) : Calls Try.prog 30 #[.int .u64 (v : Int), .int .i64 k] w fun e w' => e = .returned (.tuple #[.int .i64 (sgnV v k), .bool (putB v k)]) ∧ w = w' := by
  cases hk : okk k
  · have hp : putB v k = false := by simp [putB, hk]
    go_enter Try.func30, Try.ntmps30
    go_wp2_with (go_at_call 61; refine (good_any _ _).mono ?_; rintro e w' ⟨rfl, rfl⟩)
    go_ret2
    exact ⟨by simp [sgnV, hp], rfl⟩
  · cases hp : putB v k
    · go_enter Try.func30, Try.ntmps30
      go_wp2_with (first | (go_at_call 61; refine (good_any _ _).mono ?_; rintro e w' ⟨rfl, rfl⟩) | (go_at_call 64; refine (room_any _ hv _ hk _).mono ?_; rintro e w' ⟨rfl, rfl⟩))
      go_ret2
      exact ⟨by simp [sgnV, hp], rfl⟩
    · rcases okk_cases hk with rfl | rfl | rfl | rfl | rfl | rfl | rfl | rfl
      all_goals
        go_enter Try.func30, Try.ntmps30
        go_wp2_with (first | (go_at_call 61; refine (good_any _ _).mono ?_; rintro e w' ⟨rfl, rfl⟩) | (go_at_call 64; refine (room_any _ hv _ hk _).mono ?_; rintro e w' ⟨rfl, rfl⟩))
        go_ret2
        refine ⟨?_, rfl⟩
        have hb : v < 256 ^ 8 ∧ putB v _ = true := ⟨by omega, hp⟩
        simp [putB] at hp
        simp only [sgnV, hb.2]
        simp [IntKind.wrap_u64, wrap64]
        split <;> omega

theorem fits_any (v k : Int) (hv : -9223372036854775808 ≤ v ∧ v ≤ 9223372036854775807) (w : World) : Calls Try.prog 31 #[.int .i64 v, .int .i64 k] w fun e w' => e = .returned (.bool (fitsB v k)) ∧ w = w' := by
  cases hk : okk k
  · go_enter Try.func31, Try.ntmps31
    go_wp2_with (go_at_call 61; refine (good_any _ _).mono ?_; rintro e w' ⟨rfl, rfl⟩)
    go_ret
    exact ⟨by simp [fitsB, hk], rfl⟩
  · rcases okk_cases hk with rfl | rfl | rfl | rfl | rfl | rfl | rfl | rfl
    all_goals
      go_enter Try.func31, Try.ntmps31
      go_wp2_with (go_at_call 61; refine (good_any _ _).mono ?_; rintro e w' ⟨rfl, rfl⟩)
      go_ret
      refine ⟨?_, rfl⟩
      simp [fitsB, hk]
      first | omega | (rw [Bool.eq_iff_iff]; simp [wrap64]; omega)

set_option maxHeartbeats 1000000 in
theorem turn_any (v : Nat) (hv : v < 18446744073709551616) (k : Int) (w : World) : Calls Try.prog 33 #[.int .u64 (v : Int), .int .i64 k] w fun e w' => e = .returned (.tuple #[.int .u64 (turnV v k : Nat), .bool (putB v k)]) ∧ w = w' := by
  cases hk : okk k
  · have hp : putB v k = false := by simp [putB, hk]
    go_enter Try.func33, Try.ntmps33
    go_wp2_with (go_at_call 61; refine (good_any _ _).mono ?_; rintro e w' ⟨rfl, rfl⟩)
    go_ret2
    exact ⟨by simp [turnV, hp], rfl⟩
  · cases hp : putB v k
    · go_enter Try.func33, Try.ntmps33
      go_wp2_with (first | (go_at_call 61; refine (good_any _ _).mono ?_; rintro e w' ⟨rfl, rfl⟩) | (go_at_call 64; refine (room_any _ hv _ hk _).mono ?_; rintro e w' ⟨rfl, rfl⟩))
      go_ret2
      exact ⟨by simp [turnV, hp], rfl⟩
    · have hk8 : 1 ≤ k ∧ k ≤ 8 := by simpa [okk] using hk
      obtain ⟨n, rfl⟩ := Int.eq_ofNat_of_zero_le (show 0 ≤ k by omega)
      go_enter Try.func33, Try.ntmps33
      go_wp2_with (first | (go_at_call 61; refine (good_any _ _).mono ?_; rintro e w' ⟨rfl, rfl⟩) | (go_at_call 64; refine (room_any _ hv _ hk _).mono ?_; rintro e w' ⟨rfl, rfl⟩))
      go_loop [0, 6, 17] (fun a out i => ∃ j a' o' : Nat, j ≤ n ∧ i = .int .i64 j ∧ a = .int .u64 (a' : Int) ∧ out = .int .u64 (o' : Int) ∧ a' = v / 256 ^ j ∧ o' = valOf (le j v)) (fun _ _ i => n - (intOf i).toNat)
      case atStart => exact ⟨0, v, 0, by omega, rfl, rfl, rfl, by simp, rfl⟩
      case round =>
        obtain ⟨j, a', o', hj, rfl, rfl, rfl, ha, ho⟩ := hrel
        have HA := Lib.hid ha
        have HO := Lib.hid ho
        clear ha ho
        by_cases hlt : j < n
        · have ha64 : a' < 18446744073709551616 := by rw [HA.out]; exact Nat.lt_of_le_of_lt (Nat.div_le_self _ _) hv
          have ho7 : o' < 72057594037927936 := by
            rw [HO.out]
            have h1 := valOf_lt (le j v)
            rw [le_length] at h1
            exact Nat.lt_of_lt_of_le h1 (pow_le8 (by omega))
          have e1 := and255 ha64
          have e2 := Lib.hid (or8' (a := o') (b := a' % 256) ho7 (by omega))
          go_wp2
          go_round
          case rel =>
            refine ⟨j + 1, a' / 256, o' * 256 + a' % 256, by omega, by go_num, rfl, congrArg (Value.int .u64) e2.out, ?_, ?_⟩
            · rw [HA.out, Nat.div_div_eq_div_mul, Nat.pow_succ]
            · rw [HO.out, HA.out, le, valOf_snoc]; simp
          case measure => simp [intOf] <;> omega
        · obtain rfl : j = n := by omega
          have HT : Hid (turnV v (j : Int) = o') := Lib.hid (by rw [HO.out]; simp [turnV, hp])
          go_wp2
          go_ret2
          exact ⟨by rw [HT.out]; rfl, rfl⟩
end Oct
end Go.Proofs.Ytfmjlgkbohidjaa

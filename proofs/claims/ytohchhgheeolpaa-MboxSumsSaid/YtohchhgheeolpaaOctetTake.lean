/- Get of both, Turn of the reference, octet.Put. -/
import Derived.Test.YtohchhgheeolpaaOctetGet
namespace Go.Proofs.Ytohchhgheeolpaa
open Go.RowKit
namespace Oct

theorem s5 : ∀ w, (sizeOf 5).run Try.prog w = .ok 1 w := fun _ => by kernel_rfl

/-- the ways in which Get says no -/
theorem getB_cases {l : List UInt8} {at' k : Int} (h : getB l at' k = false) (hk : okk k = true) : at' < 0 ∨ (0 ≤ at' ∧ (l.length : Int) < at') ∨ (0 ≤ at' ∧ at' ≤ l.length ∧ (l.length : Int) - at' < k) := by
  simp [getB, hk] at h
  omega
theorem getB_nat {l : List UInt8} {at' k : Int} (h : getB l at' k = true) : ∃ a n : Nat, at' = (a : Int) ∧ k = (n : Int) ∧ 1 ≤ n ∧ n ≤ 8 ∧ a + n ≤ l.length := by
  simp [getB, okk] at h
  exact ⟨at'.toNat, k.toNat, by omega, by omega, by omega, by omega, by omega⟩
theorem getV_nat {l : List UInt8} {a n : Nat} (h : getB l a n = true) : getV l a n = valOf ((l.drop a).take n) := by
  unfold getV
  rw [if_pos h]
  rfl
theorem take_next {l : List UInt8} {j : Nat} (h : j < l.length) : l.take (j + 1) = l.take j ++ [l[j]] := List.take_succ_eq_append_getElem h
theorem valOf_lt' {l : List UInt8} {j : Nat} (h : l.length ≤ j) : valOf l < 256 ^ j := Nat.lt_of_lt_of_le (valOf_lt l) (Nat.pow_le_pow_right (by omega) h)
theorem valOf_7 {l : List UInt8} {j : Nat} (h : j ≤ 7) : valOf (l.take j) < 72057594037927936 := Nat.lt_of_lt_of_le (valOf_lt' (by rw [List.length_take]; exact Nat.min_le_left _ _)) (pow_le8 h)

set_option maxHeartbeats 1000000 in
theorem get_any (v : Value) (l : List UInt8) (at' k : Int) (w : World) (hr : Row w v (l.map u8v)) : Calls Try.prog 202 #[v, .int .i64 at', .int .i64 k] w fun e w' => e = .returned (.tuple #[.int .u64 (getV l at' k : Nat), .bool (getB l at' k)]) ∧ w = w' := by
  cases hk : okk k
  · have H : Hid (((getV l at' k : Nat) : Int) = 0 ∧ getB l at' k = false) := Lib.hid (by
      have : getB l at' k = false := by simp [getB, hk]
      exact ⟨by simp [getV, this], this⟩)
    obtain ⟨p, cap, rfl, -, -⟩ := hr.formB
    go_enter Try.func202, Try.ntmps202
    go_wp2_with (go_at_call 207; refine (good_any _ _).mono ?_; rintro e w' ⟨rfl, rfl⟩)
    go_ret2
    exact ⟨retIB H.out.1.symm H.out.2.symm, rfl⟩
  · cases hg : getB l at' k
    · have H : Hid (((getV l at' k : Nat) : Int) = 0) := Lib.hid (by simp [getV, hg])
      have hc := getB_cases hg hk
      obtain ⟨p, cap, rfl, h1, h2⟩ := hr.formB
      clear hr hg
      rcases hc with hc | ⟨h3, hc⟩ | ⟨h3, h4, hc⟩
      all_goals
        go_enter Try.func202, Try.ntmps202
        go_wp2_with (go_at_call 207; refine (good_any _ _).mono ?_; rintro e w' ⟨rfl, rfl⟩)
        go_ret2
        exact ⟨retIB H.out.symm rfl, rfl⟩
    · obtain ⟨a, n, rfl, rfl, h1, h8, han⟩ := getB_nat hg
      have HV := Lib.hid (getV_nat hg)
      clear hg
      obtain ⟨b, off, cap, rfl, hc1, hc2, HC⟩ := hr.bytesAt (by omega)
      clear hr
      have ea : ∀ w, (Instr.slice 22 (.slice (some ⟨b, off, none⟩) l.length cap) (some (.int .i64 (a : Int))) (some (.int .i64 ((a : Int) + (n : Int)))) none).run Try.prog w = .ok (.slice (some ⟨b, off + a, none⟩) n (cap - a)) w := fun w => by
        rw [show ((a : Int) + (n : Int)) = ((a + n : Nat) : Int) from by omega, run_cut_lh w Try.underlying22 s5 (some ⟨b, off, none⟩) l.length cap a (a + n) (by omega) (by omega)]
        have : ¬ cap = a := by omega
        simp [cutv, this, Go.WideShapes.add_plain]
      have HD : Hid (∀ i x, (l.drop a)[i]? = some x → w.cell? ⟨b, off + a + i, none⟩ = some (.int .u8 (x.toNat : Int))) := Lib.hid fun i x hx => by
        rw [Nat.add_assoc]
        exact HC.out (a + i) x (by simpa using hx)
      have hl : n ≤ (l.drop a).length := by rw [List.length_drop]; omega
      generalize l.drop a = m at *
      go_enter Try.func202, Try.ntmps202
      go_wp2_with (go_at_call 207; refine (good_any _ _).mono ?_; rintro e w' ⟨rfl, rfl⟩)
      go_loop [8, 10, 39] (fun o c i => ∃ j o' : Nat, j ≤ n ∧ i = .int .i64 j ∧ o = .int .u64 (o' : Int) ∧ o' = valOf (m.take j)) (fun _ _ i => n - (intOf i).toNat)
      case atStart => exact ⟨0, 0, by omega, rfl, rfl, rfl⟩
      case round =>
        obtain ⟨j, o', hj, rfl, rfl, ho⟩ := hrel
        have HO := Lib.hid ho
        clear ho
        by_cases hlt : j < n
        · have hcell : w.cell? ⟨b, off + a + j, none⟩ = some (.int .u8 ((m[j]'(by omega)).toNat : Int)) := HD.out j _ (by simp)
          have HT : Hid (m.take (j + 1) = m.take j ++ [m[j]'(by omega)]) := Lib.hid (take_next (by omega))
          have ho7 : o' < 72057594037927936 := by rw [HO.out]; exact valOf_7 (by omega)
          generalize (m[j]'(by omega)) = x at *
          have hx := x.toNat_lt
          have e2 := Lib.hid (or8' (a := o') (b := x.toNat) ho7 hx)
          go_wp2
          go_round
          case rel => exact ⟨j + 1, o' * 256 + x.toNat, by omega, by go_num, congrArg (Value.int .u64) e2.out, by rw [HT.out, valOf_snoc, HO.out]⟩
          case measure => simp [intOf] <;> omega
        · obtain rfl : j = n := by omega
          go_wp2
          go_ret2
          exact ⟨retIB (by rw [HV.out, HO.out]) rfl, rfl⟩

set_option maxHeartbeats 1000000 in
theorem rGet_any (v : Value) (l : List UInt8) (at' k : Int) (w : World) (hr : Row w v (l.map u8v)) : Calls Try.prog 173 #[v, .int .i64 at', .int .i64 k] w fun e w' => e = .returned (.tuple #[.int .u64 (getV l at' k : Nat), .bool (getB l at' k)]) ∧ w = w' := by
  cases hk : okk k
  · have H : Hid (((getV l at' k : Nat) : Int) = 0 ∧ getB l at' k = false) := Lib.hid (by
      have : getB l at' k = false := by simp [getB, hk]
      exact ⟨by simp [getV, this], this⟩)
    have hk' : k < 1 ∨ (1 ≤ k ∧ 8 < k) := by simp [okk] at hk; omega
    obtain ⟨p, cap, rfl, -, -⟩ := hr.formB
    clear hk hr
    rcases hk' with h | ⟨h, h'⟩
    all_goals
      go_enter Try.func173, Try.ntmps173
      go_wp2
      go_ret2
      exact ⟨retIB H.out.1.symm H.out.2.symm, rfl⟩
  · cases hg : getB l at' k
    · have H : Hid (((getV l at' k : Nat) : Int) = 0) := Lib.hid (by simp [getV, hg])
      have hc := getB_cases hg hk
      obtain ⟨n, rfl, hn1, hn8⟩ := okk_nat hk
      obtain ⟨p, cap, rfl, h1, h2⟩ := hr.formB
      clear hr hg hk
      rcases hc with hc | ⟨h3, hc⟩ | ⟨h3, h4, hc⟩
      all_goals
        go_enter Try.func173, Try.ntmps173
        go_wp2
        go_ret2
        exact ⟨retIB H.out.symm rfl, rfl⟩
    · obtain ⟨a, n, rfl, rfl, h1, h8, han⟩ := getB_nat hg
      have HV := Lib.hid (getV_nat hg)
      clear hg hk
      obtain ⟨b, off, cap, rfl, hc1, hc2, HC⟩ := hr.bytesAt (by omega)
      clear hr
      have HD : Hid (∀ i x, (l.drop a)[i]? = some x → w.cell? ⟨b, off + (a + i), none⟩ = some (.int .u8 (x.toNat : Int))) := Lib.hid fun i x hx => HC.out (a + i) x (by simpa using hx)
      have hl : n ≤ (l.drop a).length := by rw [List.length_drop]; omega
      generalize l.drop a = m at *
      go_enter Try.func173, Try.ntmps173
      go_wp2
      go_loop [8, 9] (fun o i => ∃ j o' : Nat, j ≤ n ∧ i = .int .i64 j ∧ o = .int .u64 (o' : Int) ∧ o' = valOf (m.take j)) (fun _ i => n - (intOf i).toNat)
      case atStart => exact ⟨0, 0, by omega, rfl, rfl, rfl⟩
      case round =>
        obtain ⟨j, o', hj, rfl, rfl, ho⟩ := hrel
        have HO := Lib.hid ho
        clear ho
        by_cases hlt : j < n
        · have hcell : w.cell? ⟨b, off + (a + j), none⟩ = some (.int .u8 ((m[j]'(by omega)).toNat : Int)) := HD.out j _ (by simp)
          have HT : Hid (m.take (j + 1) = m.take j ++ [m[j]'(by omega)]) := Lib.hid (take_next (by omega))
          have ho7 : o' < 72057594037927936 := by rw [HO.out]; exact valOf_7 (by omega)
          generalize (m[j]'(by omega)) = x at *
          have hx := x.toNat_lt
          have hi : ((a : Int) + (j : Int)).toNat = a + j := by omega
          go_wp2
          go_round
          case rel => exact ⟨j + 1, o' * 256 + x.toNat, by omega, by go_num, congrArg (Value.int .u64) (by omega), by rw [HT.out, valOf_snoc, HO.out]⟩
          case measure => simp [intOf] <;> omega
        · obtain rfl : j = n := by omega
          go_wp2
          go_ret2
          exact ⟨retIB (by rw [HV.out, HO.out]) rfl, rfl⟩
end Oct
end Go.Proofs.Ytohchhgheeolpaa

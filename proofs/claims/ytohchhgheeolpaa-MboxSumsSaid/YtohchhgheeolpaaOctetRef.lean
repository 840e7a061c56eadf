/- The reference's functions on numbers, and octet.Put and Get, compute the plain ones. -/
import Derived.Test.YtohchhgheeolpaaOctet
import Derived.Test.YtohchhgheeolpaaPGen
namespace Go.Proofs.Ytohchhgheeolpaa
open Go.RowKit
namespace Oct

theorem u8ok : ElemOk Try.prog 22 5 1 := elemOk (z := .int .u8 0) Try.underlying22 (by kernel_rfl) rfl

theorem putB_false {v : Nat} {k : Int} (h : okk k = false) : putB v k = false := by simp [putB, h]
theorem okk_nat {k : Int} (h : okk k = true) : ∃ n : Nat, k = (n : Int) ∧ 1 ≤ n ∧ n ≤ 8 := by
  have : 1 ≤ k ∧ k ≤ 8 := by simpa [okk] using h
  exact ⟨k.toNat, by omega, by omega, by omega⟩
theorem div_zero_iff (v n : Nat) : (((v / 256 ^ n : Nat) : Int) == 0) = decide (v < 256 ^ n) := by
  rw [Bool.eq_iff_iff]
  simp only [beq_iff_eq, decide_eq_true_eq]
  rw [show (((v / 256 ^ n : Nat) : Int) = 0) ↔ (v / 256 ^ n = 0) from by omega, Nat.div_eq_zero_iff]
  have : 0 < 256 ^ n := Nat.pow_pos (by omega)
  omega

theorem rfits_any (v : Nat) (hv : v < 18446744073709551616) (k : Int) (hk : okk k = true) (w : World) : Calls Try.prog 257 #[.int .u64 (v : Int), .int .i64 k] w fun e w' => e = .returned (.bool (putB v k)) ∧ w = w' := by
  obtain ⟨n, rfl, h1, h8⟩ := okk_nat hk
  have HP : Hid ((((v / 256 ^ n : Nat) : Int) == 0) = putB v (n : Int)) := Lib.hid (by rw [div_zero_iff]; simp [putB, hk])
  clear hk
  go_enter Try.func257, Try.ntmps257
  go_wp2
  go_loop [0, 5] (fun a i => ∃ j a' : Nat, j ≤ n ∧ i = .int .i64 j ∧ a = .int .u64 (a' : Int) ∧ a' = v / 256 ^ j) (fun _ i => n - (intOf i).toNat)
  case atStart => exact ⟨0, v, by omega, rfl, rfl, by simp⟩
  case round =>
    obtain ⟨j, a', hj, rfl, rfl, ha⟩ := hrel
    have ha64 : a' < 18446744073709551616 := by rw [ha]; exact Nat.lt_of_le_of_lt (Nat.div_le_self _ _) hv
    have HA := Lib.hid ha
    clear ha
    by_cases hlt : j < n
    · go_wp2
      go_round
      case rel => exact ⟨j + 1, a' / 256, by omega, by go_num, rfl, by rw [HA.out, Nat.div_div_eq_div_mul, Nat.pow_succ]⟩
      case measure => simp [intOf] <;> omega
    · obtain rfl : j = n := by omega
      go_wp2
      go_ret
      exact ⟨by show Ending.returned (.bool ((a' : Int) == 0)) = _; rw [← HP.out, ← HA.out], rfl⟩

theorem be_cons (k v : Nat) : be (k + 1) v = UInt8.ofNat (v / 256 ^ k % 256) :: be k v := by
  have h := be_reverse (k + 1) v
  rw [le, ← be_reverse k v] at h
  have := congrArg List.reverse h
  simpa using this

/-- a slice of the call's own, and a bool -/
def RetSB (W : World) (l : List UInt8) (b : Bool) (e : Ending) (w' : World) : Prop :=
  ∃ v, e = .returned (.tuple #[v, .bool b]) ∧ Own w' W.heap.size 5 v (l.map u8v) ∧ Keeps W w'
def RetS (W : World) (l : List UInt8) (e : Ending) (w' : World) : Prop :=
  ∃ v, e = .returned v ∧ Own w' W.heap.size 5 v (l.map u8v) ∧ Keeps W w'

theorem own_one {w : World} {base b : Nat} {e : TypeId} {x : Value} (hb : b = w.heap.size) (hbase : base ≤ w.heap.size) : Own (w.alloc (.cells #[x] e)) base e (.slice (some ⟨b, 0, none⟩) 1 1) [x] := by
  subst hb
  refine ⟨by simp, .inr ⟨w.heap.size, 1, #[x], rfl, hbase, ?_, Nat.le_refl _, by simp [maxLen], by simp, by simp⟩⟩
  show (w.heap.push _)[w.heap.size]? = _
  simp
theorem mod256 (a : Nat) : ((a : Int) % 256) = ((a % 256 : Nat) : Int) := rfl
theorem u8v_ofNat (a : Nat) : u8v (UInt8.ofNat (a % 256)) = .int .u8 ((a % 256 : Nat) : Int) := by simp [u8v]
theorem pow256_le {n : Nat} (h : n ≤ 8) : 256 ^ n ≤ 18446744073709551616 := by
  have := Nat.pow_le_pow_right (n := 256) (by omega) h
  simpa using this

set_option maxHeartbeats 1000000 in
theorem rPut_any (v : Nat) (hv : v < 18446744073709551616) (k : Int) (w : World) : Calls Try.prog 245 #[.int .u64 (v : Int), .int .i64 k] w (RetSB w (putL v k) (putB v k)) := by
  cases hk : okk k
  · have hp := putB_false (v := v) hk
    have hk' : ¬ (1 ≤ k ∧ k ≤ 8) := by simpa [okk] using hk
    have HE : Hid (RetSB w (putL v k) (putB v k) (.returned (.tuple #[.slice none 0 0, .bool false])) w) := Lib.hid ⟨_, by rw [hp], by simpa [putL, hp] using Own.nil _ _ _, Keeps.refl _⟩
    clear hp hk
    by_cases h1 : k < 1
    · go_enter Try.func245, Try.ntmps245
      go_wp2
      go_ret2
      exact HE.out
    · have h2 : 8 < k := by omega
      clear hk'
      go_enter Try.func245, Try.ntmps245
      go_wp2
      go_ret2
      exact HE.out
  · cases hp : putB v k
    · have HE : Hid (RetSB w (putL v k) false (.returned (.tuple #[.slice none 0 0, .bool false])) w) := Lib.hid ⟨_, rfl, by simpa [putL, hp] using Own.nil _ _ _, Keeps.refl _⟩
      have hk' : 1 ≤ k ∧ k ≤ 8 := by simpa [okk] using hk
      have HC := Lib.hid (rfits_any v hv k hk w)
      rw [hp] at HC
      clear hp hk
      go_enter Try.func245, Try.ntmps245
      go_wp2_with (go_at_call 257; refine HC.out.mono ?_; rintro e w' ⟨rfl, rfl⟩)
      go_ret2
      exact HE.out
    · have HC := Lib.hid (rfits_any v hv k hk w)
      rw [hp] at HC
      have HL : Hid (putL v k = be k.toNat v) := Lib.hid (by simp [putL, hp])
      obtain ⟨n, rfl, h1, h8⟩ := okk_nat hk
      clear hp hk
      go_enter Try.func245, Try.ntmps245
      go_wp2_with (go_at_call 257; refine HC.out.mono ?_; rintro e w' ⟨rfl, rfl⟩)
      go_loopw [0, 6, 7] (fun a o i wr => ∃ j a' : Nat, j ≤ n ∧ i = .int .i64 j ∧ a = .int .u64 (a' : Int) ∧ a' = v / 256 ^ j ∧ Own wr w.heap.size 5 o ((be j v).map u8v) ∧ Keeps w wr) (fun _ _ i _ => n - (intOf i).toNat)
      case atStart => exact ⟨0, v, by omega, rfl, rfl, by simp, by simpa [be] using Own.nil _ _ _, Keeps.refl _⟩
      case round =>
        obtain ⟨j, a', hj, rfl, rfl, ha, hown, hK⟩ := hrel
        have ha64 : a' < 18446744073709551616 := by rw [ha]; exact Nat.lt_of_le_of_lt (Nat.div_le_self _ _) hv
        have HA := Lib.hid ha
        clear ha HC
        by_cases hlt : j < n
        · have HB : Hid (be (j + 1) v = UInt8.ofNat (a' % 256) :: be j v) := Lib.hid (by rw [be_cons, HA.out])
          have HO := Lib.hid hown
          clear hown
          have hlen := be_length j v
          have hsz := hK.size
          have HLL := Lib.hid hlen
          clear hlen
          have HX : Hid (1 + ((be j v).map u8v).length ≤ 10) := Lib.hid (by rw [List.length_map, HLL.out]; omega)
          go_wp2_with (at_builtin; refine wpList_app (base := w.heap.size) u8ok rfl _ _ rfl (.slice (some ⟨wr.heap.size, 0, none⟩) 1 1) _ [.int .u8 ((a' % 256 : Nat) : Int)] ((be j v).map u8v) rfl rfl (own_one rfl hsz) (HO.out.alloc _).row (oneCell_map_u8 _) (by have := HX.out; simp only [List.length_singleton]; omega) (by omega) (by simp; omega) ?_; intro v' w2 ho2 hg2)
          go_roundw
          case rel => exact ⟨j + 1, a' / 256, by omega, by go_num, rfl, by rw [HA.out, Nat.div_div_eq_div_mul, Nat.pow_succ], by rw [HB.out, List.map_cons, u8v_ofNat]; exact ho2, (hK.alloc _).grown hg2 (by intro k hk; simp [Value.ownBlock] at hk; omega)⟩
          case measure => simp [intOf] <;> omega
        · obtain rfl : j = n := by omega
          go_wp2
          go_ret2
          exact ⟨_, rfl, by rw [HL.out]; exact hown, hK⟩
end Oct
end Go.Proofs.Ytohchhgheeolpaa

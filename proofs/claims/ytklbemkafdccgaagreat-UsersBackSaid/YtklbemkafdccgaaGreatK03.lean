/- Several texts in one: Octet, OctetRef, OctetGet, OctetTake, OctetPut. -/
import Derived.Test.YtklbemkafdccgaaGreatK00
import Derived.Test.YtklbemkafdccgaaGreatRows
import Derived.Test.YtklbemkafdccgaaGreatK01
import Derived.Laws.MakeOwn
/- The functions of package octet on numbers compute the plain ones. -/
namespace Go.Proofs.YtklbemkafdccgaaGreat
open Go.RowKit
namespace Oct

theorem or8' {a b : Nat} (ha : a < 72057594037927936) (hb : b < 256) : bits BinOp.or IntKind.u64 ((a : Int) * 256) (b : Int) = ((a * 256 + b : Nat) : Int) := by
 have := u64_or_nat (a * 256) b (by omega) (by omega)
 rw [or_byte a hb] at this
 rw [← this]
 rfl
theorem pow_le8 {j : Nat} (h : j ≤ 7) : 256 ^ j ≤ 72057594037927936 := by
 have := Nat.pow_le_pow_right (n := 256) (by omega) h
 simpa using this

theorem good_any (k : Int) (w : World) : Calls Tryz.prog 115 #[.int .i64 k] w fun e w' => e = .returned (.bool (okk k)) ∧ w = w' := by
 go_enter Tryz.func115, Tryz.ntmps115
 go_wp2
 all_goals go_ret
 all_goals (refine ⟨?_, rfl⟩; simp [okk, *])
 all_goals omega

theorem room_any (v : Nat) (hv : v < 18446744073709551616) (k : Int) (hk : okk k = true) (w : World) : Calls Tryz.prog 165 #[.int .u64 (v : Int), .int .i64 k] w fun e w' => e = .returned (.bool (putB v k)) ∧ w = w' := by
 rcases okk_cases hk with rfl | rfl | rfl | rfl | rfl | rfl | rfl | rfl
 all_goals
  go_enter Tryz.func165, Tryz.ntmps165
  go_wp2
  go_ret
  refine ⟨?_, rfl⟩
  simp [putB, hk]
  first | omega | (rw [Bool.eq_iff_iff]; simp; omega)

theorem signed_any (v : Nat) (hv : v < 18446744073709551616) (k : Int) (w : World) : Calls Tryz.prog 166 #[.int .u64 (v : Int), .int .i64 k] w fun e w' => e = .returned (.tuple #[.int .i64 (sgnV v k), .bool (putB v k)]) ∧ w = w' := by
 cases hk : okk k
 ·have hp : putB v k = false := by simp [putB, hk]
  go_enter Tryz.func166, Tryz.ntmps166
  go_wp2_with (go_at_call 115; refine (good_any _ _).mono ?_; rintro e w' ⟨rfl, rfl⟩)
  go_ret2
  exact ⟨by simp [sgnV, hp], rfl⟩
 ·cases hp : putB v k
  ·go_enter Tryz.func166, Tryz.ntmps166
   go_wp2_with (first | (go_at_call 115; refine (good_any _ _).mono ?_; rintro e w' ⟨rfl, rfl⟩) | (go_at_call 165; refine (room_any _ hv _ hk _).mono ?_; rintro e w' ⟨rfl, rfl⟩))
   go_ret2
   exact ⟨by simp [sgnV, hp], rfl⟩
  ·rcases okk_cases hk with rfl | rfl | rfl | rfl | rfl | rfl | rfl | rfl
   all_goals
    go_enter Tryz.func166, Tryz.ntmps166
    go_wp2_with (first | (go_at_call 115; refine (good_any _ _).mono ?_; rintro e w' ⟨rfl, rfl⟩) | (go_at_call 165; refine (room_any _ hv _ hk _).mono ?_; rintro e w' ⟨rfl, rfl⟩))
    go_ret2
    refine ⟨?_, rfl⟩
    have hb : v < 256 ^ 8 ∧ putB v _ = true := ⟨by omega, hp⟩
    simp [putB] at hp
    simp only [sgnV, hb.2]
    simp [IntKind.wrap_u64, wrap64]
    split <;> omega

theorem fits_any (v k : Int) (hv : -9223372036854775808 ≤ v ∧ v ≤ 9223372036854775807) (w : World) : Calls Tryz.prog 110 #[.int .i64 v, .int .i64 k] w fun e w' => e = .returned (.bool (fitsB v k)) ∧ w = w' := by
 cases hk : okk k
 ·go_enter Tryz.func110, Tryz.ntmps110
  go_wp2_with (go_at_call 115; refine (good_any _ _).mono ?_; rintro e w' ⟨rfl, rfl⟩)
  go_ret
  exact ⟨by simp [fitsB, hk], rfl⟩
 ·rcases okk_cases hk with rfl | rfl | rfl | rfl | rfl | rfl | rfl | rfl
  all_goals
   go_enter Tryz.func110, Tryz.ntmps110
   go_wp2_with (go_at_call 115; refine (good_any _ _).mono ?_; rintro e w' ⟨rfl, rfl⟩)
   go_ret
   refine ⟨?_, rfl⟩
   simp [fitsB, hk]
   first | omega | (rw [Bool.eq_iff_iff]; simp [wrap64]; omega)

end Oct
end Go.Proofs.YtklbemkafdccgaaGreat

/- The reference's functions on numbers, and octet.Put and Get, compute the plain ones. -/
namespace Go.Proofs.YtklbemkafdccgaaGreat
open Go.RowKit
namespace Oct

theorem u8ok : ElemOk Tryz.prog 51 5 1 := elemOk (z := .int .u8 0) Tryz.underlying51 (by kernel_rfl) rfl

theorem putB_false {v : Nat} {k : Int} (h : okk k = false) : putB v k = false := by simp [putB, h]
theorem okk_nat {k : Int} (h : okk k = true) : ∃ n : Nat, k = (n : Int) ∧ 1 ≤ n ∧ n ≤ 8 := by
 have : 1 ≤ k ∧ k ≤ 8 := by simpa [okk] using h
 exact ⟨k.toNat, by omega, by omega, by omega⟩
/-- a slice of the call's own, and a bool -/
def RetSB (W : World) (l : List UInt8) (b : Bool) (e : Ending) (w' : World) : Prop :=
 ∃ v, e = .returned (.tuple #[v, .bool b]) ∧ Own w' W.heap.size 5 v (l.map u8v) ∧ Keeps W w'
def RetS (W : World) (l : List UInt8) (e : Ending) (w' : World) : Prop :=
 ∃ v, e = .returned v ∧ Own w' W.heap.size 5 v (l.map u8v) ∧ Keeps W w'

theorem own_one {w : World} {base b : Nat} {e : TypeId} {x : Value} (hb : b = w.heap.size) (hbase : base ≤ w.heap.size) : Own (w.alloc (.cells #[x] e)) base e (.slice (some ⟨b, 0, none⟩) 1 1) [x] := by
 subst hb
 refine ⟨by simp, .inr ⟨w.heap.size, 1, #[x], rfl, hbase, ?_, Nat.le_refl _, by simp [maxLen], by simp, by simp⟩⟩
 show (w.heap.push _)[w.heap.size]? = _
 simp
theorem pow256_le {n : Nat} (h : n ≤ 8) : 256 ^ n ≤ 18446744073709551616 := by
 have := Nat.pow_le_pow_right (n := 256) (by omega) h
 simpa using this

end Oct
end Go.Proofs.YtklbemkafdccgaaGreat

/- Get, half, Signed, Fits, Unsigned and Turn of the reference, octet.Get. -/
namespace Go.Proofs.YtklbemkafdccgaaGreat
open Go.RowKit

theorem Row.bytesAt {w : World} {v : Value} {l : List UInt8} (h : Row w v (l.map u8v)) (hl : 0 < l.length) : ∃ b off cap, v = .slice (some ⟨b, off, none⟩) l.length cap ∧ l.length ≤ cap ∧ cap ≤ 9223372036854775807 ∧ Hid (∀ i x, l[i]? = some x → w.cell? ⟨b, off + i, none⟩ = some (.int .u8 (x.toNat : Int))) := by
 rcases h with ⟨a0, cap', rfl, hl0, -, -⟩ | ⟨b, off, cap', rfl, h1, h2, hcell⟩
 ·have : l = [] := by simpa using hl0
  subst this
  simp at hl
 ·exact ⟨b, off, cap', by simp, by simpa using h1, by simpa [maxLen] using h2, Lib.hid fun i x hx => hcell i _ (by simp [hx, u8v])⟩
theorem Row.formB {w : World} {v : Value} {l : List UInt8} (h : Row w v (l.map u8v)) : ∃ p cap, v = .slice p l.length cap ∧ l.length ≤ cap ∧ cap ≤ 9223372036854775807 := by
 obtain ⟨p, cap, rfl, h1, h2⟩ := h.form
 rw [List.length_map] at *
 exact ⟨p, cap, rfl, h1, by simpa [maxLen] using h2⟩

theorem retI {k : IntKind} {a b : Int} (h : a = b) : Ending.returned (.int k a) = .returned (.int k b) := by rw [h]
theorem retB {a b : Bool} (h : a = b) : Ending.returned (.bool a) = .returned (.bool b) := by rw [h]
theorem retIB {k : IntKind} {a b : Int} {c d : Bool} (h : a = b) (h' : c = d) : Ending.returned (.tuple #[.int k a, .bool c]) = .returned (.tuple #[.int k b, .bool d]) := by rw [h, h']

namespace Oct
def half (n : Nat) : Nat := 128 * 256 ^ (n - 1)
theorem two_half {n : Nat} (h : 1 ≤ n) : 2 * half n = 256 ^ n := by
 obtain ⟨m, rfl⟩ : ∃ m, n = m + 1 := ⟨n - 1, by omega⟩
 unfold half
 rw [Nat.add_sub_cancel, Nat.pow_succ]
 omega
theorem half_two {n : Nat} (h : 1 ≤ n) : half n = 2 ^ (8 * n - 1) := by
 obtain ⟨m, rfl⟩ : ∃ m, n = m + 1 := ⟨n - 1, by omega⟩
 unfold half
 rw [Nat.add_sub_cancel, show 8 * (m + 1) - 1 = 7 + 8 * m from by omega, Nat.pow_add, Nat.pow_mul]
theorem half_twoI {n : Nat} (h : 1 ≤ n) : (2 : Int) ^ (8 * n - 1) = (half n : Int) := by rw [half_two h]; simp
theorem full_twoI {n : Nat} (h : 1 ≤ n) : (2 : Int) ^ (8 * n) = 2 * (half n : Int) := by
 rw [show 8 * n = (8 * n - 1) + 1 from by omega, Int.pow_succ, half_twoI h]; omega
theorem sgn_half {v n : Nat} (h : 1 ≤ n) (hp : putB v n = true) : sgnV v n = (if (v : Int) < half n then (v : Int) else (v : Int) - 2 * half n) ∧ v < 2 * half n := by
 have hv : v < 256 ^ n := by simp [putB] at hp; exact hp.2
 refine ⟨?_, by rw [two_half h]; exact hv⟩
 unfold sgnV
 rw [if_pos hp, Int.toNat_natCast, half_twoI h, full_twoI h]
theorem fits_half {v : Int} {n : Nat} (h : 1 ≤ n) (h8 : n ≤ 8) : fitsB v n = decide (-(half n : Int) ≤ v ∧ v < half n) := by
 have : okk (n : Int) = true := by simp [okk]; omega
 unfold fitsB
 rw [this, Int.toNat_natCast, half_twoI h]
 simp
theorem uns_half {v : Int} {n : Nat} (h : 1 ≤ n) (h8 : n ≤ 8) (hf : fitsB v n = true) : (unsV v n : Int) = if 0 ≤ v then v else v + 2 * half n := by
 rw [fits_half h h8] at hf
 have hb : -(half n : Int) ≤ v ∧ v < half n := of_decide_eq_true hf
 unfold unsV
 rw [Int.toNat_natCast, full_twoI h]
 split
 ·rw [Int.emod_eq_of_lt (by omega) (by omega)]; omega
 ·rw [show v % (2 * (half n : Int)) = (v + 2 * half n) % (2 * half n) from by simp, Int.emod_eq_of_lt (by omega) (by omega)]; omega

end Oct
end Go.Proofs.YtklbemkafdccgaaGreat

/- Get of both, Turn of the reference, octet.Put. -/
namespace Go.Proofs.YtklbemkafdccgaaGreat
open Go.RowKit
namespace Oct

theorem s5 : ∀ w, (sizeOf 5).run Tryz.prog w = .ok 1 w := fun _ => by kernel_rfl

/-- the ways in which Get says no -/
theorem getB_cases {l : List UInt8} {at' k : Int} (h : getB l at' k = false) (hk : okk k = true) : at' < 0 ∨ (0 ≤ at' ∧ (l.length : Int) < at') ∨ (0 ≤ at' ∧ at' ≤ l.length ∧ (l.length : Int) - at' < k) := by
 simp [getB, hk] at h
 omega
theorem getB_nat {l : List UInt8} {at' k : Int} (h : getB l at' k = true) : ∃ a n : Nat, at' = (a : Int) ∧ k = (n : Int) ∧ 1 ≤ n ∧ n ≤ 8 ∧ a + n ≤ l.length := by
 simp [getB, okk] at h
 exact ⟨at'.toNat, k.toNat, by omega, by omega, by omega, by omega, by omega⟩
theorem getV_nat {l : List UInt8} {a n : Nat} (h : getB l a n = true) : getV l a n = valOf ((l.drop a).take n) := by
 unfold getV
 rw [if_pos h]
 rfl
theorem take_next {l : List UInt8} {j : Nat} (h : j < l.length) : l.take (j + 1) = l.take j ++ [l[j]] := List.take_succ_eq_append_getElem h
theorem valOf_lt' {l : List UInt8} {j : Nat} (h : l.length ≤ j) : valOf l < 256 ^ j := Nat.lt_of_lt_of_le (valOf_lt l) (Nat.pow_le_pow_right (by omega) h)
theorem valOf_7 {l : List UInt8} {j : Nat} (h : j ≤ 7) : valOf (l.take j) < 72057594037927936 := Nat.lt_of_lt_of_le (valOf_lt' (by rw [List.length_take]; exact Nat.min_le_left _ _)) (pow_le8 h)

set_option maxHeartbeats 1000000 in
theorem get_any (v : Value) (l : List UInt8) (at' k : Int) (w : World) (hr : Row w v (l.map u8v)) : Calls Tryz.prog 116 #[v, .int .i64 at', .int .i64 k] w fun e w' => e = .returned (.tuple #[.int .u64 (getV l at' k : Nat), .bool (getB l at' k)]) ∧ w = w' := by
 cases hk : okk k
 ·have H : Hid (((getV l at' k : Nat) : Int) = 0 ∧ getB l at' k = false) := Lib.hid (by
   have : getB l at' k = false := by simp [getB, hk]
   exact ⟨by simp [getV, this], this⟩)
  obtain ⟨p, cap, rfl, -, -⟩ := hr.formB
  go_enter Tryz.func116, Tryz.ntmps116
  go_wp2_with (go_at_call 115; refine (good_any _ _).mono ?_; rintro e w' ⟨rfl, rfl⟩)
  go_ret2
  exact ⟨retIB H.out.1.symm H.out.2.symm, rfl⟩
 ·cases hg : getB l at' k
  ·have H : Hid (((getV l at' k : Nat) : Int) = 0) := Lib.hid (by simp [getV, hg])
   have hc := getB_cases hg hk
   obtain ⟨p, cap, rfl, h1, h2⟩ := hr.formB
   clear hr hg
   rcases hc with hc | ⟨h3, hc⟩ | ⟨h3, h4, hc⟩
   all_goals
    go_enter Tryz.func116, Tryz.ntmps116
    go_wp2_with (go_at_call 115; refine (good_any _ _).mono ?_; rintro e w' ⟨rfl, rfl⟩)
    go_ret2
    exact ⟨retIB H.out.symm rfl, rfl⟩
  ·obtain ⟨a, n, rfl, rfl, h1, h8, han⟩ := getB_nat hg
   have HV := Lib.hid (getV_nat hg)
   clear hg
   obtain ⟨b, off, cap, rfl, hc1, hc2, HC⟩ := hr.bytesAt (by omega)
   clear hr
   have ea : ∀ w, (Instr.slice 51 (.slice (some ⟨b, off, none⟩) l.length cap) (some (.int .i64 (a : Int))) (some (.int .i64 ((a : Int) + (n : Int)))) none).run Tryz.prog w = .ok (.slice (some ⟨b, off + a, none⟩) n (cap - a)) w := fun w => by
    rw [show ((a : Int) + (n : Int)) = ((a + n : Nat) : Int) from by omega, run_cut_lh w Tryz.underlying51 s5 (some ⟨b, off, none⟩) l.length cap a (a + n) (by omega) (by omega)]
    have : ¬ cap = a := by omega
    simp [cutv, this, Go.WideShapes.add_plain]
   have HD : Hid (∀ i x, (l.drop a)[i]? = some x → w.cell? ⟨b, off + a + i, none⟩ = some (.int .u8 (x.toNat : Int))) := Lib.hid fun i x hx => by
    rw [Nat.add_assoc]
    exact HC.out (a + i) x (by simpa using hx)
   have hl : n ≤ (l.drop a).length := by rw [List.length_drop]; omega
   generalize l.drop a = m at *
   go_enter Tryz.func116, Tryz.ntmps116
   go_wp2_with (go_at_call 115; refine (good_any _ _).mono ?_; rintro e w' ⟨rfl, rfl⟩)
   go_loop [8, 10, 39] (fun o c i => ∃ j o' : Nat, j ≤ n ∧ i = .int .i64 j ∧ o = .int .u64 (o' : Int) ∧ o' = valOf (m.take j)) (fun _ _ i => n - (intOf i).toNat)
   case atStart => exact ⟨0, 0, by omega, rfl, rfl, rfl⟩
   case round =>
    obtain ⟨j, o', hj, rfl, rfl, ho⟩ := hrel
    have HO := Lib.hid ho
    clear ho
    by_cases hlt : j < n
    ·have hcell : w.cell? ⟨b, off + a + j, none⟩ = some (.int .u8 ((m[j]'(by omega)).toNat : Int)) := HD.out j _ (by simp)
     have HT : Hid (m.take (j + 1) = m.take j ++ [m[j]'(by omega)]) := Lib.hid (take_next (by omega))
     have ho7 : o' < 72057594037927936 := by rw [HO.out]; exact valOf_7 (by omega)
     generalize (m[j]'(by omega)) = x at *
     have hx := x.toNat_lt
     have e2 := Lib.hid (or8' (a := o') (b := x.toNat) ho7 hx)
     go_wp2
     go_round
     case rel => exact ⟨j + 1, o' * 256 + x.toNat, by omega, by go_num, congrArg (Value.int .u64) e2.out, by rw [HT.out, valOf_snoc, HO.out]⟩
     case measure => simp [intOf] <;> omega
    ·obtain rfl : j = n := by omega
     go_wp2
     go_ret2
     exact ⟨retIB (by rw [HV.out, HO.out]) rfl, rfl⟩

end Oct
end Go.Proofs.YtklbemkafdccgaaGreat

/- octet.Put, Turn of the reference. -/
namespace Go.Proofs.YtklbemkafdccgaaGreat
open Go.RowKit

/-- so many bytes 00 -/
def zeroB (n : Nat) : Array Value := madeCells #[.int .u8 0] n
theorem zeroB_size (n : Nat) : (zeroB n).size = n := size_madeCells _ _
theorem run_make_u8 {P : Program} {t e : TypeId} (ht : P.underlying t = some (.slice e)) (hi : (P.info? e).map (fun i => (i.zero, i.size, i.bytes)) = some (some (.int .u8 0), 1, 1)) (n : Nat) (hn : n ≤ 281474976710656) (w : World) :
  (Instr.makeSlice t (.int .i64 (n : Int)) (.int .i64 (n : Int))).run P w = .ok (.slice (some ⟨w.heap.size, 0, none⟩) n n) (w.alloc (.cells (zeroB n) e)) := by
 obtain ⟨i, hi', hz, hs, hb⟩ := info_parts hi
 have := run_make w t e i (.int .u8 0) ht hi' hz .i64 .i64 (n : Int) (n : Int) (by omega) (by omega) (by rw [hb]; omega) (by omega)
 rw [this, hs]
 simp [zeroB, Value.cells]
theorem own_arr {w : World} {base b n : Nat} {e : TypeId} {cs : Array Value} {l : List Value} (hb : b = w.heap.size) (hbase : base ≤ w.heap.size) (hn : n = l.length) (hl : cs.toList = l) (hm : n ≤ maxLen) : Own (w.alloc (.cells cs e)) base e (.slice (some ⟨b, 0, none⟩) n n) l := by
 subst hb hl hn
 refine ⟨by simp, .inr ⟨w.heap.size, cs.size, cs, by simp, hbase, ?_, by simp, by simpa using hm, by simp, ?_⟩⟩
 ·show (w.heap.push _)[w.heap.size]? = _
  simp
 ·rw [List.take_of_length_le (by simp)]

namespace Oct
theorem i22 : (Tryz.prog.info? 5).map (fun i => (i.zero, i.size, i.bytes)) = some (some (.int .u8 0), 1, 1) := by kernel_rfl
theorem be_list {v n : Nat} {cs : Array Value} (hs : cs.size = n) (h : ∀ j, j < n → cs[j]? = some (.int .u8 ((v / 256 ^ (n - 1 - j) % 256 : Nat) : Int))) : cs.toList = (be n v).map u8v := by
 apply List.ext_getElem?
 intro j
 rw [Array.getElem?_toList]
 by_cases hj : j < n
 ·rw [h j hj, List.getElem?_map, be_get n v j hj]
  simp [u8v]
 ·rw [Array.getElem?_eq_none (by omega), List.getElem?_eq_none (by rw [List.length_map, be_length]; omega)]

theorem shift_byte (v m : Nat) : ((v : Int) / 2 ^ (8 * m) % 256) = ((v / 256 ^ m % 256 : Nat) : Int) := by
 have e : (2 : Int) ^ (8 * m) = ((256 ^ m : Nat) : Int) := by rw [Int.pow_mul]; simp
 rw [e]
 rfl

set_option maxHeartbeats 1000000 in
theorem put_any (v : Nat) (hv : v < 18446744073709551616) (k : Int) (w : World) : Calls Tryz.prog 109 #[.int .u64 (v : Int), .int .i64 k] w (RetSB w (putL v k) (putB v k)) := by
 cases hk : okk k
 ·have hp := putB_false (v := v) hk
  have HE : Hid (RetSB w (putL v k) (putB v k) (.returned (.tuple #[.slice none 0 0, .bool false])) w) := Lib.hid ⟨_, by rw [hp], by simpa [putL, hp] using Own.nil _ _ _, Keeps.refl _⟩
  clear hp
  go_enter Tryz.func109, Tryz.ntmps109
  go_wp2_with (go_at_call 115; refine (good_any _ _).mono ?_; rintro e w' ⟨rfl, rfl⟩)
  go_ret2
  exact HE.out
 ·have HR := Lib.hid (room_any v hv k hk w)
  cases hp : putB v k
  ·have HE : Hid (RetSB w (putL v k) false (.returned (.tuple #[.slice none 0 0, .bool false])) w) := Lib.hid ⟨_, rfl, by simpa [putL, hp] using Own.nil _ _ _, Keeps.refl _⟩
   rw [hp] at HR
   clear hp
   go_enter Tryz.func109, Tryz.ntmps109
   go_wp2_with (first | (go_at_call 115; refine (good_any _ _).mono ?_; rintro e w' ⟨rfl, rfl⟩) | (go_at_call 165; refine HR.out.mono ?_; rintro e w' ⟨rfl, rfl⟩))
   go_ret2
   exact HE.out
  ·have HL : Hid (putL v k = be k.toNat v) := Lib.hid (by simp [putL, hp])
   have HG := Lib.hid (good_any k w)
   rw [hk] at HG
   rw [hp] at HR
   obtain ⟨n, rfl, h1, h8⟩ := okk_nat hk
   clear hp hk
   have hmk := fun w => run_make_u8 (P := Tryz.prog) Tryz.underlying51 i22 n (by omega) w
   go_enter Tryz.func109, Tryz.ntmps109
   go_wp2_with (first | (go_at_call 115; refine HG.out.mono ?_; rintro e w' ⟨rfl, rfl⟩) | (go_at_call 165; refine HR.out.mono ?_; rintro e w' ⟨rfl, rfl⟩))
   clear hmk
   go_loopw [7, 21] (fun s7 i wr => ∃ (j : Nat) (cs : Array Value), j ≤ n ∧ i = .int .i64 j ∧ wr = w.alloc (.cells cs 5) ∧ cs.size = n ∧ Hid (∀ i, i < j → cs[i]? = some (.int .u8 ((v / 256 ^ (n - 1 - i) % 256 : Nat) : Int)))) (fun _ i _ => n - (intOf i).toNat)
   case atStart => exact ⟨0, _, by omega, rfl, rfl, zeroB_size n, Lib.hid (by omega)⟩
   case round =>
    obtain ⟨j, cs, hj, rfl, rfl, hsz, HC⟩ := hrel
    have HZ := Lib.hid hsz
    clear hsz
    by_cases hlt : j < n
    ·obtain ⟨old, hold⟩ : ∃ old, cs[j]? = some old := ⟨cs[j]'(by have := HZ.out; omega), by simp [HZ.out, hlt]⟩
     have hcell : ((w.alloc (.cells cs 5)).cell? ⟨w.heap.size, j, none⟩) = some old := by
      rw [cell_alloc_new]; exact hold
     go_wp2
     go_roundw
     case rel =>
      refine ⟨j + 1, cs.setIfInBounds j (.int .u8 ((v / 256 ^ (n - 1 - j) % 256 : Nat) : Int)), by omega, by go_num, ?_, by simp [HZ.out], Lib.hid fun i hi => ?_⟩
      ·rw [shift_byte]
      ·rw [Array.getElem?_setIfInBounds]
       split
       ·rename_i e
        subst e
        rw [if_pos (by have := HZ.out; omega)]
       ·exact HC.out i (by omega)
     case measure => simp [intOf] <;> omega
    ·obtain rfl : j = n := by omega
     go_wp2
     go_ret2
     exact ⟨_, rfl, by rw [HL.out, Int.toNat_natCast]; exact own_arr rfl (Nat.le_refl _) (by simp [be_length]) (be_list HZ.out HC.out) (by unfold maxLen; omega), (Keeps.refl _).alloc _⟩
end Oct
end Go.Proofs.YtklbemkafdccgaaGreat

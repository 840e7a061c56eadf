/- Several texts in one: Octet, OctetRef, OctetGet, OctetTake, OctetPut, FrameBackPlain, TxPlain, FrameRefAtPlain, FrameCutPlain, FrameCutL, EnStepsPlain. -/
import Derived.Test.YtkbibhlfehamgaaK00
import Derived.Test.YtkbibhlfehamgaaRows
import Derived.Test.YtkbibhlfehamgaaK04
import Derived.Laws.MakeOwn
import Derived.Test.YtkbibhlfehamgaaK02
/- The functions of package octet on numbers compute the plain ones. -/
namespace Go.Proofs.Ytkbibhlfehamgaa
open Go.RowKit
namespace Oct

theorem or8' {a b : Nat} (ha : a < 72057594037927936) (hb : b < 256) : bits BinOp.or IntKind.u64 ((a : Int) * 256) (b : Int) = ((a * 256 + b : Nat) : Int) := by
 have := u64_or_nat (a * 256) b (by omega) (by omega)
 rw [or_byte a hb] at this
 rw [← this]
 rfl
theorem pow_le8 {j : Nat} (h : j ≤ 7) : 256 ^ j ≤ 72057594037927936 := by
 have := Nat.pow_le_pow_right (n := 256) (by omega) h
 simpa using this

theorem good_any (k : Int) (w : World) : Calls Try.prog 63 #[.int .i64 k] w fun e w' => e = .returned (.bool (okk k)) ∧ w = w' := by
 go_enter Try.func63, Try.ntmps63
 go_wp2
 all_goals go_ret
 all_goals (refine ⟨?_, rfl⟩; simp [okk, *])
 all_goals omega

theorem room_any (v : Nat) (hv : v < 18446744073709551616) (k : Int) (hk : okk k = true) (w : World) : Calls Try.prog 77 #[.int .u64 (v : Int), .int .i64 k] w fun e w' => e = .returned (.bool (putB v k)) ∧ w = w' := by
 rcases okk_cases hk with rfl | rfl | rfl | rfl | rfl | rfl | rfl | rfl
 all_goals
  go_enter Try.func77, Try.ntmps77
  go_wp2
  go_ret
  refine ⟨?_, rfl⟩
  simp [putB, hk]
  first | omega | (rw [Bool.eq_iff_iff]; simp; omega)

end Oct
end Go.Proofs.Ytkbibhlfehamgaa

/- The reference's functions on numbers, and octet.Put and Get, compute the plain ones. -/
namespace Go.Proofs.Ytkbibhlfehamgaa
open Go.RowKit
namespace Oct

theorem u8ok : ElemOk Try.prog 22 5 1 := elemOk (z := .int .u8 0) Try.underlying22 (by kernel_rfl) rfl

theorem putB_false {v : Nat} {k : Int} (h : okk k = false) : putB v k = false := by simp [putB, h]
theorem okk_nat {k : Int} (h : okk k = true) : ∃ n : Nat, k = (n : Int) ∧ 1 ≤ n ∧ n ≤ 8 := by
 have : 1 ≤ k ∧ k ≤ 8 := by simpa [okk] using h
 exact ⟨k.toNat, by omega, by omega, by omega⟩
/-- a slice of the call's own, and a bool -/
def RetSB (W : World) (l : List UInt8) (b : Bool) (e : Ending) (w' : World) : Prop :=
 ∃ v, e = .returned (.tuple #[v, .bool b]) ∧ Own w' W.heap.size 5 v (l.map u8v) ∧ Keeps W w'
def RetS (W : World) (l : List UInt8) (e : Ending) (w' : World) : Prop :=
 ∃ v, e = .returned v ∧ Own w' W.heap.size 5 v (l.map u8v) ∧ Keeps W w'

theorem own_one {w : World} {base b : Nat} {e : TypeId} {x : Value} (hb : b = w.heap.size) (hbase : base ≤ w.heap.size) : Own (w.alloc (.cells #[x] e)) base e (.slice (some ⟨b, 0, none⟩) 1 1) [x] := by
 subst hb
 refine ⟨by simp, .inr ⟨w.heap.size, 1, #[x], rfl, hbase, ?_, Nat.le_refl _, by simp [maxLen], by simp, by simp⟩⟩
 show (w.heap.push _)[w.heap.size]? = _
 simp
end Oct
end Go.Proofs.Ytkbibhlfehamgaa

/- Get, half, Signed, Fits, Unsigned and Turn of the reference, octet.Get. -/
namespace Go.Proofs.Ytkbibhlfehamgaa
open Go.RowKit

theorem Row.bytesAt {w : World} {v : Value} {l : List UInt8} (h : Row w v (l.map u8v)) (hl : 0 < l.length) : ∃ b off cap, v = .slice (some ⟨b, off, none⟩) l.length cap ∧ l.length ≤ cap ∧ cap ≤ 9223372036854775807 ∧ Hid (∀ i x, l[i]? = some x → w.cell? ⟨b, off + i, none⟩ = some (.int .u8 (x.toNat : Int))) := by
 rcases h with ⟨a0, cap', rfl, hl0, -, -⟩ | ⟨b, off, cap', rfl, h1, h2, hcell⟩
 ·have : l = [] := by simpa using hl0
  subst this
  simp at hl
 ·exact ⟨b, off, cap', by simp, by simpa using h1, by simpa [maxLen] using h2, Lib.hid fun i x hx => hcell i _ (by simp [hx, u8v])⟩
theorem Row.formB {w : World} {v : Value} {l : List UInt8} (h : Row w v (l.map u8v)) : ∃ p cap, v = .slice p l.length cap ∧ l.length ≤ cap ∧ cap ≤ 9223372036854775807 := by
 obtain ⟨p, cap, rfl, h1, h2⟩ := h.form
 rw [List.length_map] at *
 exact ⟨p, cap, rfl, h1, by simpa [maxLen] using h2⟩

theorem retI {k : IntKind} {a b : Int} (h : a = b) : Ending.returned (.int k a) = .returned (.int k b) := by rw [h]
theorem retB {a b : Bool} (h : a = b) : Ending.returned (.bool a) = .returned (.bool b) := by rw [h]
theorem retIB {k : IntKind} {a b : Int} {c d : Bool} (h : a = b) (h' : c = d) : Ending.returned (.tuple #[.int k a, .bool c]) = .returned (.tuple #[.int k b, .bool d]) := by rw [h, h']

namespace Oct
def half (n : Nat) : Nat := 128 * 256 ^ (n - 1)
end Oct
end Go.Proofs.Ytkbibhlfehamgaa

/- Get of both, Turn of the reference, octet.Put. -/
namespace Go.Proofs.Ytkbibhlfehamgaa
open Go.RowKit
namespace Oct

theorem s5 : ∀ w, (sizeOf 5).run Try.prog w = .ok 1 w := fun _ => by kernel_rfl

/-- the ways in which Get says no -/
theorem getB_cases {l : List UInt8} {at' k : Int} (h : getB l at' k = false) (hk : okk k = true) : at' < 0 ∨ (0 ≤ at' ∧ (l.length : Int) < at') ∨ (0 ≤ at' ∧ at' ≤ l.length ∧ (l.length : Int) - at' < k) := by
 simp [getB, hk] at h
 omega
theorem getB_nat {l : List UInt8} {at' k : Int} (h : getB l at' k = true) : ∃ a n : Nat, at' = (a : Int) ∧ k = (n : Int) ∧ 1 ≤ n ∧ n ≤ 8 ∧ a + n ≤ l.length := by
 simp [getB, okk] at h
 exact ⟨at'.toNat, k.toNat, by omega, by omega, by omega, by omega, by omega⟩
theorem getV_nat {l : List UInt8} {a n : Nat} (h : getB l a n = true) : getV l a n = valOf ((l.drop a).take n) := by
 unfold getV
 rw [if_pos h]
 rfl
theorem take_next {l : List UInt8} {j : Nat} (h : j < l.length) : l.take (j + 1) = l.take j ++ [l[j]] := List.take_succ_eq_append_getElem h
theorem valOf_lt' {l : List UInt8} {j : Nat} (h : l.length ≤ j) : valOf l < 256 ^ j := Nat.lt_of_lt_of_le (valOf_lt l) (Nat.pow_le_pow_right (by omega) h)
theorem valOf_7 {l : List UInt8} {j : Nat} (h : j ≤ 7) : valOf (l.take j) < 72057594037927936 := Nat.lt_of_lt_of_le (valOf_lt' (by rw [List.length_take]; exact Nat.min_le_left _ _)) (pow_le8 h)

set_option maxHeartbeats 1000000 in
theorem get_any (v : Value) (l : List UInt8) (at' k : Int) (w : World) (hr : Row w v (l.map u8v)) : Calls Try.prog 58 #[v, .int .i64 at', .int .i64 k] w fun e w' => e = .returned (.tuple #[.int .u64 (getV l at' k : Nat), .bool (getB l at' k)]) ∧ w = w' := by
 cases hk : okk k
 ·have H : Hid (((getV l at' k : Nat) : Int) = 0 ∧ getB l at' k = false) := Lib.hid (by
   have : getB l at' k = false := by simp [getB, hk]
   exact ⟨by simp [getV, this], this⟩)
  obtain ⟨p, cap, rfl, -, -⟩ := hr.formB
  go_enter Try.func58, Try.ntmps58
  go_wp2_with (go_at_call 63; refine (good_any _ _).mono ?_; rintro e w' ⟨rfl, rfl⟩)
  go_ret2
  exact ⟨retIB H.out.1.symm H.out.2.symm, rfl⟩
 ·cases hg : getB l at' k
  ·have H : Hid (((getV l at' k : Nat) : Int) = 0) := Lib.hid (by simp [getV, hg])
   have hc := getB_cases hg hk
   obtain ⟨p, cap, rfl, h1, h2⟩ := hr.formB
   clear hr hg
   rcases hc with hc | ⟨h3, hc⟩ | ⟨h3, h4, hc⟩
   all_goals
    go_enter Try.func58, Try.ntmps58
    go_wp2_with (go_at_call 63; refine (good_any _ _).mono ?_; rintro e w' ⟨rfl, rfl⟩)
    go_ret2
    exact ⟨retIB H.out.symm rfl, rfl⟩
  ·obtain ⟨a, n, rfl, rfl, h1, h8, han⟩ := getB_nat hg
   have HV := Lib.hid (getV_nat hg)
   clear hg
   obtain ⟨b, off, cap, rfl, hc1, hc2, HC⟩ := hr.bytesAt (by omega)
   clear hr
   have ea : ∀ w, (Instr.slice 22 (.slice (some ⟨b, off, none⟩) l.length cap) (some (.int .i64 (a : Int))) (some (.int .i64 ((a : Int) + (n : Int)))) none).run Try.prog w = .ok (.slice (some ⟨b, off + a, none⟩) n (cap - a)) w := fun w => by
    rw [show ((a : Int) + (n : Int)) = ((a + n : Nat) : Int) from by omega, run_cut_lh w Try.underlying22 s5 (some ⟨b, off, none⟩) l.length cap a (a + n) (by omega) (by omega)]
    have : ¬ cap = a := by omega
    simp [cutv, this, Go.WideShapes.add_plain]
   have HD : Hid (∀ i x, (l.drop a)[i]? = some x → w.cell? ⟨b, off + a + i, none⟩ = some (.int .u8 (x.toNat : Int))) := Lib.hid fun i x hx => by
    rw [Nat.add_assoc]
    exact HC.out (a + i) x (by simpa using hx)
   have hl : n ≤ (l.drop a).length := by rw [List.length_drop]; omega
   generalize l.drop a = m at *
   go_enter Try.func58, Try.ntmps58
   go_wp2_with (go_at_call 63; refine (good_any _ _).mono ?_; rintro e w' ⟨rfl, rfl⟩)
   go_loop [8, 10, 39] (fun o c i => ∃ j o' : Nat, j ≤ n ∧ i = .int .i64 j ∧ o = .int .u64 (o' : Int) ∧ o' = valOf (m.take j)) (fun _ _ i => n - (intOf i).toNat)
   case atStart => exact ⟨0, 0, by omega, rfl, rfl, rfl⟩
   case round =>
    obtain ⟨j, o', hj, rfl, rfl, ho⟩ := hrel
    have HO := Lib.hid ho
    clear ho
    by_cases hlt : j < n
    ·have hcell : w.cell? ⟨b, off + a + j, none⟩ = some (.int .u8 ((m[j]'(by omega)).toNat : Int)) := HD.out j _ (by simp)
     have HT : Hid (m.take (j + 1) = m.take j ++ [m[j]'(by omega)]) := Lib.hid (take_next (by omega))
     have ho7 : o' < 72057594037927936 := by rw [HO.out]; exact valOf_7 (by omega)
     generalize (m[j]'(by omega)) = x at *
     have hx := x.toNat_lt
     have e2 := Lib.hid (or8' (a := o') (b := x.toNat) ho7 hx)
     go_wp2
     go_round
     case rel => exact ⟨j + 1, o' * 256 + x.toNat, by omega, by go_num, congrArg (Value.int .u64) e2.out, by rw [HT.out, valOf_snoc, HO.out]⟩
     case measure => simp [intOf] <;> omega
    ·obtain rfl : j = n := by omega
     go_wp2
     go_ret2
     exact ⟨retIB (by rw [HV.out, HO.out]) rfl, rfl⟩

set_option maxHeartbeats 1000000 in
theorem rGet_any (v : Value) (l : List UInt8) (at' k : Int) (w : World) (hr : Row w v (l.map u8v)) : Calls Try.prog 45 #[v, .int .i64 at', .int .i64 k] w fun e w' => e = .returned (.tuple #[.int .u64 (getV l at' k : Nat), .bool (getB l at' k)]) ∧ w = w' := by
 cases hk : okk k
 ·have H : Hid (((getV l at' k : Nat) : Int) = 0 ∧ getB l at' k = false) := Lib.hid (by
   have : getB l at' k = false := by simp [getB, hk]
   exact ⟨by simp [getV, this], this⟩)
  have hk' : k < 1 ∨ (1 ≤ k ∧ 8 < k) := by simp [okk] at hk; omega
  obtain ⟨p, cap, rfl, -, -⟩ := hr.formB
  clear hk hr
  rcases hk' with h | ⟨h, h'⟩
  all_goals
   go_enter Try.func45, Try.ntmps45
   go_wp2
   go_ret2
   exact ⟨retIB H.out.1.symm H.out.2.symm, rfl⟩
 ·cases hg : getB l at' k
  ·have H : Hid (((getV l at' k : Nat) : Int) = 0) := Lib.hid (by simp [getV, hg])
   have hc := getB_cases hg hk
   obtain ⟨n, rfl, hn1, hn8⟩ := okk_nat hk
   obtain ⟨p, cap, rfl, h1, h2⟩ := hr.formB
   clear hr hg hk
   rcases hc with hc | ⟨h3, hc⟩ | ⟨h3, h4, hc⟩
   all_goals
    go_enter Try.func45, Try.ntmps45
    go_wp2
    go_ret2
    exact ⟨retIB H.out.symm rfl, rfl⟩
  ·obtain ⟨a, n, rfl, rfl, h1, h8, han⟩ := getB_nat hg
   have HV := Lib.hid (getV_nat hg)
   clear hg hk
   obtain ⟨b, off, cap, rfl, hc1, hc2, HC⟩ := hr.bytesAt (by omega)
   clear hr
   have HD : Hid (∀ i x, (l.drop a)[i]? = some x → w.cell? ⟨b, off + (a + i), none⟩ = some (.int .u8 (x.toNat : Int))) := Lib.hid fun i x hx => HC.out (a + i) x (by simpa using hx)
   have hl : n ≤ (l.drop a).length := by rw [List.length_drop]; omega
   generalize l.drop a = m at *
   go_enter Try.func45, Try.ntmps45
   go_wp2
   go_loop [8, 9] (fun o i => ∃ j o' : Nat, j ≤ n ∧ i = .int .i64 j ∧ o = .int .u64 (o' : Int) ∧ o' = valOf (m.take j)) (fun _ i => n - (intOf i).toNat)
   case atStart => exact ⟨0, 0, by omega, rfl, rfl, rfl⟩
   case round =>
    obtain ⟨j, o', hj, rfl, rfl, ho⟩ := hrel
    have HO := Lib.hid ho
    clear ho
    by_cases hlt : j < n
    ·have hcell : w.cell? ⟨b, off + (a + j), none⟩ = some (.int .u8 ((m[j]'(by omega)).toNat : Int)) := HD.out j _ (by simp)
     have HT : Hid (m.take (j + 1) = m.take j ++ [m[j]'(by omega)]) := Lib.hid (take_next (by omega))
     have ho7 : o' < 72057594037927936 := by rw [HO.out]; exact valOf_7 (by omega)
     generalize (m[j]'(by omega)) = x at *
     have hx := x.toNat_lt
     have hi : ((a : Int) + (j : Int)).toNat = a + j := by omega
     go_wp2
     go_round
     case rel => exact ⟨j + 1, o' * 256 + x.toNat, by omega, by go_num, congrArg (Value.int .u64) (by omega), by rw [HT.out, valOf_snoc, HO.out]⟩
     case measure => simp [intOf] <;> omega
    ·obtain rfl : j = n := by omega
     go_wp2
     go_ret2
     exact ⟨retIB (by rw [HV.out, HO.out]) rfl, rfl⟩
end Oct
end Go.Proofs.Ytkbibhlfehamgaa

/- octet.Put, Turn of the reference. -/
namespace Go.Proofs.Ytkbibhlfehamgaa
open Go.RowKit

/-- so many bytes 00 -/
def zeroB (n : Nat) : Array Value := madeCells #[.int .u8 0] n
theorem zeroB_size (n : Nat) : (zeroB n).size = n := size_madeCells _ _
theorem run_make_u8 {P : Program} {t e : TypeId} (ht : P.underlying t = some (.slice e)) (hi : (P.info? e).map (fun i => (i.zero, i.size, i.bytes)) = some (some (.int .u8 0), 1, 1)) (n : Nat) (hn : n ≤ 281474976710656) (w : World) :
  (Instr.makeSlice t (.int .i64 (n : Int)) (.int .i64 (n : Int))).run P w = .ok (.slice (some ⟨w.heap.size, 0, none⟩) n n) (w.alloc (.cells (zeroB n) e)) := by
 obtain ⟨i, hi', hz, hs, hb⟩ := info_parts hi
 have := run_make w t e i (.int .u8 0) ht hi' hz .i64 .i64 (n : Int) (n : Int) (by omega) (by omega) (by rw [hb]; omega) (by omega)
 rw [this, hs]
 simp [zeroB, Value.cells]
theorem own_arr {w : World} {base b n : Nat} {e : TypeId} {cs : Array Value} {l : List Value} (hb : b = w.heap.size) (hbase : base ≤ w.heap.size) (hn : n = l.length) (hl : cs.toList = l) (hm : n ≤ maxLen) : Own (w.alloc (.cells cs e)) base e (.slice (some ⟨b, 0, none⟩) n n) l := by
 subst hb hl hn
 refine ⟨by simp, .inr ⟨w.heap.size, cs.size, cs, by simp, hbase, ?_, by simp, by simpa using hm, by simp, ?_⟩⟩
 ·show (w.heap.push _)[w.heap.size]? = _
  simp
 ·rw [List.take_of_length_le (by simp)]

namespace Oct
theorem i22 : (Try.prog.info? 5).map (fun i => (i.zero, i.size, i.bytes)) = some (some (.int .u8 0), 1, 1) := by kernel_rfl
theorem be_list {v n : Nat} {cs : Array Value} (hs : cs.size = n) (h : ∀ j, j < n → cs[j]? = some (.int .u8 ((v / 256 ^ (n - 1 - j) % 256 : Nat) : Int))) : cs.toList = (be n v).map u8v := by
 apply List.ext_getElem?
 intro j
 rw [Array.getElem?_toList]
 by_cases hj : j < n
 ·rw [h j hj, List.getElem?_map, be_get n v j hj]
  simp [u8v]
 ·rw [Array.getElem?_eq_none (by omega), List.getElem?_eq_none (by rw [List.length_map, be_length]; omega)]

theorem shift_byte (v m : Nat) : ((v : Int) / 2 ^ (8 * m) % 256) = ((v / 256 ^ m % 256 : Nat) : Int) := by
 have e : (2 : Int) ^ (8 * m) = ((256 ^ m : Nat) : Int) := by rw [Int.pow_mul]; simp
 rw [e]
 rfl

set_option maxHeartbeats 1000000 in
theorem put_any (v : Nat) (hv : v < 18446744073709551616) (k : Int) (w : World) : Calls Try.prog 68 #[.int .u64 (v : Int), .int .i64 k] w (RetSB w (putL v k) (putB v k)) := by
 cases hk : okk k
 ·have hp := putB_false (v := v) hk
  have HE : Hid (RetSB w (putL v k) (putB v k) (.returned (.tuple #[.slice none 0 0, .bool false])) w) := Lib.hid ⟨_, by rw [hp], by simpa [putL, hp] using Own.nil _ _ _, Keeps.refl _⟩
  clear hp
  go_enter Try.func68, Try.ntmps68
  go_wp2_with (go_at_call 63; refine (good_any _ _).mono ?_; rintro e w' ⟨rfl, rfl⟩)
  go_ret2
  exact HE.out
 ·have HR := Lib.hid (room_any v hv k hk w)
  cases hp : putB v k
  ·have HE : Hid (RetSB w (putL v k) false (.returned (.tuple #[.slice none 0 0, .bool false])) w) := Lib.hid ⟨_, rfl, by simpa [putL, hp] using Own.nil _ _ _, Keeps.refl _⟩
   rw [hp] at HR
   clear hp
   go_enter Try.func68, Try.ntmps68
   go_wp2_with (first | (go_at_call 63; refine (good_any _ _).mono ?_; rintro e w' ⟨rfl, rfl⟩) | (go_at_call 77; refine HR.out.mono ?_; rintro e w' ⟨rfl, rfl⟩))
   go_ret2
   exact HE.out
  ·have HL : Hid (putL v k = be k.toNat v) := Lib.hid (by simp [putL, hp])
   have HG := Lib.hid (good_any k w)
   rw [hk] at HG
   rw [hp] at HR
   obtain ⟨n, rfl, h1, h8⟩ := okk_nat hk
   clear hp hk
   have hmk := fun w => run_make_u8 (P := Try.prog) Try.underlying22 i22 n (by omega) w
   go_enter Try.func68, Try.ntmps68
   go_wp2_with (first | (go_at_call 63; refine HG.out.mono ?_; rintro e w' ⟨rfl, rfl⟩) | (go_at_call 77; refine HR.out.mono ?_; rintro e w' ⟨rfl, rfl⟩))
   clear hmk
   go_loopw [7, 21] (fun s7 i wr => ∃ (j : Nat) (cs : Array Value), j ≤ n ∧ i = .int .i64 j ∧ wr = w.alloc (.cells cs 5) ∧ cs.size = n ∧ Hid (∀ i, i < j → cs[i]? = some (.int .u8 ((v / 256 ^ (n - 1 - i) % 256 : Nat) : Int)))) (fun _ i _ => n - (intOf i).toNat)
   case atStart => exact ⟨0, _, by omega, rfl, rfl, zeroB_size n, Lib.hid (by omega)⟩
   case round =>
    obtain ⟨j, cs, hj, rfl, rfl, hsz, HC⟩ := hrel
    have HZ := Lib.hid hsz
    clear hsz
    by_cases hlt : j < n
    ·obtain ⟨old, hold⟩ : ∃ old, cs[j]? = some old := ⟨cs[j]'(by have := HZ.out; omega), by simp [HZ.out, hlt]⟩
     have hcell : ((w.alloc (.cells cs 5)).cell? ⟨w.heap.size, j, none⟩) = some old := by
      rw [cell_alloc_new]; exact hold
     go_wp2
     go_roundw
     case rel =>
      refine ⟨j + 1, cs.setIfInBounds j (.int .u8 ((v / 256 ^ (n - 1 - j) % 256 : Nat) : Int)), by omega, by go_num, ?_, by simp [HZ.out], Lib.hid fun i hi => ?_⟩
      ·rw [shift_byte]
      ·rw [Array.getElem?_setIfInBounds]
       split
       ·rename_i e
        subst e
        rw [if_pos (by have := HZ.out; omega)]
       ·exact HC.out i (by omega)
     case measure => simp [intOf] <;> omega
    ·obtain rfl : j = n := by omega
     go_wp2
     go_ret2
     exact ⟨_, rfl, by rw [HL.out, Int.toNat_natCast]; exact own_arr rfl (Nat.le_refl _) (by simp [be_length]) (be_list HZ.out HC.out) (by unfold maxLen; omega), (Keeps.refl _).alloc _⟩
end Oct
end Go.Proofs.Ytkbibhlfehamgaa

/- What was wrapped is read: plain. No program. -/
namespace Go.Proofs.Ytkbibhlfehamgaa.Frm
open Oct

theorem getV_mid {l a b c : List UInt8} {n k : Nat} (h : l = a ++ (b ++ c)) (hn : n = a.length) (hk : k = b.length) (h1 : 1 ≤ k) (h8 : k ≤ 8) : getV l n k = Oct.valOf b := by
 subst hn hk h
 have hb : getB (a ++ (b ++ c)) a.length b.length = true := by simp [getB, okk]; omega
 rw [getV_nat hb, List.drop_left, List.take_left]
theorem front_head (k : Nat) {n : Nat} (hn : n < 4294967296) : headN (front k n) = n := by
 unfold headN front
 have := getV_mid (l := be 1 k ++ be 4 n) (a := be 1 k) (b := be 4 n) (c := []) (n := 1) (k := 4) (by simp) (by rw [be_length]) (by rw [be_length]) (by omega) (by omega)
 rw [show (((1 : Nat) : Int)) = 1 from rfl, show (((4 : Nat) : Int)) = 4 from rfl] at this
 rw [this, valOf_be]
 omega
theorem sumN_lt (k : Nat) (p : List UInt8) : sumN k p < 4294967296 := by
 exact Crc.more_lt _ _
theorem inner_put {k : Nat} {p : List UInt8} (hp : p.length ≤ 65536) (r : List UInt8) : inner (veil (body k p) ++ r) = (0, body k p, (veil (body k p)).length) := by
 have hB : body k p = front k p.length ++ (be 4 (sumN k p) ++ p) := rfl
 have h5 : rdN 5 (veil (body k p) ++ r) = (0, front k p.length, (veil (front k p.length)).length) := by
  have := rdN_put (front k p.length) (veil (be 4 (sumN k p) ++ p) ++ r)
  rw [front_len, ← List.append_assoc, ← veil_append, ← hB] at this
  exact this
 have hH : headN (front k p.length) = p.length := front_head k (by omega)
 have h9 : rdN (9 + p.length) (veil (body k p) ++ r) = (0, body k p, (veil (body k p)).length) := by
  have := rdN_put (body k p) r
  rwa [body_len] at this
 have ht : (body k p).take 5 = front k p.length := by
  rw [hB]; exact List.take_left' (front_len _ _)
 have hd : (body k p).drop 9 = p := by
  rw [hB, ← List.append_assoc]; exact List.drop_left' (by rw [List.length_append, front_len, be_length])
 have hg : getV (body k p) 5 4 = sumN k p := by
  have := getV_mid (l := body k p) (a := front k p.length) (b := be 4 (sumN k p)) (c := p) (n := 5) (k := 4) hB (by rw [front_len]) (by rw [be_length]) (by omega) (by omega)
  rw [show (((5 : Nat) : Int)) = 5 from rfl, show (((4 : Nat) : Int)) = 4 from rfl] at this
  rw [this, valOf_be]
  exact Nat.mod_eq_of_lt (sumN_lt k p)
 unfold inner
 rw [h5]
 simp only [ne_eq, not_true_eq_false, if_false]
 rw [hH, if_neg (by omega), h9]
 simp only [not_true_eq_false, if_false]
 rw [ht, hd, hg, if_neg]
 simp [sumN]
theorem be_one (k : Nat) : be 1 k = [UInt8.ofNat k] := by
 show [UInt8.ofNat (k % 256)] = _
 congr 1
 exact UInt8.toNat_inj.1 (by rw [UInt8.toNat_ofNat', UInt8.toNat_ofNat']; omega)
theorem wrapL_ok {k : Nat} {p : List UInt8} (hk : k ≤ 255) (hp : p.length ≤ 65536) : wrapE k p.length = 0 ∧ wrapL k p = 80 :: veil (body k p) := by
 have h : wrapE k p.length = 0 := by unfold wrapE; rw [if_neg (by omega), if_neg (by omega)]
 exact ⟨h, by unfold wrapL; rw [if_pos h, Int.toNat_natCast]⟩
theorem at_put {l r : List UInt8} {a k : Nat} {p : List UInt8} (hk : k ≤ 255) (hp : p.length ≤ 65536) (hd : l.drop a = wrapL k p ++ r) : atE l a = 0 ∧ atF l a = ⟨a, (wrapL k p).length, k, p⟩ := by
 obtain ⟨-, hw⟩ := wrapL_ok hk hp
 rw [hw, List.cons_append] at hd
 have hlt : a < l.length := by
  rcases Nat.lt_or_ge a l.length with h' | h'
  ·exact h'
  ·rw [List.drop_of_length_le h'] at hd; cases hd
 have hi := inner_put (k := k) hp r
 have hE : atE l a = 0 := by
  unfold atE
  rw [if_neg (by omega), Int.toNat_natCast, hd]
  simp [hi]
 refine ⟨hE, ?_⟩
 unfold atF
 rw [if_pos hE, Int.toNat_natCast, hd]
 simp only [hi]
 rw [hw]
 have hh : ((body k p).headD 0).toNat = k := by
  have : body k p = UInt8.ofNat k :: (be 4 p.length ++ (be 4 (sumN k p) ++ p)) := by
   simp [body, front, be_one]
  rw [this]
  simp only [List.headD_cons]
  rw [UInt8.toNat_ofNat']; omega
 have hdp : (body k p).drop 9 = p := by
  show (front k p.length ++ (be 4 (sumN k p) ++ p)).drop 9 = p
  rw [← List.append_assoc]; exact List.drop_left' (by rw [List.length_append, front_len, be_length])
 rw [hh, hdp]
 simp; omega
end Go.Proofs.Ytkbibhlfehamgaa.Frm

/- A transaction's bytes, plain. -/
namespace Go.Proofs.Ytkbibhlfehamgaa
open Go.RowKit
namespace Txl
open Oct Frm
def numL (n : Nat) (c : Int) : List UInt8 := be 8 n ++ (if 0 ≤ c then be 2 c.toNat else [])
abbrev Item := List UInt8
def bigB (x : Item) : Bool := decide (4096 < x.length)
def txE (n : Int) (items : List Item) : Int := if n < 1 then 1 else if 1000 < items.length then 4 else if items.any bigB then 4 else 0
def itemsL (items : List Item) : List UInt8 := items.flatMap (wrapL 33)
def headL (n c : Nat) : List UInt8 := wrapL 32 (numL n (c : Int))
def endL (n : Nat) : List UInt8 := wrapL 34 (numL n (-1))
def txL (n : Int) (items : List Item) : List UInt8 := if txE n items = 0 then headL n.toNat items.length ++ itemsL items ++ endL n.toNat else []
theorem veil_le (l : List UInt8) : (veil l).length ≤ 2 * l.length := by
 unfold veil
 induction l with
 | nil => simp
 | cons c l ih =>
  rw [List.flatMap_cons, List.length_append, List.length_cons]
  have : (veilB c).length ≤ 2 := by unfold veilB; split <;> simp
  omega
theorem wrapL_le (k : Int) (p : List UInt8) : (wrapL k p).length ≤ 2 * p.length + 19 := by
 unfold wrapL
 split
 ·rw [List.length_cons]
  have h1 := veil_le (body k.toNat p)
  have h2 := body_len k.toNat p
  omega
 ·simp
end Txl
end Go.Proofs.Ytkbibhlfehamgaa

/- The reference's At: plain. No program. -/
namespace Go.Proofs.Ytkbibhlfehamgaa.Frm
open Oct

/-- the answer of the reference's read -/
def rpC (x : Int × UInt8 × Nat) : Int := if x.1 = 0 then x.2.1.toNat else 0
def rpN (a : Nat) (x : Int × UInt8 × Nat) : Int := if x.1 = 0 then (a : Int) + x.2.2 else 0
end Go.Proofs.Ytkbibhlfehamgaa.Frm
namespace Go.Proofs.Ytkbibhlfehamgaa.Frm
open Oct
/-- what is to be read, as the reference counts it -/
def ndI (o : List UInt8) : Nat := if o.length ≤ 5 then 9 else 9 + headN o
end Go.Proofs.Ytkbibhlfehamgaa.Frm

/- Frames one behind the other, cut off: plain. No program. -/
namespace Go.Proofs.Ytkbibhlfehamgaa.Frm
open Oct

theorem take_of_prefix {α : Type} {a b : List α} {j : Nat} (h : a.length ≤ j) : (a ++ b).take j = a ++ b.take (j - a.length) := by
 rw [List.take_append, List.take_of_length_le h]

theorem rdN_cut (m : List UInt8) : ∀ (j : Nat), j < (veil m).length → (rdN m.length ((veil m).take j)).1 = 2 := by
 induction m with
 | nil => intro j h; simp [veil] at h
 | cons c m ih =>
  intro j h
  have e : veil (c :: m) = veilB c ++ veil m := by simp [veil]
  rw [e] at h ⊢
  rw [List.length_append] at h
  by_cases hj : (veilB c).length ≤ j
  ·rw [take_of_prefix hj]
   have hp := rd_put c ((veil m).take (j - (veilB c).length))
   have hi := ih (j - (veilB c).length) (by omega)
   simp only [List.length_cons, rdN, hp, if_true]
   rw [List.drop_left]
   exact hi
  ·have hle := (veilB_len c).2
   have h0 : j = 0 ∨ (j = 1 ∧ (c = 80 ∨ c = 81)) := by
    by_cases hc : c = 80 ∨ c = 81
    ·have hj01 : j = 0 ∨ j = 1 := by omega
     rcases hj01 with h | h
     ·exact .inl h
     ·exact .inr ⟨h, hc⟩
    ·have : (veilB c).length = 1 := by unfold veilB; rw [if_neg hc]; rfl
     omega
   rcases h0 with rfl | ⟨rfl, hc⟩
   ·simp [rdN, rd]
   ·have : (veilB c ++ veil m).take 1 = [81] := by unfold veilB; rw [if_pos hc]; rfl
    rw [this]
    simp [rdN, rd]

theorem inner_cut {k : Nat} {p : List UInt8} (hp : p.length ≤ 65536) {j : Nat} (hj : j < (veil (body k p)).length) : (inner ((veil (body k p)).take j)).1 = 2 := by
 have hB : body k p = front k p.length ++ (be 4 (sumN k p) ++ p) := rfl
 have hH : headN (front k p.length) = p.length := front_head k (by omega)
 have hcut := rdN_cut (body k p) j hj
 rw [body_len] at hcut
 by_cases hf : (veil (front k p.length)).length ≤ j
 ·have hr : (veil (body k p)).take j = veil (front k p.length) ++ (veil (be 4 (sumN k p) ++ p)).take (j - (veil (front k p.length)).length) := by
   rw [hB, veil_append, take_of_prefix hf]
  have h5 : rdN 5 ((veil (body k p)).take j) = (0, front k p.length, (veil (front k p.length)).length) := by
   rw [hr]
   have := rdN_put (front k p.length) ((veil (be 4 (sumN k p) ++ p)).take (j - (veil (front k p.length)).length))
   rwa [front_len] at this
  unfold inner
  rw [h5]
  simp only [ne_eq, not_true_eq_false, if_false]
  rw [hH, if_neg (by omega), if_pos (by rw [hcut]; decide), hcut]
 ·have hr : (veil (body k p)).take j = (veil (front k p.length)).take j := by
   rw [hB, veil_append, List.take_append_of_le_length (by omega)]
  have h5 := rdN_cut (front k p.length) j (by omega)
  rw [front_len, ← hr] at h5
  unfold inner
  rw [if_pos (by rw [h5]; decide), h5]

theorem at_cut {l : List UInt8} {a k j : Nat} {p : List UInt8} (hk : k ≤ 255) (hp : p.length ≤ 65536) (hj : j < (wrapL k p).length) (hd : l.drop a = (wrapL k p).take j) (ha : a ≤ l.length) : atE l a = 2 := by
 obtain ⟨-, hw⟩ := wrapL_ok hk hp
 unfold atE
 rw [if_neg (by omega), Int.toNat_natCast, hd, hw]
 rw [hw, List.length_cons] at hj
 cases j with
 | zero => rfl
 | succ j =>
  rw [List.take_succ_cons]
  simp only [ne_eq, not_true_eq_false, if_false]
  exact inner_cut hp (by omega)

/-- frames one behind the other -/
def cat (F : List (Nat × List UInt8)) : List UInt8 := F.flatMap fun x => wrapL x.1 x.2
def catOk (F : List (Nat × List UInt8)) : Prop := ∀ x ∈ F, x.1 ≤ 255 ∧ x.2.length ≤ 65536
/-- how many are whole within so many bytes -/
def whole : List (Nat × List UInt8) → Nat → Nat
 | [], _ => 0
 | x :: F, c => if (wrapL x.1 x.2).length ≤ c then whole F (c - (wrapL x.1 x.2).length) + 1 else 0
theorem whole_le (F : List (Nat × List UInt8)) : ∀ c, whole F c ≤ F.length := by
 induction F with
 | nil => intro c; simp [whole]
 | cons x F ih =>
  intro c
  unfold whole
  split
  ·have := ih (c - (wrapL x.1 x.2).length); simp only [List.length_cons]; omega
  ·simp
theorem cat_cons (x : Nat × List UInt8) (F : List (Nat × List UInt8)) : cat (x :: F) = wrapL x.1 x.2 ++ cat F := by simp [cat]
theorem wrapL_pos {k : Nat} {p : List UInt8} (hk : k ≤ 255) (hp : p.length ≤ 65536) : 1 ≤ (wrapL k p).length := by
 rw [(wrapL_ok hk hp).2]; simp

/-- where each ends -/
def endAt (F : List (Nat × List UInt8)) (i : Nat) : Nat := (cat (F.take (i + 1))).length
theorem cat_append (A B : List (Nat × List UInt8)) : cat (A ++ B) = cat A ++ cat B := by simp [cat]
end Go.Proofs.Ytkbibhlfehamgaa.Frm

/- Frames one behind the other, cut off: with their lengths. Plain. -/
namespace Go.Proofs.Ytkbibhlfehamgaa.Frm
open Oct
abbrev FK := Nat × List UInt8
def kplF (f : Fr1) : Int × List UInt8 × Int := (f.kind, f.pay, f.len)
def kqlF (x : FK) : Int × List UInt8 × Int := ((x.1 : Int), x.2, ((wrapL x.1 x.2).length : Int))
theorem row_catF (l : List UInt8) : ∀ (F : List FK) (c k u : Nat), catOk F → c ≤ (cat F).length → u ≤ l.length → l.length ≤ u + k → l.drop u = (cat F).take c → (rowN l k u).1.map kplF = (F.take (whole F c)).map kqlF := by
 intro F
 induction F with
 | nil =>
  intro c k u _ hc hu hk hd
  have hc0 : c = 0 := by simpa [cat] using hc
  subst hc0
  have hlen := congrArg List.length hd
  rw [List.length_drop] at hlen
  simp at hlen
  rw [rowN_end (by omega)]
  simp [whole]
 | cons x F ih =>
  intro c k u hok hc hu hk hd
  obtain ⟨h1, h2⟩ := hok x (by simp)
  have hpos := wrapL_pos h1 h2
  have hlen := congrArg List.length hd
  rw [List.length_drop, List.length_take] at hlen
  by_cases hw : (wrapL x.1 x.2).length ≤ c
  ·have hwh : whole (x :: F) c = whole F (c - (wrapL x.1 x.2).length) + 1 := by rw [whole, if_pos hw]
   rw [cat_cons] at hd hc hlen
   rw [List.length_append] at hc hlen
   rw [take_of_prefix hw] at hd
   obtain ⟨he, hf⟩ := at_put h1 h2 hd
   obtain ⟨k', rfl⟩ : ∃ k', k = k' + 1 := ⟨k - 1, by omega⟩
   have hlt : u < l.length := by omega
   rw [rowN_ok hlt he, hf, hwh]
   simp only [Int.toNat_natCast]
   have hd2 : l.drop (u + (wrapL x.1 x.2).length) = (cat F).take (c - (wrapL x.1 x.2).length) := by
    rw [← List.drop_drop, hd, List.drop_left]
   have i1 := ih (c - (wrapL x.1 x.2).length) k' (u + (wrapL x.1 x.2).length) (fun y hy => hok y (by simp [hy])) (by omega) (by omega) (by omega) hd2
   simp [i1, kplF, kqlF]
  ·have hwh : whole (x :: F) c = 0 := by rw [whole, if_neg hw]
   rw [hwh]
   rw [cat_cons, List.take_append_of_le_length (by omega)] at hd
   rw [cat_cons, List.length_append] at hlen
   by_cases hc0 : c = 0
   ·subst hc0
    rw [rowN_end (by omega)]
    simp
   ·obtain ⟨k', rfl⟩ : ∃ k', k = k' + 1 := ⟨k - 1, by omega⟩
    have he := at_cut h1 h2 (by omega) hd hu
    rw [rowN_err (by omega) (by rw [he]; decide)]
    simp
theorem whole_moreF : ∀ (A B : List FK) (c : Nat), (cat A).length ≤ c → whole (A ++ B) c = A.length + whole B (c - (cat A).length)
 | [], B, c, _ => by simp [cat]
 | x :: A, B, c, h => by
  rw [cat_cons, List.length_append] at h ⊢
  have ih := whole_moreF A B (c - (wrapL x.1 x.2).length) (by omega)
  show whole (x :: (A ++ B)) c = _
  rw [whole, if_pos (by omega), ih, List.length_cons, Nat.sub_sub]
  omega
end Go.Proofs.Ytkbibhlfehamgaa.Frm

/- A job's file with steps behind it, cut off anywhere: plain. -/
namespace Go.Proofs.Ytkbibhlfehamgaa
open Go.RowKit
namespace Env
open Adr (Str goodB)
open Oct (be valOf be_length valOf_be)
open Frm (Fr1 wrapL cat catOk whole cat_cons cat_append rowN rowR wrapL_ok wrapL_pos take_of_prefix)
open Frm (FK kplF kqlF row_catF whole_moreF)
/-! ### what is put down is read -/
theorem uR_be {l r : Str} {a k v : Nat} (h : l.drop a = be k v ++ r) (hv : v < 256 ^ k) (ha : a ≤ l.length) : uR l k (some a) = (v, some (a + k)) ∧ l.drop (a + k) = r ∧ a + k ≤ l.length := by
 have hl := congrArg List.length h
 rw [List.length_drop, List.length_append, be_length] at hl
 have h1 : a + k ≤ l.length := by omega
 refine ⟨?_, ?_, h1⟩
 ·show (if a + k ≤ l.length then (Oct.valOf ((l.drop a).take k), some (a + k)) else (0, none)) = _
  rw [if_pos h1, h, List.take_append_of_le_length (by rw [be_length]; exact Nat.le_refl _), List.take_of_length_le (by rw [be_length]; exact Nat.le_refl _), valOf_be, Nat.mod_eq_of_lt hv]
 ·rw [← List.drop_drop, h, List.drop_append_of_le_length (by rw [be_length]; exact Nat.le_refl _), List.drop_of_length_le (by rw [be_length]; exact Nat.le_refl _), List.nil_append]
theorem tR_text {l r s : Str} {a most : Nat} (h : l.drop a = textB s ++ r) (hs : s.length ≤ most) (h4 : s.length < 4294967296) (ha : a ≤ l.length) : tR l most (some a) = (s, some (a + (textB s).length)) ∧ l.drop (a + (textB s).length) = r ∧ a + (textB s).length ≤ l.length := by
 unfold textB at h ⊢
 rw [List.append_assoc] at h
 obtain ⟨h1, h2, h3⟩ := uR_be h (by simpa using h4) ha
 have hl := congrArg List.length h2
 rw [List.length_drop, List.length_append] at hl
 have h5 : a + 4 + s.length ≤ l.length := by omega
 rw [List.length_append, be_length, ← Nat.add_assoc]
 refine ⟨?_, ?_, h5⟩
 ·unfold tR
  rw [h1]
  simp only
  rw [if_pos ⟨hs, h5⟩, h2, List.take_left]
 ·rw [← List.drop_drop, h2, List.drop_left]
structure TgG (t : TgP) : Prop where
 u : 1 ≤ t.u ∧ t.u ≤ 999
 l : t.l.length ≤ 100
 d : t.d.length ≤ 100
theorem tgR_tg {l r : Str} {a : Nat} {t : TgP} (h : l.drop a = tgL t ++ r) (ht : TgG t) (ha : a ≤ l.length) : tgR l 100 (some a) = (t, some (a + (tgL t).length)) ∧ l.drop (a + (tgL t).length) = r ∧ a + (tgL t).length ≤ l.length := by
 obtain ⟨u, x, y⟩ := t
 obtain ⟨⟨hu1, hu2⟩, hx, hy⟩ := ht
 simp only at hu1 hu2 hx hy
 unfold tgL at h ⊢
 simp only at h ⊢
 rw [List.append_assoc, List.append_assoc] at h
 obtain ⟨a1, a2, a3⟩ := uR_be h (by omega) ha
 obtain ⟨b1, b2, b3⟩ := tR_text a2 hx (by omega) a3
 obtain ⟨c1, c2, c3⟩ := tR_text b2 hy (by omega) b3
 rw [List.length_append, List.length_append, be_length, ← Nat.add_assoc, ← Nat.add_assoc]
 refine ⟨?_, c2, c3⟩
 unfold tgR
 rw [a1]
 simp only
 rw [b1]
 simp only
 rw [c1]
 simp only [Prod.mk.injEq, TgP.mk.injEq, and_true, true_and]
 omega
theorem tgsR_tgs {l r : Str} : ∀ (T : List TgP) {a : Nat}, l.drop a = T.flatMap tgL ++ r → (∀ t ∈ T, TgG t) → a ≤ l.length → tgsR l 100 T.length (some a) = (T, some (a + (T.flatMap tgL).length)) ∧ l.drop (a + (T.flatMap tgL).length) = r ∧ a + (T.flatMap tgL).length ≤ l.length
 | [], a, h, _, ha => ⟨by simp [tgsR], by simpa using h, by simpa using ha⟩
 | t :: T, a, h, ht, ha => by
  rw [List.flatMap_cons, List.append_assoc] at h
  obtain ⟨a1, a2, a3⟩ := tgR_tg h (ht t (by simp)) ha
  obtain ⟨b1, b2, b3⟩ := tgsR_tgs T a2 (fun x hx => ht x (by simp [hx])) a3
  rw [List.flatMap_cons, List.length_append, ← Nat.add_assoc]
  refine ⟨?_, b2, b3⟩
  rw [List.length_cons, tgsR, a1]
  simp only
  rw [b1]
theorem goodB_64 {l d : Str} (h : goodB l d = true) : l.length ≤ 64 ∧ d.length ≤ 64 := by
 unfold goodB Adr.domainB at h
 simp only [Bool.and_eq_true, decide_eq_true_eq] at h
 exact ⟨h.1.2, h.2.2⟩
theorem tgsB_tgg : ∀ (T : List TgP) (p : List Int), tgsB p T = true → ∀ t ∈ T, TgG t
 | [], _, _, t, h => by simp at h
 | x :: T, p, h, t, ht => by
  unfold tgsB at h
  simp only [Bool.and_eq_true] at h
  rcases List.mem_cons.1 ht with rfl | ht
  ·have h1 := h.1.2
   unfold tgB inB at h1
   simp only [Bool.and_eq_true, decide_eq_true_eq] at h1
   have h2 := goodB_64 h1.2
   exact ⟨h1.1, by omega, by omega⟩
  ·exact tgsB_tgg T _ h.2 t ht
/-- the first frame is read as the job -/
theorem envR_env {j : JobP} (h : envB j = true) : envR 100 capId capT (envL j) = ({ j with st := [], body := [] }, some (envL j).length) ∧ envOk (envR 100 capId capT (envL j)) (envL j) = true ∧ (envL j).length ≤ 65536 := by
 have hB := h
 unfold envB at h
 simp only [Bool.and_eq_true] at h
 obtain ⟨⟨⟨⟨h1, h2⟩, h3⟩, h4⟩, h5⟩ := h
 unfold inB at h1 h2 h3
 simp only [Bool.and_eq_true, decide_eq_true_eq] at h1 h2 h3
 have hts := tgsB_tgg _ _ h5
 have hfl : j.fl.length ≤ 64 ∧ j.fd.length ≤ 64 := by
  unfold fromB at h4
  simp only [Bool.or_eq_true, Bool.and_eq_true, decide_eq_true_eq] at h4
  rcases h4 with ⟨e1, e2⟩ | h4
  ·rw [e1, e2]; simp
  ·exact goodB_64 h4
 have e0 : (envL j).drop 0 = be 8 j.id.toNat ++ (be 8 j.arr.toNat ++ (textB j.fl ++ (textB j.fd ++ (be 1 j.tos.length ++ (j.tos.flatMap tgL ++ []))))) := by
  unfold envL
  simp
 unfold maxT at h2
 obtain ⟨a1, a2, a3⟩ := uR_be e0 (by omega) (Nat.zero_le _)
 obtain ⟨b1, b2, b3⟩ := uR_be a2 (by omega) a3
 obtain ⟨c1, c2, c3⟩ := tR_text (most := 100) b2 (by omega) (by omega) b3
 obtain ⟨d1, d2, d3⟩ := tR_text (most := 100) c2 (by omega) (by omega) c3
 obtain ⟨f1, f2, f3⟩ := uR_be d2 (by omega) d3
 obtain ⟨g1, g2, g3⟩ := tgsR_tgs j.tos f2 hts f3
 have hend := congrArg List.length g2
 rw [List.length_drop, List.length_nil] at hend
 have hh : headR (envL j) 100 = ((j.id.toNat, j.arr.toNat, j.fl, j.fd, j.tos.length), some (0 + 8 + 8 + (textB j.fl).length + (textB j.fd).length + 1)) := by
  unfold headR
  simp only
  rw [a1]
  simp only
  rw [b1]
  simp only
  rw [c1]
  simp only
  rw [d1]
  simp only
  rw [f1]
 have k1 : capI capId j.id.toNat = j.id := by unfold capI capId; rw [if_pos (by omega)]; omega
 have k2 : capI capT j.arr.toNat = j.arr := by unfold capI capT; rw [if_pos (by omega)]; omega
 have hE : envR 100 capId capT (envL j) = ({ j with st := [], body := [] }, some (envL j).length) := by
  unfold envR
  rw [hh]
  simp only
  rw [g1, k1, k2]
  simp only [Prod.mk.injEq, true_and, Option.some.injEq]
  omega
 refine ⟨hE, ?_, ?_⟩
 ·rw [hE]
  unfold envOk
  simp only [decide_true, Bool.true_and]
  exact hB
 ·have hT : ∀ T : List TgP, (∀ t ∈ T, TgG t) → (T.flatMap tgL).length ≤ T.length * 300 := by
   intro T hT
   induction T with
   | nil => simp
   | cons t T ih =>
    have := ih (fun x hx => hT x (by simp [hx]))
    have ht := hT t (by simp)
    have h1 := ht.l
    have h2 := ht.d
    have h3 : (tgL t).length ≤ 300 := by
     unfold tgL textB
     simp only [List.length_append, be_length]
     omega
    rw [List.flatMap_cons, List.length_append, List.length_cons, Nat.succ_mul]
    omega
  have h6 := hT _ hts
  have h7 : j.tos.length * 300 ≤ 6000 := by omega
  unfold envL textB
  simp only [List.length_append, be_length]
  omega
/-! ### steps -/
abbrev PS := Nat × StP
def mkF (p : PS) : FK := (18, stepP p.1 p.2)
structure PsOk (n : Nat) (p : PS) : Prop where
 k : p.1 < n
 g : goodStB p.2 = true
theorem stepP_14 (k : Nat) (x : StP) : (stepP k x).length = 14 := by unfold stepP; simp [be_length]
theorem good_in {x : StP} (h : goodStB x = true) : (0 ≤ x.s ∧ x.s ≤ 3) ∧ (0 ≤ x.t ∧ x.t ≤ 65535) ∧ (0 ≤ x.d ∧ x.d ≤ 4503599627370496) ∧ 0 ≤ x.c ∧ x.c ≤ 599 := by
 unfold goodStB inB maxT at h
 simp only [Bool.and_eq_true, Bool.or_eq_true, decide_eq_true_eq] at h
 omega
theorem stR_step {k n : Nat} {x : StP} (hn : n ≤ 20) (h : PsOk n (k, x)) : stR capT (stepP k x) = ((k, x), some 14) ∧ stOk (stR capT (stepP k x)) (stepP k x) n = true := by
 have hg := good_in h.g
 have hk := h.k
 simp only at hg hk
 have e0 : (stepP k x).drop 0 = be 1 k ++ (be 1 x.s.toNat ++ (be 2 x.t.toNat ++ (be 8 x.d.toNat ++ (be 2 x.c.toNat ++ [])))) := by unfold stepP; simp
 obtain ⟨a1, a2, a3⟩ := uR_be e0 (by omega) (Nat.zero_le _)
 obtain ⟨b1, b2, b3⟩ := uR_be a2 (by omega) a3
 obtain ⟨c1, c2, c3⟩ := uR_be b2 (by omega) b3
 obtain ⟨d1, d2, d3⟩ := uR_be c2 (by omega) c3
 obtain ⟨f1, f2, f3⟩ := uR_be d2 (by omega) d3
 have k1 : capI capT x.d.toNat = x.d := by unfold capI capT; rw [if_pos (by omega)]; omega
 have hE : stR capT (stepP k x) = ((k, x), some 14) := by
  unfold stR
  simp only
  rw [a1]
  simp only
  rw [b1]
  simp only
  rw [c1]
  simp only
  rw [d1]
  simp only
  rw [f1, k1]
  obtain ⟨s, t, d, c⟩ := x
  simp only [Prod.mk.injEq, StP.mk.injEq, true_and, and_true]
  simp only at hg
  omega
 refine ⟨hE, ?_⟩
 rw [hE]
 unfold stOk
 simp only [stepP_14, decide_true, Bool.true_and, Bool.and_eq_true, decide_eq_true_eq]
 exact ⟨hk, h.g⟩
/-- states behind steps -/
def app (P : List PS) (st : List StP) : List StP := P.foldl (fun s p => s.set p.1 p.2) st
theorem app_len : ∀ (P : List PS) (st : List StP), (app P st).length = st.length
 | [], _ => rfl
 | p :: P, st => by
  have := app_len P (st.set p.1 p.2)
  rw [List.length_set] at this
  exact this
theorem app_append (P Q : List PS) (st : List StP) : app (P ++ Q) st = app Q (app P st) := by unfold app; rw [List.foldl_append]
theorem app_snoc (P : List PS) (p : PS) (st : List StP) : app (P ++ [p]) st = (app P st).set p.1 p.2 := by rw [app_append]; rfl
theorem stepsR_of {n : Nat} (hn : n ≤ 20) : ∀ (P : List PS) (fs : List Fr1) (st : List StP), (∀ p ∈ P, PsOk n p) → fs.map kplF = (P.map mkF).map kqlF → stepsR n fs st = (app P st, ((cat (P.map mkF)).length : Int))
 | [], fs, st, _, h => by
  have : fs = [] := by simpa using h
  subst this
  rfl
 | (k, x) :: P, fs, st, hP, h => by
  cases fs with
  | nil => simp at h
  | cons f r =>
   simp only [List.map_cons, List.cons.injEq] at h
   obtain ⟨h1, h2⟩ := h
   unfold kplF kqlF mkF at h1
   simp only [Prod.mk.injEq] at h1
   obtain ⟨e1, e2, e3⟩ := h1
   obtain ⟨g1, g2⟩ := stR_step hn (hP (k, x) (by simp))
   have ih := stepsR_of hn P r (st.set k x) (fun p hp => hP p (by simp [hp])) h2
   rw [stepsR, if_pos ⟨by rw [e1]; rfl, by rw [e2]; exact g2⟩, e2, g1]
   simp only
   rw [ih, List.map_cons, cat_cons, List.length_append]
   refine Prod.ext rfl ?_
   simp only
   rw [e3]
   unfold mkF
   simp
/-- the steps of a job's states, from number i on -/
def stsP (arr : Int) : Nat → List StP → List PS
 | _, [] => []
 | i, x :: r => (if x = freshS arr then [] else [(i, x)]) ++ stsP arr (i + 1) r
theorem stsP_ok {arr : Int} {n : Nat} : ∀ (st : List StP) (i : Nat), i + st.length ≤ n → st.all goodStB = true → ∀ p ∈ stsP arr i st, PsOk n p
 | [], _, _, _, p, hp => by simp [stsP] at hp
 | x :: r, i, hi, hg, p, hp => by
  simp only [List.all_cons, Bool.and_eq_true] at hg
  simp only [List.length_cons] at hi
  unfold stsP at hp
  rcases List.mem_append.1 hp with hp | hp
  ·split at hp
   ·simp at hp
   ·simp only [List.mem_singleton] at hp
    subst hp
    exact ⟨by simp only; omega, hg.1⟩
  ·exact stsP_ok r (i + 1) (by omega) hg.2 p hp
theorem stsL_cat {arr : Int} : ∀ (st : List StP) (i : Nat), i + st.length ≤ 20 → st.all goodStB = true → stsL arr i st = cat ((stsP arr i st).map mkF)
 | [], _, _, _ => rfl
 | x :: r, i, hi, hg => by
  simp only [List.all_cons, Bool.and_eq_true] at hg
  simp only [List.length_cons] at hi
  have ih := stsL_cat (arr := arr) r (i + 1) (by omega) hg.2
  unfold stsL stsP
  rw [List.map_append, cat_append, ih]
  congr 1
  split
  ·rfl
  ·have : stepE i x = 0 := by unfold stepE inB; rw [if_neg (by simp; omega), if_neg (by rw [hg.1]; simp)]
   unfold stepL
   rw [if_pos this]
   simp [cat, mkF]
theorem app_sts (arr : Int) : ∀ (st : List StP) (pre : List StP), app (stsP arr pre.length st) (pre ++ List.replicate st.length (freshS arr)) = pre ++ st
 | [], pre => by simp [stsP, app]
 | x :: r, pre => by
  unfold stsP
  rw [app_append]
  have e : app (if x = freshS arr then [] else [(pre.length, x)]) (pre ++ List.replicate (x :: r).length (freshS arr)) = (pre ++ [x]) ++ List.replicate r.length (freshS arr) := by
   rw [List.length_cons, List.replicate_succ]
   split
   ·rename_i hx
    rw [hx]
    simp [app]
   ·simp [app]
  rw [e]
  have ih := app_sts arr r (pre ++ [x])
  rw [List.length_append, List.length_singleton] at ih
  rw [ih]
  simp
/-- a job's frames -/
def bfr (j : JobP) : List FK := (16, envL j) :: (17, j.body) :: (stsP j.arr 0 j.st).map mkF
structure GoodN (j : JobP) : Prop where
 env : envB j = true
 len : j.st.length = j.tos.length
 n20 : j.tos.length ≤ 20
 body : j.body.length ≤ 32768
 st : j.st.all goodStB = true
theorem goodJ_n {j : JobP} (h : goodJ j = true) : GoodN j := by
 unfold goodJ at h
 simp only [Bool.and_eq_true, decide_eq_true_eq] at h
 obtain ⟨⟨⟨h1, h2⟩, h3⟩, h4⟩ := h
 refine ⟨h1, h2, ?_, h3, h4⟩
 unfold envB inB at h1
 simp only [Bool.and_eq_true, decide_eq_true_eq] at h1
 omega
theorem bytes_cat {j : JobP} (h : goodJ j = true) : bytesL j = cat (bfr j) := by
 have hn := goodJ_n h
 unfold bytesL bfr
 rw [if_pos h, cat_cons, cat_cons, stsL_cat _ _ (by have := hn.len; have := hn.n20; omega) hn.st]
 simp
def fz (j : JobP) (M : List PS) : List FK := bfr j ++ M.map mkF
theorem fz_ok {j : JobP} (h : GoodN j) {M : List PS} : catOk (fz j M) := by
 intro x hx
 unfold fz bfr at hx
 have hs : ∀ P : List PS, x ∈ P.map mkF → x.1 ≤ 255 ∧ x.2.length ≤ 65536 := by
  intro P hp
  obtain ⟨p, -, rfl⟩ := List.mem_map.1 hp
  exact ⟨by show 18 ≤ 255; decide, by show (stepP p.1 p.2).length ≤ _; rw [stepP_14]; decide⟩
 rcases List.mem_append.1 hx with hx | hx
 ·rcases List.mem_cons.1 hx with rfl | hx
  ·exact ⟨by show 16 ≤ 255; decide, (envR_env h.env).2.2⟩
  ·rcases List.mem_cons.1 hx with rfl | hx
   ·exact ⟨by show 17 ≤ 255; decide, by have := h.body; show j.body.length ≤ _; omega⟩
   ·exact hs _ hx
 ·exact hs _ hx
theorem whole_min : ∀ (F : List FK) (c : Nat), whole F (min c (cat F).length) = whole F c
 | [], _ => rfl
 | x :: F, c => by
  rw [cat_cons, List.length_append]
  unfold whole
  by_cases h : (wrapL x.1 x.2).length ≤ c
  ·rw [if_pos (by omega), if_pos h]
   have := whole_min F (c - (wrapL x.1 x.2).length)
   rw [← this]
   congr 2
   omega
  ·rw [if_neg (by omega), if_neg h]
theorem whole_fit : ∀ (F : List FK) (c : Nat), (cat (F.take (whole F c))).length ≤ c
 | [], c => by simp [cat]
 | x :: F, c => by
  unfold whole
  split
  ·have := whole_fit F (c - (wrapL x.1 x.2).length)
   rw [List.take_succ_cons, cat_cons, List.length_append]
   omega
  ·simp [cat]
theorem whole_all : ∀ (F : List FK) (c : Nat), (cat F).length ≤ c → whole F c = F.length
 | [], _, _ => rfl
 | x :: F, c, h => by
  rw [cat_cons, List.length_append] at h
  unfold whole
  rw [if_pos (by omega), whole_all F _ (by omega)]
  rfl
theorem whole_snoc (x : FK) : ∀ (F : List FK) (c : Nat), c < (cat (F ++ [x])).length → whole (F ++ [x]) c = whole F c
 | [], c, h => by
  simp [cat] at h
  simp [whole]
  omega
 | y :: F, c, h => by
  rw [List.cons_append, cat_cons, List.length_append] at h
  rw [List.cons_append, whole, whole]
  split
  ·rename_i h1
   rw [whole_snoc x F _ (by omega)]
  ·rfl
/-- THE LAW's PLAIN FORM -/
theorem read_steps {j : JobP} (hg : goodJ j = true) {M : List PS} (hM : ∀ p ∈ M, PsOk j.tos.length p) {c : Nat} (hc : (bytesL j).length ≤ c) :
  readR ((cat (fz j M)).take c) = ({ j with st := app (M.take (whole (fz j M) c - (bfr j).length)) j.st }, ((cat ((fz j M).take (whole (fz j M) c))).length : Int), 0) ∧ (cat ((fz j M).take (whole (fz j M) c))).length ≤ min c (cat (fz j M)).length := by
 have hn := goodJ_n hg
 rw [bytes_cat hg] at hc
 have hcl : (cat (bfr j)).length ≤ (cat (fz j M)).length := by unfold fz; rw [cat_append, List.length_append]; omega
 have hrow := row_catF ((cat (fz j M)).take c) (fz j M) (min c (cat (fz j M)).length) ((cat (fz j M)).take c).length 0 (fz_ok hn) (by omega) (Nat.zero_le _) (by omega) (by
  rw [List.drop_zero]
  by_cases h : c ≤ (cat (fz j M)).length
  ·rw [Nat.min_eq_left h]
  ·rw [Nat.min_eq_right (by omega), List.take_of_length_le (by omega), List.take_of_length_le (Nat.le_refl _)])
 have hfit := whole_fit (fz j M) (min c (cat (fz j M)).length)
 rw [whole_min] at hrow hfit
 refine ⟨?_, hfit⟩
 have hw : whole (fz j M) c = (bfr j).length + whole (M.map mkF) (c - (cat (bfr j)).length) := whole_moreF _ _ _ hc
 obtain ⟨q, hq⟩ : ∃ q, whole (M.map mkF) (c - (cat (bfr j)).length) = q := ⟨_, rfl⟩
 rw [hq] at hw
 rw [hw] at hrow ⊢
 have htk : (fz j M).take ((bfr j).length + q) = (16, envL j) :: (17, j.body) :: ((stsP j.arr 0 j.st ++ M.take q).map mkF) := by
  unfold fz
  rw [List.take_append, List.take_of_length_le (by omega), Nat.add_sub_cancel_left, ← List.map_take]
  unfold bfr
  simp
 rw [htk] at hrow ⊢
 rw [Nat.add_sub_cancel_left]
 have hn20 := hn.n20
 unfold readR rowR
 generalize hfs : (rowN ((cat (fz j M)).take c) ((cat (fz j M)).take c).length 0).1 = fs at *
 match fs, hrow with
 | [], h => simp at h
 | [f], h => simp at h
 | f :: g :: r, h =>
  simp only [List.map_cons, List.cons.injEq] at h
  obtain ⟨h1, h2, h3⟩ := h
  unfold kplF kqlF at h1 h2
  simp only [Prod.mk.injEq] at h1 h2
  obtain ⟨f1, f2, f3⟩ := h1
  obtain ⟨g1, g2, g3⟩ := h2
  obtain ⟨e1, e2, -⟩ := envR_env hn.env
  have hP : ∀ p ∈ stsP j.arr 0 j.st ++ M.take q, PsOk j.tos.length p := by
   intro p hp
   rcases List.mem_append.1 hp with hp | hp
   ·exact stsP_ok j.st 0 (by have := hn.len; omega) hn.st p hp
   ·exact hM p (List.mem_of_mem_take hp)
  have hs := stepsR_of hn20 _ r (List.replicate j.tos.length (freshS j.arr)) hP h3
  rw [app_append] at hs
  have ha := app_sts j.arr j.st []
  rw [List.length_nil, List.nil_append, List.nil_append, hn.len] at ha
  rw [ha] at hs
  simp only [readF]
  rw [if_pos ⟨by rw [f1]; rfl, by rw [g1]; rfl, by rw [g2]; exact hn.body, by rw [f2]; exact e2⟩, f2, e1]
  simp only
  rw [hs, g2, f3, g3, cat_cons, cat_cons]
  simp only [List.length_append, Prod.mk.injEq, true_and]
  refine ⟨?_, trivial⟩
  simp only [Int.natCast_add]
  omega
end Env
end Go.Proofs.Ytkbibhlfehamgaa

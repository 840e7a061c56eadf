/- Several texts in one: VdName, VdSmall, VdTrap. -/
import Derived.Test.YtcleakjjefmmbaaGreatRows
import Derived.Test.YtcleakjjefmmbaaGreatMid
import Derived.Lib.Bytealg
/- strings.IndexByte; vdisk.named. -/
namespace Go.Proofs.YtcleakjjefmmbaaGreat
open Go.RowKit
namespace Vd

set_option maxRecDepth 100000 in
set_option maxHeartbeats 1000000 in
theorem lite_any (s : ByteArray) (c : Int) (w : World) : Calls Tryz.prog 152 #[.string s, .int .u8 c] w fun e w' => e = .returned (.int .i64 (Lib.indexByte s.data.toList c.toNat.toUInt8)) ∧ w = w' := by
 go_enter Tryz.func152, Tryz.ntmps152
 go_wp2_with fail
 rw [run_callFunc_extern Tryz.func199 (by kernel_rfl) (by kernel_rfl) (by kernel_rfl) (e := Extern.BytealgIndexByte.indexByte) (by kernel_rfl), Lib.run_indexByteString]
 simp only [Result.andThen]
 rw [Oper.upon_value]
 go_wp2_with fail
 go_ret
 exact ⟨rfl, rfl⟩

theorem ib_any (s : ByteArray) (c : Int) (w : World) : Calls Tryz.prog 79 #[.string s, .int .u8 c] w fun e w' => e = .returned (.int .i64 (Lib.indexByte s.data.toList c.toNat.toUInt8)) ∧ w = w' := by
 go_enter Tryz.func79, Tryz.ntmps79
 go_wp2_with fail
 refine (lite_any s c w).mono ?_
 rintro e w1 ⟨rfl, rfl⟩
 go_wp2_with fail
 go_ret
 exact ⟨rfl, rfl⟩

def letters : ByteArray := ⟨#[97, 98, 99, 100, 101, 102, 103, 104, 105, 106, 107, 108, 109, 110, 111, 112, 113, 114, 115, 116, 117, 118, 119, 120, 121, 122, 48, 49, 50, 51, 52, 53, 54, 55, 56, 57, 46, 45]⟩
def letterB (c : UInt8) : Bool := decide (0 ≤ Lib.indexByte letters.data.toList c)
def namedB (l : List UInt8) : Bool := l.all letterB && !l.isEmpty && decide (l.length ≤ 32)

theorem letters_take {l : List UInt8} {j : Nat} (h : j < l.length) (ha : (l.take j).all letterB = true) (hc : letterB l[j] = true) : (l.take (j + 1)).all letterB = true := by
 rw [List.take_succ_eq_append_getElem h, List.all_append, ha]
 simp [hc]
theorem named_not {l : List UInt8} {j : Nat} (h : j < l.length) (hc : letterB l[j] = false) : namedB l = false := by
 have : l.all letterB = false := by
  rw [List.all_eq_false]
  exact ⟨l[j], List.getElem_mem h, by simp [hc]⟩
 unfold namedB
 rw [this]
 rfl
theorem named_all {l : List UInt8} (ha : l.all letterB = true) : namedB l = (!l.isEmpty && decide ((l.length : Int) ≤ 32)) := by
 unfold namedB
 rw [ha, Bool.true_and]
 congr 1
 exact decide_eq_decide.2 (by omega)

set_option maxHeartbeats 1000000 in
theorem named_any (l : List UInt8) (hn : l.length ≤ 9000000000000000000) (w : World) : Calls Tryz.prog 32 #[.string (bstr l)] w fun e w' => e = .returned (.bool (namedB l)) ∧ w = w' := by
 have HSZ := Lib.hid (bstr_size l)
 have HTL := Lib.hid (bstr_toList l)
 have HGE := Lib.hid (fun (j : Nat) (h : j < (bstr l).size) => show (bstr l)[j] = l[j]'(by rw [bstr_size] at h; exact h) from rfl)
 go_enter Tryz.func32, Tryz.ntmps32
 go_wp2_with fail
 go_loopw [6] (fun i wr => ∃ j : Nat, i = .int .i64 (j : Int) ∧ j ≤ (bstr l).size ∧ Hid ((l.take j).all letterB = true) ∧ w = wr) (fun i _ => (bstr l).size - (intOf i).toNat)
 case atStart => exact ⟨0, rfl, Nat.zero_le _, Lib.hid rfl, rfl⟩
 case round =>
  obtain ⟨j, rfl, hj, HA, rfl⟩ := hrel
  by_cases hlt : j < (bstr l).size
  ·have hll : j < l.length := by rw [← HSZ.out]; exact hlt
   have HI := Lib.hid (ib_any letters (((bstr l)[j]'hlt).toNat : Int) w)
   have hb : ((((bstr l)[j]'hlt).toNat : Int).toNat.toUInt8) = l[j] := by
    rw [HGE.out j hlt]
    simp
   rw [hb] at HI
   have HX := Lib.hid (show letterB l[j] = decide (0 ≤ Lib.indexByte letters.data.toList l[j]) from rfl)
   generalize Lib.indexByte letters.data.toList l[j] = x at *
   unfold letters at HI
   clear hb
   have hw : IntKind.i64.wrap ((j : Int) + 1) = (j : Int) + 1 := IntWalk.i64_in _ (by omega)
   go_wp2_with fail
   refine HI.out.mono ?_
   rintro e w1 ⟨rfl, rfl⟩
   by_cases hx : x < 0
   ·have HF := Lib.hid (named_not hll (by rw [HX.out]; exact decide_eq_false (by omega)))
    go_wp2_with fail
    go_ret
    exact ⟨by rw [HF.out]; rfl, rfl⟩
   ·have HF := Lib.hid (letters_take hll HA.out (by rw [HX.out]; exact decide_eq_true (by omega)))
    go_wp2_with fail
    go_roundw
    case rel => exact ⟨j + 1, by simp, by omega, HF, trivial⟩
    case measure =>
     simp only [intOf]
     omega
  ·have HA' : Hid (namedB l = (!l.isEmpty && decide ((l.length : Int) ≤ 32))) := Lib.hid (named_all (by
    have := HA.out
    rw [List.take_of_length_le (by rw [← HSZ.out]; omega)] at this
    exact this))
   clear HA
   go_wp2_with fail
   all_goals
    rename_i hh
    rw [HTL.out] at hh
   ·go_ret
    refine ⟨?_, rfl⟩
    subst hh
    rfl
   ·go_ret
    refine ⟨?_, rfl⟩
    show Ending.returned (.bool (!(bstr l).toList.isEmpty && decide (((bstr l).size : Int) ≤ 32))) = _
    rw [HA'.out, HTL.out, HSZ.out]
end Vd
end Go.Proofs.YtcleakjjefmmbaaGreat

/- vdisk's small ones: set. -/
namespace Go.Proofs.YtcleakjjefmmbaaGreat
open Go.RowKit
namespace Vd

def trapA (x : Int × Int) : Array Value := #[.int .i64 x.1, .int .i64 x.2]
/-- a trap behind so many calls -/
def setT (after e : Int) : Int × Int := if after < 0 ∨ 4611686018427387904 ≤ after ∨ e = 0 then (-1, 0) else (after, e)
theorem setT_neg {a e : Int} (h : a < 0) : setT a e = (-1, 0) := if_pos (.inl h)
theorem setT_far {a e : Int} (h : 4611686018427387904 ≤ a) : setT a e = (-1, 0) := if_pos (.inr (.inl h))
theorem setT_ok (a : Int) : setT a 0 = (-1, 0) := if_pos (.inr (.inr rfl))
theorem setT_set {a e : Int} (h : ¬ a < 0) (h2 : ¬ 4611686018427387904 ≤ a) (h3 : e ≠ 0) : setT a e = (a, e) := if_neg (by omega)

def SetDid (w : World) (t : Int × Int) (e : Ending) (w' : World) : Prop := e = .returned (.agg (trapA t)) ∧ Keeps w w'
set_option maxHeartbeats 1000000 in
theorem set_any (a e : Int) (w : World) : Calls Tryz.prog 64 #[.int .i64 a, .int .i64 e] w (SetDid w (setT a e)) := by
 by_cases h1 : a < 0
 ·rw [setT_neg h1]
  go_enter Tryz.func64, Tryz.ntmps64
  go_wp2_with fail
  exact bodyPost_ret (v := .agg (trapA (-1, 0))) (by simp [results, Tryz.results64, go_sem]; rfl) rfl ⟨rfl, (Keeps.refl _).alloc _⟩
 ·by_cases h2 : 4611686018427387904 ≤ a
  ·rw [setT_far h2]
   go_enter Tryz.func64, Tryz.ntmps64
   go_wp2_with fail
   exact bodyPost_ret (v := .agg (trapA (-1, 0))) (by simp [results, Tryz.results64, go_sem]; rfl) rfl ⟨rfl, (Keeps.refl _).alloc _⟩
  ·by_cases h3 : e = 0
   ·subst h3
    rw [setT_ok]
    go_enter Tryz.func64, Tryz.ntmps64
    go_wp2_with fail
    exact bodyPost_ret (v := .agg (trapA (-1, 0))) (by simp [results, Tryz.results64, go_sem]; rfl) rfl ⟨rfl, (Keeps.refl _).alloc _⟩
   ·rw [setT_set h1 h2 h3]
    go_enter Tryz.func64, Tryz.ntmps64
    go_wp2_with fail
    exact bodyPost_ret (v := .agg (trapA (a, e))) (by simp [results, Tryz.results64, go_sem]; rfl) rfl ⟨rfl, (Keeps.refl _).alloc _⟩
end Vd
end Go.Proofs.YtcleakjjefmmbaaGreat

/- trap.spring. -/
namespace Go.Proofs.YtcleakjjefmmbaaGreat
open Go.RowKit
namespace Vd

/-- a call comes: does the trap spring; what is left of it -/
def springT (n : Int) : Int × Bool := if n < 0 then (n, false) else (n - 1, decide (n - 1 < 0))

theorem spring_no (w : World) {b o : Nat} {n : Int} (hc : w.cell? ⟨b, o, none⟩ = some (.int .i64 n)) (hn : n < 0) : Calls Tryz.prog 148 #[.pointer (some ⟨b, o, none⟩)] w fun e w' => e = .returned (.bool false) ∧ w = w' := by
 go_enter Tryz.func148, Tryz.ntmps148
 go_wp2_with fail
 go_ret
 exact ⟨rfl, rfl⟩
set_option maxHeartbeats 1000000 in
theorem spring_any (w : World) {b o : Nat} {n : Int} (hc : w.cell? ⟨b, o, none⟩ = some (.int .i64 n)) (hf : w.frozen? ⟨b, o, none⟩ = false) (hn : 0 ≤ n) (hm : n ≤ 9223372036854775807) : Calls Tryz.prog 148 #[.pointer (some ⟨b, o, none⟩)] w fun e w' => e = .returned (.bool (decide (n - 1 < 0))) ∧ w' = w.setCell ⟨b, o, none⟩ (.int .i64 (n - 1)) := by
 have hw : IntKind.i64.wrap (n - 1) = n - 1 := IntWalk.i64_in _ (by omega)
 have hn' : ¬ n < 0 := by omega
 have HR := Lib.hid (rfl : w.setCell ⟨b, o, none⟩ (.int .i64 (n - 1)) = w.setCell ⟨b, o, none⟩ (.int .i64 (n - 1)))
 go_enter Tryz.func148, Tryz.ntmps148
 go_wp2_with fail
 go_ret
 exact ⟨rfl, rfl⟩
end Vd
end Go.Proofs.YtcleakjjefmmbaaGreat

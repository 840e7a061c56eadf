/- octet.Put, Turn of the reference. -/
import Derived.Test.YtohchhgheeolpaaOctetTake
import Derived.Laws.MakeOwn
namespace Go.Proofs.Ytohchhgheeolpaa
open Go.RowKit

/-- so many bytes 00 -/
def zeroB (n : Nat) : Array Value := madeCells #[.int .u8 0] n
theorem zeroB_size (n : Nat) : (zeroB n).size = n := size_madeCells _ _
theorem zeroB_list (n : Nat) : (zeroB n).toList = (List.replicate n (0 : UInt8)).map u8v := by
  apply List.ext_getElem?
  intro i
  simp [zeroB, madeCells, u8v, List.getElem?_replicate]
  by_cases h : i < n <;> simp [h, Nat.mod_one]
theorem run_make_u8 {P : Program} {t e : TypeId} (ht : P.underlying t = some (.slice e)) (hi : (P.info? e).map (fun i => (i.zero, i.size, i.bytes)) = some (some (.int .u8 0), 1, 1)) (n : Nat) (hn : n ≤ 281474976710656) (w : World) :
    (Instr.makeSlice t (.int .i64 (n : Int)) (.int .i64 (n : Int))).run P w = .ok (.slice (some ⟨w.heap.size, 0, none⟩) n n) (w.alloc (.cells (zeroB n) e)) := by
  obtain ⟨i, hi', hz, hs, hb⟩ := info_parts hi
  have := run_make w t e i (.int .u8 0) ht hi' hz .i64 .i64 (n : Int) (n : Int) (by omega) (by omega) (by rw [hb]; omega) (by omega)
  rw [this, hs]
  simp [zeroB, Value.cells]
theorem own_arr {w : World} {base b n : Nat} {e : TypeId} {cs : Array Value} {l : List Value} (hb : b = w.heap.size) (hbase : base ≤ w.heap.size) (hn : n = l.length) (hl : cs.toList = l) (hm : n ≤ maxLen) : Own (w.alloc (.cells cs e)) base e (.slice (some ⟨b, 0, none⟩) n n) l := by
  subst hb hl hn
  refine ⟨by simp, .inr ⟨w.heap.size, cs.size, cs, by simp, hbase, ?_, by simp, by simpa using hm, by simp, ?_⟩⟩
  · show (w.heap.push _)[w.heap.size]? = _
    simp
  · rw [List.take_of_length_le (by simp)]

namespace Oct
theorem i22 : (Try.prog.info? 5).map (fun i => (i.zero, i.size, i.bytes)) = some (some (.int .u8 0), 1, 1) := by kernel_rfl
theorem be_list {v n : Nat} {cs : Array Value} (hs : cs.size = n) (h : ∀ j, j < n → cs[j]? = some (.int .u8 ((v / 256 ^ (n - 1 - j) % 256 : Nat) : Int))) : cs.toList = (be n v).map u8v := by
  apply List.ext_getElem?
  intro j
  rw [Array.getElem?_toList]
  by_cases hj : j < n
  · rw [h j hj, List.getElem?_map, be_get n v j hj]
    simp [u8v]
  · rw [Array.getElem?_eq_none (by omega), List.getElem?_eq_none (by rw [List.length_map, be_length]; omega)]

theorem shift_byte (v m : Nat) : ((v : Int) / 2 ^ (8 * m) % 256) = ((v / 256 ^ m % 256 : Nat) : Int) := by
  have e : (2 : Int) ^ (8 * m) = ((256 ^ m : Nat) : Int) := by rw [Int.pow_mul]; simp
  rw [e]
  rfl

set_option maxHeartbeats 1000000 in
theorem put_any (v : Nat) (hv : v < 18446744073709551616) (k : Int) (w : World) : Calls Try.prog 212 #[.int .u64 (v : Int), .int .i64 k] w (RetSB w (putL v k) (putB v k)) := by
  cases hk : okk k
  · have hp := putB_false (v := v) hk
    have HE : Hid (RetSB w (putL v k) (putB v k) (.returned (.tuple #[.slice none 0 0, .bool false])) w) := Lib.hid ⟨_, by rw [hp], by simpa [putL, hp] using Own.nil _ _ _, Keeps.refl _⟩
    clear hp
    go_enter Try.func212, Try.ntmps212
    go_wp2_with (go_at_call 207; refine (good_any _ _).mono ?_; rintro e w' ⟨rfl, rfl⟩)
    go_ret2
    exact HE.out
  · have HR := Lib.hid (room_any v hv k hk w)
    cases hp : putB v k
    · have HE : Hid (RetSB w (putL v k) false (.returned (.tuple #[.slice none 0 0, .bool false])) w) := Lib.hid ⟨_, rfl, by simpa [putL, hp] using Own.nil _ _ _, Keeps.refl _⟩
      rw [hp] at HR
      clear hp
      go_enter Try.func212, Try.ntmps212
      go_wp2_with (first | (go_at_call 207; refine (good_any _ _).mono ?_; rintro e w' ⟨rfl, rfl⟩) | (go_at_call 230; refine HR.out.mono ?_; rintro e w' ⟨rfl, rfl⟩))
      go_ret2
      exact HE.out
    · have HL : Hid (putL v k = be k.toNat v) := Lib.hid (by simp [putL, hp])
      have HG := Lib.hid (good_any k w)
      rw [hk] at HG
      rw [hp] at HR
      obtain ⟨n, rfl, h1, h8⟩ := okk_nat hk
      clear hp hk
      have hmk := fun w => run_make_u8 (P := Try.prog) Try.underlying22 i22 n (by omega) w
      go_enter Try.func212, Try.ntmps212
      go_wp2_with (first | (go_at_call 207; refine HG.out.mono ?_; rintro e w' ⟨rfl, rfl⟩) | (go_at_call 230; refine HR.out.mono ?_; rintro e w' ⟨rfl, rfl⟩))
      clear hmk
      go_loopw [7, 21] (fun s7 i wr => ∃ (j : Nat) (cs : Array Value), j ≤ n ∧ i = .int .i64 j ∧ wr = w.alloc (.cells cs 5) ∧ cs.size = n ∧ Hid (∀ i, i < j → cs[i]? = some (.int .u8 ((v / 256 ^ (n - 1 - i) % 256 : Nat) : Int)))) (fun _ i _ => n - (intOf i).toNat)
      case atStart => exact ⟨0, _, by omega, rfl, rfl, zeroB_size n, Lib.hid (by omega)⟩
      case round =>
        obtain ⟨j, cs, hj, rfl, rfl, hsz, HC⟩ := hrel
        have HZ := Lib.hid hsz
        clear hsz
        by_cases hlt : j < n
        · obtain ⟨old, hold⟩ : ∃ old, cs[j]? = some old := ⟨cs[j]'(by have := HZ.out; omega), by simp [HZ.out, hlt]⟩
          have hcell : ((w.alloc (.cells cs 5)).cell? ⟨w.heap.size, j, none⟩) = some old := by
            rw [cell_alloc_new]; exact hold
          go_wp2
          go_roundw
          case rel =>
            refine ⟨j + 1, cs.setIfInBounds j (.int .u8 ((v / 256 ^ (n - 1 - j) % 256 : Nat) : Int)), by omega, by go_num, ?_, by simp [HZ.out], Lib.hid fun i hi => ?_⟩
            · rw [shift_byte]
            · rw [Array.getElem?_setIfInBounds]
              split
              · rename_i e
                subst e
                rw [if_pos (by have := HZ.out; omega)]
              · exact HC.out i (by omega)
          case measure => simp [intOf] <;> omega
        · obtain rfl : j = n := by omega
          go_wp2
          go_ret2
          exact ⟨_, rfl, by rw [HL.out, Int.toNat_natCast]; exact own_arr rfl (Nat.le_refl _) (by simp [be_length]) (be_list HZ.out HC.out) (by unfold maxLen; omega), (Keeps.refl _).alloc _⟩
end Oct
end Go.Proofs.Ytohchhgheeolpaa

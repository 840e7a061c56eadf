/- Several texts in one: FrameRef, QuName. -/
import Derived.Test.YtcleakjjefmmbaaGreatK12
import Derived.Deep.Draws
import Derived.Deep.RegionHeld3
import Derived.Test.YtcleakjjefmmbaaGreatK00
import Derived.Test.YtcleakjjefmmbaaGreatK02
import Derived.Test.YtcleakjjefmmbaaGreatDrawn
/- The reference of Wrap. -/
namespace Go.Proofs.YtcleakjjefmmbaaGreat
open Go.RowKit
namespace Frm
open Oct

theorem bstr_append (a b : List UInt8) : bstr a ++ bstr b = bstr (a ++ b) := by
 apply ByteArray.ext
 apply Array.ext'
 simp [bstr]

theorem bytes_keeps (w : World) (e : TypeId) (s : ByteArray) : Keeps w (Lib.bytesWorld w e s) :=
 ⟨rfl, rfl, rfl, by rw [Lib.bytesWorld_size]; omega, fun k hk => Lib.bytesWorld_at_old w e s k hk⟩
end Frm
end Go.Proofs.YtcleakjjefmmbaaGreat

/- queue: Name. -/
namespace Go.Proofs.YtcleakjjefmmbaaGreat
open Go.RowKit
namespace Que
open Frm (bstr_append)
/-- a block of bytes that a conversion made -/
def NmB (w : World) (g : Nat) (l : Str) : Prop := ∃ cs fr, w.heap[g]? = some (.cells cs 5 fr) ∧ l.length ≤ fr.1 ∧ ∀ (i : Nat) (x : UInt8), l[i]? = some x → cs[i]? = some (u8v x)
theorem NmB.cell {w : World} {g : Nat} {l : Str} (h : NmB w g l) {i : Nat} {x : UInt8} (hx : l[i]? = some x) : w.cell? ⟨g, i, none⟩ = some (.int .u8 (x.toNat : Int)) := by
 obtain ⟨cs, fr, h1, h2, h3⟩ := h
 rw [cell_of_row w g i cs _ fr h1]
 exact h3 i x hx
theorem NmB.froz {w : World} {g : Nat} {l : Str} (h : NmB w g l) {i : Nat} (hi : i < l.length) : w.frozen? ⟨g, i, none⟩ = false := by
 obtain ⟨cs, fr, h1, h2, h3⟩ := h
 unfold World.frozen?
 simp only [h1]
 simp
 omega
theorem NmB.set_ {w : World} {g : Nat} {l : Str} (h : NmB w g l) (i : Nat) (x : UInt8) : NmB (w.setCell ⟨g, i, none⟩ (u8v x)) g (l.set i x) ∧ Mods (· = g) w (w.setCell ⟨g, i, none⟩ (u8v x)) := by
 obtain ⟨cs, fr, h1, h2, h3⟩ := h
 refine ⟨⟨cs.setIfInBounds i (u8v x), fr, by simp [World.setCell, Array.getElem?_modify, h1], by rw [List.length_set]; exact h2, fun k y hk => ?_⟩, (Mods.refl (· = g) w).setCell (p := ⟨g, i, none⟩) (fun _ => rfl) _⟩
 by_cases e : i = k
 ·subst e
  have hi : i < (l.set i x).length := (List.getElem?_eq_some_iff.1 hk).1
  rw [List.length_set] at hi
  rw [List.getElem?_set_self hi] at hk
  simp only [Option.some.injEq] at hk
  subst hk
  have hc := (Array.getElem?_eq_some_iff.1 (h3 i l[i] (List.getElem?_eq_getElem hi))).1
  rw [Array.getElem?_setIfInBounds_self_of_lt hc]
 ·rw [List.getElem?_set_ne e] at hk
  rw [Array.getElem?_setIfInBounds_ne e]
  exact h3 k y hk
theorem NmB.row {w : World} {g : Nat} {l : Str} (h : NmB w g l) {c : Nat} (hc : l.length ≤ c) (hc2 : c ≤ maxLen) : Row w (.slice (some ⟨g, 0, none⟩) l.length c) (l.map u8v) := by
 refine .inr ⟨g, 0, c, by simp, by simpa using hc, hc2, fun i x hx => ?_⟩
 rw [List.getElem?_map] at hx
 cases hl : l[i]? with
 |none => rw [hl] at hx; cases hx
 |some y =>
  rw [hl] at hx
  simp only [Option.map_some, Option.some.injEq] at hx
  rw [Nat.zero_add, h.cell hl, ← hx]
  rfl
/-- []byte(s): a block that may be written -/
theorem str_nmb {P : Program} (w : World) {t u : TypeId} (ht : P.underlying t = some (.slice 5)) (he : P.underlying 5 = some (.int .u8)) (hu : P.underlying u = some .string) (l : Str) (hs : l.length ≤ maxLen) :
  ∃ c w', (convert u t (.string (bstr l))).run P w = .ok (.slice (some ⟨w.heap.size, 0, none⟩) l.length c) w' ∧ NmB w' w.heap.size l ∧ Keeps w w' ∧ l.length ≤ c ∧ c ≤ maxLen := by
 have hz := bstr_size l
 refine ⟨_, _, by rw [← hz]; exact Lib.run_convert_string_bytes w u t 5 (bstr l) hu ht he, ⟨_, _, Lib.bytesWorld_at_new w _ _, ?_, fun i x hx => ?_⟩, Frm.bytes_keeps _ _ _, by rw [← hz]; exact grownCap_ge w _ 0 _, grownCap_le_maxLen w _ 0 _ (by rw [hz]; exact hs)⟩
 ·simp [Lib.bytesCells, bstr]
 ·have hi := (List.getElem?_eq_some_iff.1 hx).1
  have hc := Lib.bytesWorld_cell w 5 (bstr l) i (by rw [hz]; exact hi)
  rw [cell_of_row _ _ _ _ _ _ (Lib.bytesWorld_at_new w _ _)] at hc
  rw [hc]
  congr 1
  have : (bstr l).data.toList = l := by simp [bstr]
  rw [this, List.getD_eq_getElem?_getD, hx]
  rfl
set_option maxRecDepth 100000 in
theorem mul64_any (w : World) : Calls Tryz.prog 172 #[.int .u64 1, .int .u64 13] w fun e w' => e = .returned (.tuple #[.int .u64 0, .int .u64 13]) ∧ w = w' := by
 go_enter Tryz.func172, Tryz.ntmps172
 go_wp2_with fail
 go_ret2
 exact ⟨rfl, rfl⟩
set_option maxRecDepth 100000 in
theorem mul_any (w : World) : Calls Tryz.prog 107 #[.int .u64 1, .int .u64 13] w fun e w' => e = .returned (.tuple #[.int .u64 0, .int .u64 13]) ∧ w = w' := by
 have HM := Lib.hid (mul64_any w)
 go_enter Tryz.func107, Tryz.ntmps107
 go_wp2_with fail
 refine HM.out.mono ?_
 rintro e w1 ⟨rfl, rfl⟩
 go_wp2_with fail
 go_ret2
 exact ⟨rfl, rfl⟩
theorem pre_k (k : Nat) (x : UInt8) : Sx.preB (List.replicate (k + 1) x) [48] = (x == 48) := by
 unfold Sx.preB
 simp [List.replicate_succ]
theorem pre_sp (w : World) : Calls Tryz.prog 41 #[.string (bstr (List.replicate 128 32)), .string (bstr [48])] w fun e w' => e = .returned (.bool false) ∧ w = w' := by
 have h := Sx.pre_any (List.replicate 128 32) [48] (by rw [List.length_replicate]; omega) (by decide) w
 rw [show Sx.preB (List.replicate 128 32) [48] = false from (pre_k 127 32).trans (by decide)] at h
 exact h
theorem pre_da (w : World) : Calls Tryz.prog 41 #[.string (bstr (List.replicate 128 45)), .string (bstr [48])] w fun e w' => e = .returned (.bool false) ∧ w = w' := by
 have h := Sx.pre_any (List.replicate 128 45) [48] (by rw [List.length_replicate]; omega) (by decide) w
 rw [show Sx.preB (List.replicate 128 45) [48] = false from (pre_k 127 45).trans (by decide)] at h
 exact h
theorem pre_ze (w : World) : Calls Tryz.prog 41 #[.string (bstr (List.replicate 64 48)), .string (bstr [48])] w fun e w' => e = .returned (.bool true) ∧ w = w' := by
 have h := Sx.pre_any (List.replicate 64 48) [48] (by rw [List.length_replicate]; omega) (by decide) w
 rw [show Sx.preB (List.replicate 64 48) [48] = true from (pre_k 63 48).trans (by decide)] at h
 exact h
set_option maxRecDepth 100000 in
theorem rep_any (w : World) : Calls Tryz.prog 52 #[.string (bstr [48]), .int .i64 13] w fun e w' => e = .returned (.string (bstr (List.replicate 13 48))) ∧ w = w' := by
 have HM := Lib.hid (mul_any w)
 have hz : (bstr [48]).size = 1 := bstr_size _
 have hw : IntKind.u64.wrap ((1 : Nat) : Int) = 1 := by decide
 go_enter Tryz.func52, Tryz.ntmps52
 go_wp2_with fail
 refine HM.out.mono ?_
 rintro e w1 ⟨rfl, rfl⟩
 go_wp2_with fail
 refine (pre_sp _).mono ?_
 rintro e w1 ⟨rfl, rfl⟩
 go_wp2_with fail
 refine (pre_da _).mono ?_
 rintro e w1 ⟨rfl, rfl⟩
 go_wp2_with fail
 refine (pre_ze _).mono ?_
 rintro e w1 ⟨rfl, rfl⟩
 go_wp2_with fail
 go_ret
 exact ⟨rfl, rfl⟩
def nmL (t n : Nat) : Str := 113 :: (List.replicate (13 - t) 48 ++ dig t n)
theorem nmL_len {t n : Nat} (h : t ≤ 13) : (nmL t n).length = 14 := by
 unfold nmL
 rw [List.length_cons, List.length_append, List.length_replicate, dig_len]
 omega
theorem nmL_next {t n : Nat} (ht : t < 13) : (nmL t n).set (13 - t) (UInt8.ofNat (48 + n / 10 ^ t % 10)) = nmL (t + 1) n := by
 unfold nmL
 have e : 13 - t = (13 - (t + 1)) + 1 := by omega
 have hd := dig_split t 1 n
 rw [Nat.add_comm 1 t] at hd
 rw [e, List.set_cons_succ, List.replicate_succ', List.append_assoc, List.set_append_right _ _ (by simp), hd]
 simp [dig]
theorem nmL_end {t n : Nat} (ht : t ≤ 13) (hz : n / 10 ^ t = 0) : nmL t n = 113 :: dig 13 n := by
 unfold nmL
 have hd := dig_split t (13 - t) n
 rw [show 13 - t + t = 13 from by omega, hz, dig_zero] at hd
 rw [hd]
set_option maxRecDepth 100000 in
theorem name_any (w : World) (id : Int) : Calls Tryz.prog 13 #[.int .i64 id] w fun e w' => e = .returned (.string (bstr (nameQ id))) ∧ Keeps w w' := by
 by_cases h1 : id < 1
 ·have d1 : decide (id < 1) = true := decide_eq_true h1
  have HX := Lib.hid (show nameQ id = [] from by unfold nameQ; rw [if_neg (by omega)])
  go_enter Tryz.func13, Tryz.ntmps13
  go_wp2_with fail
  go_ret
  rw [HX.out]
  exact ⟨rfl, Keeps.refl _⟩
 have d1 : decide (id < 1) = false := decide_eq_false h1
 by_cases h2 : 1099511627776 < id
 ·have d2 : decide (1099511627776 < id) = true := decide_eq_true h2
  have HX := Lib.hid (show nameQ id = [] from by unfold nameQ; rw [if_neg (by omega)])
  clear h1 h2
  go_enter Tryz.func13, Tryz.ntmps13
  go_wp2_with fail
  go_ret
  rw [HX.out]
  exact ⟨rfl, Keeps.refl _⟩
 have d2 : decide (1099511627776 < id) = false := decide_eq_false h2
 obtain ⟨n, rfl⟩ : ∃ n : Nat, id = n := ⟨id.toNat, by omega⟩
 have HX := Lib.hid (show nameQ n = 113 :: dig 13 n from nameQ_eq (by omega) (by omega))
 have HN := Lib.hid (show 1 ≤ n ∧ n ≤ 1099511627776 from by omega)
 have HR := Lib.hid (rep_any w)
 clear h1 h2
 go_enter Tryz.func13, Tryz.ntmps13
 go_wp2_with fail
 refine HR.out.mono ?_
 rintro e w1 ⟨rfl, rfl⟩
 obtain ⟨c, w2, hcv, hnb, hk, hc1, hc2⟩ := str_nmb (P := Tryz.prog) w Tryz.underlying53 Tryz.underlying5 Tryz.underlying9 (nmL 0 n) (by rw [nmL_len (Nat.zero_le _)]; decide)
 have hcv : (convert 9 53 (.string (({ data := #[113] } : ByteArray) ++ bstr [48, 48, 48, 48, 48, 48, 48, 48, 48, 48, 48, 48, 48]))).run Tryz.prog w = .ok (.slice (some ⟨w.heap.size, 0, none⟩) 14 c) w2 := hcv
 rw [nmL_len (Nat.zero_le _)] at hc1
 have HB := Lib.hid hnb
 have HK := Lib.hid hk
 have HC := Lib.hid (And.intro hc1 hc2)
 have HG := Lib.hid (show w.heap.size ≤ w.heap.size from Nat.le_refl _)
 obtain ⟨g, hg⟩ : ∃ z, w.heap.size = z := ⟨_, rfl⟩
 have HG := Lib.hid (show w.heap.size ≤ g from by omega)
 rw [hg] at hcv HB
 clear hnb hk hc1 hc2
 go_upto_region 4 with fail
 clear hcv hg
 go_wp2_with fail
 go_loopw [0, 4] (fun dv iv wr => ∃ t m k : Nat, dv = .int .i64 (m : Int) ∧ iv = .int .i64 (k : Int) ∧ Hid (t + k = 13 ∧ m = n / 10 ^ t ∧ NmB wr g (nmL t n) ∧ Keeps w wr)) (fun dv _ _ => (intOf dv).toNat)
 case atStart => exact ⟨0, n, 13, rfl, rfl, Lib.hid ⟨rfl, by simp, HB.out, HK.out⟩⟩
 case round =>
  obtain ⟨t, m, k, rfl, rfl, HH⟩ := hrel
  have HT := Lib.hid (show t ≤ 13 from by have := HH.out.1; omega)
  by_cases hz : m = 0
  ·subst hz
   have he : nmL t n = nameQ n := by rw [nmL_end HT.out HH.out.2.1.symm, HX.out]
   have hrow : Row wr (.slice (some ⟨g, 0, none⟩) 14 c) ((nameQ n).map u8v) := by
    have := HH.out.2.2.1.row (c := c) (by rw [nmL_len HT.out]; exact HC.out.1) HC.out.2
    rw [nmL_len HT.out, he] at this
    exact this
   have hconv : (convert 53 9 (.slice (some ⟨g, 0, none⟩) 14 c)).run Tryz.prog wr = .ok (.string (bstr (nameQ n))) wr := hrow.str Tryz.underlying53 Tryz.underlying5 Tryz.underlying9
   have HKR := Lib.hid HH.out.2.2.2
   clear hrow HH he
   go_wp2_with fail
   go_ret
   exact ⟨rfl, HKR.out⟩
  ·have hd : decide (0 < m) = true := decide_eq_true (by omega)
   have hd' : decide ((0 : Int) < (m : Int)) = true := decide_eq_true (by omega)
   have htl : t < 13 := by
    refine Classical.byContradiction fun hc => hz ?_
    rw [HH.out.2.1]
    refine Nat.div_eq_of_lt ?_
    have : t = 13 := by have := HT.out; omega
    subst this
    have := HN.out.2
    omega
   have hk1 : 1 ≤ k ∧ k ≤ 13 := by have := HH.out.1; omega
   obtain ⟨hk1, hk2⟩ := hk1
   have hrem : Int.tmod (m : Int) 10 = ((m % 10 : Nat) : Int) := by rw [Int.tmod_eq_emod_of_nonneg (by omega)]; omega
   have hquo : Int.tdiv (m : Int) 10 = ((m / 10 : Nat) : Int) := by rw [Int.tdiv_eq_ediv_of_nonneg (by omega)]; omega
   have HM := Lib.hid (show m / 10 = n / 10 ^ (t + 1) from by rw [HH.out.2.1, Nat.pow_succ, Nat.div_div_eq_div_mul])
   have HD := Lib.hid (show m % 10 = n / 10 ^ t % 10 from by rw [HH.out.2.1])
   have hml : m ≤ 1099511627776 := by rw [HH.out.2.1]; exact Nat.le_trans (Nat.div_le_self _ _) HN.out.2
   have hr10 : m % 10 < 10 := Nat.mod_lt _ (by decide)
   obtain ⟨r, hr⟩ : ∃ r, m % 10 = r := ⟨_, rfl⟩
   obtain ⟨m2, hm2⟩ : ∃ r, m / 10 = r := ⟨_, rfl⟩
   have HLT := Lib.hid (show m2 < m from by omega)
   rw [hr] at hrem HD hr10
   rw [hm2] at hquo HM
   clear hr
   have hmm : m2 ≤ 1099511627776 := by omega
   clear hm2
   have c0 : wr.cell? ⟨g, k, none⟩ = some (.int .u8 (((nmL t n)[k]'(by rw [nmL_len HT.out]; omega)).toNat : Int)) := HH.out.2.2.1.cell (List.getElem?_eq_getElem _)
   have f0 : wr.frozen? ⟨g, k, none⟩ = false := HH.out.2.2.1.froz (by rw [nmL_len HT.out]; omega)
   generalize (nmL t n)[k]'_ = x0 at c0
   have HS := Lib.hid (HH.out.2.2.1.set_ k (UInt8.ofNat (48 + r)))
   have hu : u8v (UInt8.ofNat (48 + r)) = .int .u8 (48 + (r : Int)) := by
    unfold u8v
    rw [UInt8.toNat_ofNat', Nat.mod_eq_of_lt (by omega)]
    simp
   rw [hu] at HS
   have hw8 : IntKind.u8.wrap (48 + (r : Int)) = 48 + (r : Int) := by rw [IntKind.wrap_u8]; omega
   have HKR := Lib.hid HH.out.2.2.2
   have HTK := Lib.hid HH.out.1
   have HNX := Lib.hid (show (nmL t n).set k (UInt8.ofNat (48 + r)) = nmL (t + 1) n from by
    rw [← nmL_next htl, show 13 - t = k from by have := HTK.out; omega, HD.out])
   clear hu hz HH htl
   go_upto_region 8 with fail
   generalize wr.setCell ⟨g, k, none⟩ (.int .u8 (48 + (r : Int))) = w3 at *
   clear c0 f0 hrem hw8
   have HB3 := Lib.hid (show NmB w3 g (nmL (t + 1) n) from by rw [← HNX.out]; exact HS.out.1)
   have HK3 := Lib.hid (HS.out.2.keeps HKR.out (fun x hx => by rw [hx]; exact HG.out))
   clear HNX HS HKR
   have hwq : wrap64 (m2 : Int) = (m2 : Int) := by unfold wrap64; omega
   have hk3 : (k : Int) - 1 = ((k - 1 : Nat) : Int) := by omega
   go_wp2_with fail
   go_roundw
   case rel => exact ⟨t + 1, m2, k - 1, by simp, by simp [hk3], Lib.hid ⟨by have := HTK.out; omega, HM.out, HB3.out, HK3.out⟩⟩
   case measure => simp only [intOf]; have := HLT.out; omega
theorem tail_is (s : Str) : tailQ s = if Sx.preB s [113] then s.drop 1 else s := by
 match s with
 | [] => rfl
 |c :: t =>
  unfold Sx.preB
  by_cases h : c = 113
  ·subst h
   simp [tailQ]
  ·have : tailQ (c :: t) = c :: t := by
    unfold tailQ
    split
    ·rename_i heq
     simp only [List.cons.injEq] at heq
     exact absurd heq.1 h
    ·rfl
   rw [this]
   simp [h]
theorem trim0_any (s : Str) (hs : s.length ≤ 1000000000000) (w : World) : Calls Tryz.prog 156 #[.string (bstr s), .string (bstr [113])] w fun e w' => e = .returned (.string (bstr (tailQ s))) ∧ w = w' := by
 have HC := Lib.hid (Sx.pre0_any s [113] hs (by decide) w)
 have HX := Lib.hid (tail_is s)
 by_cases hp : Sx.preB s [113] = true
 ·rw [hp] at HC
  have HY := Lib.hid (show tailQ s = s.drop 1 from by rw [HX.out, if_pos hp])
  have hl : 1 ≤ s.length := by
   unfold Sx.preB at hp
   simp at hp
   omega
  have hcut := fun wz => Sx.cut_from s 1 hl wz
  have hz : (bstr [113]).size = 1 := bstr_size _
  have hle : (1 : Int) ≤ ((bstr s).size : Int) := by rw [bstr_size]; omega
  have HE := Lib.hid (show (bstr s).extract 1 (bstr s).size = bstr (s.drop 1) from by
   apply ByteArray.ext
   simp only [bstr, ByteArray.data_extract]
   apply Array.ext'
   simp
   rw [List.take_of_length_le]
   simp [ByteArray.size])
  clear hp HX
  go_enter Tryz.func156, Tryz.ntmps156
  go_wp2_with fail
  refine HC.out.mono ?_
  rintro e w1 ⟨rfl, rfl⟩
  go_wp2_with fail
  go_ret
  rw [HY.out, ← HE.out]
  exact ⟨rfl, rfl⟩
 ·have hp : Sx.preB s [113] = false := by simpa using hp
  rw [hp] at HC
  have HY := Lib.hid (show tailQ s = s from by rw [HX.out, if_neg (by simp [hp])])
  clear hp HX
  go_enter Tryz.func156, Tryz.ntmps156
  go_wp2_with fail
  refine HC.out.mono ?_
  rintro e w1 ⟨rfl, rfl⟩
  go_wp2_with fail
  go_ret
  rw [HY.out]
  exact ⟨rfl, rfl⟩
theorem trim_any (s : Str) (hs : s.length ≤ 1000000000000) (w : World) : Calls Tryz.prog 86 #[.string (bstr s), .string (bstr [113])] w fun e w' => e = .returned (.string (bstr (tailQ s))) ∧ w = w' := by
 have HC := Lib.hid (trim0_any s hs w)
 go_enter Tryz.func86, Tryz.ntmps86
 go_wp2_with fail
 refine HC.out.mono ?_
 rintro e w2 ⟨rfl, rfl⟩
 go_wp2_with fail
 go_ret
 exact ⟨rfl, rfl⟩
theorem tail_le (s : Str) : (tailQ s).length ≤ s.length := by
 rw [tail_is]
 split
 ·rw [List.length_drop]; omega
 ·exact Nat.le_refl _
set_option maxRecDepth 100000 in
set_option maxHeartbeats 4000000 in
theorem number_any (s : Str) (hs : s.length ≤ 1000000000) (w : World) : Calls Tryz.prog 42 #[.string (bstr s)] w fun e w' => e = .returned (.int .i64 (numQ s : Int)) ∧ Keeps w w' := by
 have HT := Lib.hid (trim_any s (by omega) w)
 have hl := tail_le s
 have HX := Lib.hid (show numQ s = (match par 0 (tailQ s) with | none => 0 | some n => if nameQ n = s then n else 0) from rfl)
 generalize tailQ s = l at *
 have hl : l.length ≤ 1000000000 := by omega
 obtain ⟨c, w2, hcv, hnb, hk, hc1, hc2⟩ := str_nmb (P := Tryz.prog) w Tryz.underlying53 Tryz.underlying5 Tryz.underlying9 l (by unfold maxLen; omega)
 have HB := Lib.hid hnb
 have HK := Lib.hid hk
 clear hnb hk hc1 hc2
 go_enter Tryz.func42, Tryz.ntmps42
 go_wp2_with fail
 refine HT.out.mono ?_
 rintro e w1 ⟨rfl, rfl⟩
 obtain ⟨g, hg⟩ : ∃ z, w.heap.size = z := ⟨_, rfl⟩
 rw [hg] at hcv HB
 clear hg
 go_wp2_with fail
 clear hcv
 go_loopw [3, 10] (fun nv iv wr => ∃ n j : Nat, nv = .int .i64 (n : Int) ∧ iv = .int .i64 (j : Int) ∧ Hid (j ≤ l.length ∧ par 0 l = par n (l.drop j) ∧ n ≤ 11000000000000 ∧ Keeps w2 wr)) (fun _ iv _ => l.length - (intOf iv).toNat)
 case atStart => exact ⟨0, 0, rfl, rfl, Lib.hid ⟨Nat.zero_le _, rfl, by decide, Keeps.refl _⟩⟩
 case round =>
  obtain ⟨n, j, rfl, rfl, HH⟩ := hrel
  have HB2 := Lib.hid (show NmB wr g l from by
   obtain ⟨cs, fr, h1, h2, h3⟩ := HB.out
   exact ⟨cs, fr, by rw [HH.out.2.2.2.block (Array.getElem?_eq_some_iff.1 h1).1]; exact h1, h2, h3⟩)
  have HKR := Lib.hid (HK.out.trans HH.out.2.2.2)
  by_cases hlt : j < l.length
  ·have hd : decide ((j : Int) < (l.length : Int)) = true := decide_eq_true (by omega)
   have hw1 : IntKind.i64.wrap ((j : Int) + 1) = (j : Int) + 1 := IntWalk.i64_in _ (by omega)
   have c0 := HB2.out.cell (List.getElem?_eq_getElem hlt)
   have HDR := Lib.hid (show l.drop j = l[j] :: l.drop (j + 1) from List.drop_eq_getElem_cons hlt)
   generalize l[j] = x at *
   have HP := Lib.hid (show par n (x :: l.drop (j + 1)) = if isDig x = false ∨ maxId < n then none else par (10 * n + (x.toNat - 48)) (l.drop (j + 1)) from rfl)
   have HDG := Lib.hid (show isDig x = (decide (48 ≤ x.toNat) && decide (x.toNat ≤ 57)) from rfl)
   have HPN := Lib.hid (show (isDig x = false ∨ maxId < n) → numQ s = 0 from fun h => by
    rw [HX.out, HH.out.2.1, HDR.out, HP.out, if_pos h])
   have HKW := Lib.hid HH.out.2.2.2
   have HN1 := Lib.hid HH.out.2.2.1
   have HPAR := Lib.hid HH.out.2.1
   obtain ⟨xi, hxi⟩ : ∃ z : Int, (x.toNat : Int) = z := ⟨_, rfl⟩
   have HXI := Lib.hid hxi
   have hx255 : 0 ≤ xi ∧ xi ≤ 255 := by have := x.toNat_lt; omega
   rw [hxi] at c0
   clear hxi HH
   by_cases h48 : xi < 48
   ·have hd1 : decide (xi < 48) = true := decide_eq_true h48
    have HZ := Lib.hid (HPN.out (.inl (by rw [HDG.out]; have := HXI.out; simp; omega)))
    clear h48 hx255
    go_wp2_with fail
    go_ret
    rw [HZ.out]
    exact ⟨rfl, HKR.out⟩
   have hd1 : decide (xi < 48) = false := decide_eq_false h48
   by_cases h57 : 57 < xi
   ·have hd2 : decide (57 < xi) = true := decide_eq_true h57
    have HZ := Lib.hid (HPN.out (.inl (by rw [HDG.out]; have := HXI.out; simp; omega)))
    clear h48 hx255 h57
    go_wp2_with fail
    go_ret
    rw [HZ.out]
    exact ⟨rfl, HKR.out⟩
   have hd2 : decide (57 < xi) = false := decide_eq_false h57
   by_cases hm : 1099511627776 < n
   ·have hd3 : decide ((1099511627776 : Int) < (n : Int)) = true := decide_eq_true (by omega)
    have hd4 : decide (1099511627776 < n) = true := decide_eq_true hm
    have HZ := Lib.hid (HPN.out (.inr hm))
    clear h48 hx255 h57 hm
    go_wp2_with fail
    go_ret
    rw [HZ.out]
    exact ⟨rfl, HKR.out⟩
   have hd3 : decide ((1099511627776 : Int) < (n : Int)) = false := decide_eq_false (by omega)
   have hd4 : decide (1099511627776 < n) = false := decide_eq_false hm
   obtain ⟨y, hy⟩ : ∃ y : Nat, xi = (y : Int) + 48 := ⟨xi.toNat - 48, by omega⟩
   have hy9 : y ≤ 9 := by omega
   have HN2 := Lib.hid (show par 0 l = par (10 * n + y) (l.drop (j + 1)) from by
    have hxi := HXI.out
    rw [HPAR.out, HDR.out, HP.out, if_neg, show x.toNat - 48 = y from by omega]
    rintro (h | h)
    ·rw [HDG.out] at h
     simp at h
     omega
    ·exact hm h)
   have hwy : IntKind.u8.wrap (xi - 48) = (y : Int) := by rw [IntKind.wrap_u8]; omega
   have hwz : IntKind.i64.wrap (y : Int) = (y : Int) := IntWalk.i64_in _ (by omega)
   have hwi : IntKind.i64.wrap (10 * (n : Int)) = 10 * (n : Int) := IntWalk.i64_in _ (by omega)
   have hwj : IntKind.i64.wrap (10 * (n : Int) + (y : Int)) = 10 * (n : Int) + (y : Int) := IntWalk.i64_in _ (by omega)
   have HY9 := Lib.hid (And.intro hy9 (show n ≤ 1099511627776 from by omega))
   clear h48 h57 hm hx255 HP HDG HPN HDR HXI hy HPAR hy9
   go_wp2_with fail
   go_roundw
   case rel => exact ⟨10 * n + y, j + 1, by first | rfl | simp, by first | rfl | simp, Lib.hid ⟨by omega, HN2.out, by have := HY9.out; omega, HKW.out⟩⟩
   case measure => simp only [intOf]; omega
  ·have hd : decide ((j : Int) < (l.length : Int)) = false := decide_eq_false (by omega)
   have hd9 : decide (j < l.length) = false := decide_eq_false hlt
   have HJ := Lib.hid (show par 0 l = some n from by rw [HH.out.2.1, List.drop_eq_nil_of_le (by omega)]; rfl)
   have HNM := Lib.hid (name_any wr n)
   have hl2 := HH.out.2.2.1
   clear hlt
   go_wp2_with fail
   refine HNM.out.mono ?_
   rintro e w4 ⟨rfl, hk4⟩
   have HKF := Lib.hid (HKR.out.trans hk4)
   have HV := Lib.hid (show numQ s = if nameQ n = s then n else 0 from by rw [HX.out, HJ.out])
   by_cases he : nameQ n = s
   ·have hne : ((bstr (nameQ n)).toList == (bstr s).toList) = true := by rw [he]; simp
    have HW := Lib.hid (show numQ s = n from by rw [HV.out, if_pos he])
    clear hk4 he
    go_wp2_with fail
    go_ret
    rw [HW.out]
    exact ⟨rfl, HKF.out⟩
   ·have hne : ((bstr (nameQ n)).toList == (bstr s).toList) = false := by
     rw [bstr_toList, bstr_toList]
     simpa using he
    have HW := Lib.hid (show numQ s = 0 from by rw [HV.out, if_neg he])
    clear hk4 he
    go_wp2_with fail
    go_ret
    rw [HW.out]
    exact ⟨rfl, HKF.out⟩
end Que
end Go.Proofs.YtcleakjjefmmbaaGreat

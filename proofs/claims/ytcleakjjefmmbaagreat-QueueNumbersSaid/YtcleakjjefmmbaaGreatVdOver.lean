/- patch.over. -/
import Derived.Test.YtcleakjjefmmbaaGreatK20
import Derived.Test.YtcleakjjefmmbaaGreatK01
import Derived.Test.YtcleakjjefmmbaaGreatK00
import Derived.Test.YtcleakjjefmmbaaGreatDrawn
import Derived.Lib.LazyBuf
import Derived.Deep.DeepCutAuto
import Derived.Deep.CutBlock
namespace Go.Proofs.YtcleakjjefmmbaaGreat
open Go.RowKit
namespace Vd

/-- a text with a patch over it -/
def overL (s : List UInt8) (p : Nat) (b : List UInt8) : List UInt8 :=
 let z := s ++ List.replicate (max s.length (p + b.length) - s.length) 0
 z.take p ++ b ++ z.drop (p + b.length)

theorem overL_get (s b : List UInt8) (p : Nat) (j : Nat) : (overL s p b)[j]? = if p ≤ j ∧ j < p + b.length then b[j - p]? else if j < s.length then s[j]? else if j < max s.length (p + b.length) then some 0 else none := by
 have hz : ∀ i, (s ++ List.replicate (max s.length (p + b.length) - s.length) (0 : UInt8))[i]? = if i < s.length then s[i]? else if i < max s.length (p + b.length) then some 0 else none := fun i => by
  rw [List.getElem?_append]
  split
  ·rfl
  ·rw [List.getElem?_replicate]
   split <;> split <;> first | rfl | omega
 unfold overL
 simp only
 generalize hzz : s ++ List.replicate (max s.length (p + b.length) - s.length) (0 : UInt8) = z at *
 have hzl : z.length = max s.length (p + b.length) := by rw [← hzz]; simp; omega
 rw [List.append_assoc, List.getElem?_append, List.length_take, List.getElem?_append, hzl]
 by_cases h1 : j < p
 ·rw [if_pos (by omega), if_neg (by omega), List.getElem?_take_of_lt h1, hz]
 ·rw [if_neg (by omega), show min p (max s.length (p + b.length)) = p from by omega]
  by_cases h2 : j < p + b.length
  ·rw [if_pos (by omega), if_pos (by omega)]
  ·rw [if_neg (by omega), if_neg (by omega), List.getElem?_drop, hz, show p + b.length + (j - p - b.length) = j from by omega]

theorem cells_all {b : Nat} {t : TypeId} : ∀ (vs : List Value) (o : Nat) (w : World) (cs : Array Value), Blk w b t cs → ∃ ds, Blk (w.setCells b o vs) b t ds ∧ ds.size = cs.size ∧ ∀ j, ds[j]? = if o ≤ j ∧ j < o + vs.length ∧ j < cs.size then vs[j - o]? else cs[j]?
 | [], o, w, cs, h => ⟨cs, h, rfl, fun j => by rw [if_neg (by simp; omega)]⟩
 |v :: vs, o, w, cs, h => by
  obtain ⟨ds, hB, hs, hj⟩ := cells_all vs (o + 1) _ _ (h.set_ o v)
  rw [Array.size_setIfInBounds] at hs
  refine ⟨ds, hB, hs, fun j => ?_⟩
  rw [hj, Array.getElem?_setIfInBounds, Array.size_setIfInBounds, List.length_cons]
  by_cases h1 : j < o
  ·rw [if_neg (by omega), if_neg (by omega), if_neg (by omega)]
  ·by_cases h2 : o = j
   ·subst h2
    rw [if_neg (by omega), if_pos rfl]
    by_cases h3 : o < cs.size
    ·rw [if_pos h3, if_pos (by omega)]; simp
    ·rw [if_neg h3, if_neg (by omega), Array.getElem?_eq_none (by omega)]
   ·by_cases h3 : j < o + 1 + vs.length ∧ j < cs.size
    ·rw [if_pos (by omega), if_pos (by omega)]
     rw [show j - o = (j - (o + 1)) + 1 from by omega, List.getElem?_cons_succ]
    ·rw [if_neg (by omega), if_neg (by omega), if_neg (by omega)]
theorem cells_keeps {W : World} {b : Nat} (hb : W.heap.size ≤ b) : ∀ (vs : List Value) (o : Nat) (w : World), Keeps W w → Keeps W (w.setCells b o vs)
 | [], _, _, h => h
 |v :: vs, o, w, h => cells_keeps hb vs (o + 1) _ (h.setCell (p := ⟨b, o, none⟩) hb v)
theorem bytes_of (l : List UInt8) : ((bstr l).data.toList.map fun x => Value.int .u8 (x.toNat : Int)) = l.map u8v := by simp [bstr, u8v]
theorem copy_str {w : World} {Z o n c k : Nat} {cs : Array Value} {l : List UInt8} (hB : Blk w Z 5 cs) (h1 : l.length ≤ n) (h2 : o + l.length ≤ cs.size) :
  ∃ ds, (∀ ty, (Builtin.copy_ #[53, 9] ty #[.slice (some ⟨Z, o, none⟩) n c, .string (bstr l)]).run Tryz.prog w = .ok (goInt (bstr l).size) (w.setCells Z o (l.map u8v))) ∧ Blk (w.setCells Z o (l.map u8v)) Z 5 ds ∧ ds.size = cs.size ∧ ∀ j, ds[j]? = if o ≤ j ∧ j < o + l.length then (l.map u8v)[j - o]? else cs[j]? := by
 obtain ⟨ds, hb, hs, hj⟩ := cells_all (l.map u8v) o w cs hB
 refine ⟨ds, fun ty => ?_, hb, hs, fun j => ?_⟩
 ·rw [← bytes_of]
  exact run_copy_string w _ _ ty 5 Z o n c (bstr l) Tryz.underlying53 (by intro w; kernel_rfl) (by rw [bstr_size]; exact h1) (fun j hjl => by
   rw [hB.cell]
   rw [bstr_size] at hjl
   rw [Array.getElem?_eq_getElem (by omega)]
   rfl) (fun j _ => hB.frozen _)
 ·rw [hj, List.length_map]
  by_cases hx : o ≤ j ∧ j < o + l.length
  ·rw [if_pos (by omega), if_pos hx]
  ·rw [if_neg (by omega), if_neg hx]
theorem overV_get (s b : List UInt8) (p N j : Nat) (hN : N = max s.length (p + b.length)) : ((overL s p b).map u8v)[j]? = if p ≤ j ∧ j < p + b.length then (b.map u8v)[j - p]? else if j < s.length then (s.map u8v)[j]? else (zeroB N)[j]? := by
 rw [List.getElem?_map, overL_get, ← Array.getElem?_toList, zeroB_list, List.getElem?_map, List.getElem?_map, List.getElem?_map, List.getElem?_replicate, hN]
 split
 ·rfl
 ·split
  ·rfl
  ·split <;> rfl
theorem over_mem {W w2 : World} {Z N p : Nat} {s b : List UInt8} (hK : Keeps W w2) (hZ : W.heap.size ≤ Z) (hB : Blk w2 Z 5 (zeroB N)) (hN : N = max s.length (p + b.length)) :
  ∃ w3 w4, (∀ ty, (Builtin.copy_ #[53, 9] ty #[.slice (some ⟨Z, 0, none⟩) N N, .string (bstr s)]).run Tryz.prog w2 = .ok (goInt (bstr s).size) w3) ∧
   (∀ ty, (Builtin.copy_ #[53, 9] ty #[cutv (some ⟨Z, 0, none⟩) p N N, .string (bstr b)]).run Tryz.prog w3.drew = .ok (goInt (bstr b).size) w4) ∧ Keeps W w3 ∧ Keeps W w4 ∧
   ∃ ds : Array Value, Blk w4 Z 5 ds ∧ ds.toList = (overL s p b).map u8v := by
 obtain ⟨d1, r1, B1, s1, j1⟩ := copy_str (k := 0) (o := 0) (n := N) (c := N) (l := s) hB (by omega) (by rw [zeroB_size]; omega)
 rw [zeroB_size] at s1
 have hlen : (overL s p b).length = N := by
  unfold overL
  simp
  omega
 by_cases hc : N = p
 ·have hb0 : b = [] := by
   apply List.eq_nil_of_length_eq_zero
   omega
  obtain ⟨d2, r2, B2, s2, j2⟩ := copy_str (k := 0) (o := 0) (n := N - p) (c := N - p) (l := b) B1.drew (by rw [hb0]; exact Nat.zero_le _) (by rw [hb0]; exact Nat.zero_le _)
  refine ⟨_, _, r1, fun ty => ?_, cells_keeps hZ _ _ _ hK, cells_keeps hZ _ _ _ (cells_keeps hZ _ _ _ hK).drew, d2, B2, ?_⟩
  ·unfold cutv
   rw [if_pos hc]
   exact r2 ty
  ·apply List.ext_getElem?
   intro j
   have hbl : b.length = 0 := by rw [hb0]; rfl
   rw [Array.getElem?_toList, j2, if_neg (by omega), j1, overV_get s b p N j hN, if_neg (show ¬ (p ≤ j ∧ j < p + b.length) from by omega), Nat.sub_zero]
   by_cases hj : j < s.length
   ·rw [if_pos (by omega), if_pos hj]
   ·rw [if_neg (by omega), if_neg hj]
 ·obtain ⟨d2, r2, B2, s2, j2⟩ := copy_str (k := 0) (o := p) (n := N - p) (c := N - p) (l := b) B1.drew (by omega) (by omega)
  refine ⟨_, _, r1, fun ty => ?_, cells_keeps hZ _ _ _ hK, cells_keeps hZ _ _ _ (cells_keeps hZ _ _ _ hK).drew, d2, B2, ?_⟩
  ·unfold cutv
   rw [if_neg hc]
   have e : Addr.add ⟨Z, 0, none⟩ p = ⟨Z, p, none⟩ := by unfold Addr.add; split <;> simp_all
   rw [Option.map_some, e]
   exact r2 ty
  ·apply List.ext_getElem?
   intro j
   rw [Array.getElem?_toList, j2, overV_get s b p N j hN]
   by_cases h1 : p ≤ j ∧ j < p + b.length
   ·rw [if_pos h1, if_pos h1]
   ·rw [if_neg h1, if_neg h1, j1, Nat.sub_zero]
    by_cases hj : j < s.length
    ·rw [if_pos (by omega), if_pos hj]
    ·rw [if_neg (by omega), if_neg hj]

set_option maxRecDepth 100000 in
set_option maxHeartbeats 1000000 in
theorem over_any (s b : List UInt8) (p : Nat) (hs : s.length ≤ 1099511627776) (hp : p ≤ 1099511627776) (hb : b.length ≤ 1099511627776) (w : World) : Calls Tryz.prog 67 #[.agg #[.int .i64 (p : Int), .string (bstr b)], .string (bstr s)] w fun e w' => e = .returned (.string (bstr (overL s p b))) ∧ Keeps w w' := by
 have HSZ := Lib.hid (bstr_size s)
 have HBZ := Lib.hid (bstr_size b)
 have hs' : (bstr s).size ≤ 1099511627776 := by rw [bstr_size]; exact hs
 have hb' : (bstr b).size ≤ 1099511627776 := by rw [bstr_size]; exact hb
 have hw : IntKind.i64.wrap ((p : Int) + ((bstr b).size : Int)) = (p : Int) + ((bstr b).size : Int) := IntWalk.i64_in _ (by omega)
 go_enter Tryz.func67, Tryz.ntmps67
 go_upto_region 1 with fail
 generalize hW : World.alloc w _ = w1
 have HK := Lib.hid (show Keeps w w1 from by rw [← hW]; exact (Keeps.refl _).alloc _)
 have HP := Lib.hid (show Blk w1 w.heap.size 148 #[.int .i64 (p : Int), .string (bstr b)] from by rw [← hW]; exact Blk.new _ _ _ rfl)
 clear hW
 generalize w.heap.size = R at *
 have c0 : w1.cell? ⟨R, 0, none⟩ = some (.int .i64 (p : Int)) := by rw [HP.out.cell]; rfl
 have c1 : w1.cell? ⟨R, 1, none⟩ = some (.string (bstr b)) := by rw [HP.out.cell]; rfl
 have hmk : ∀ (n : Nat) (w' : World), n ≤ 281474976710656 → (Instr.makeSlice 53 (.int .i64 (n : Int)) (.int .i64 (n : Int))).run Tryz.prog w' = .ok (.slice (some ⟨w'.heap.size, 0, none⟩) n n) (w'.alloc (.cells (zeroB n) 5)) := fun n w' hn => run_make_u8 Tryz.underlying53 Oct.i22 n hn w'
 by_cases hm : ((bstr s).size : Int) < (p : Int) + ((bstr b).size : Int)
 ·have HM := Lib.hid (hmk (p + (bstr b).size) w1 (by omega))
  push_cast at HM
  have hmm := HM.out
  clear hmk
  go_upto_region 2 with fail
  generalize hW : World.alloc w1 _ = w2
  have hk2 : Keeps w1 w2 := by rw [← hW]; exact (Keeps.refl _).alloc _
  have hZ : Blk w2 w1.heap.size 5 (zeroB (p + (bstr b).size)) := by rw [← hW]; exact Blk.new _ _ _ rfl
  have hNN : p + (bstr b).size = max s.length (p + b.length) := by have := HSZ.out; have := HBZ.out; omega
  have hml : p + (bstr b).size ≤ maxLen := by simp [maxLen]; omega
  have hpN : p ≤ p + (bstr b).size := by omega
  obtain ⟨w3, w4, q3, q4, k3, k4, ds, hd, hdl⟩ := over_mem hk2 (Nat.le_refl _) hZ hNN
  have hlen : (overL s p b).length = p + (bstr b).size := by have := congrArg List.length hdl; rw [hNN]; unfold overL; simp; omega
  generalize p + (bstr b).size = N at *
  have HROW := Lib.hid (show Row w4 (.slice (some ⟨w1.heap.size, 0, none⟩) N N) ((overL s p b).map u8v) from .inr ⟨w1.heap.size, 0, N, by simp [hlen], by simp [hlen], hml, fun i x hx => by rw [Nat.zero_add, hd.cell, ← Array.getElem?_toList, hdl]; exact hx⟩)
  have HKE := Lib.hid (HK.out.trans k4)
  have HST := Lib.hid (show (convert 53 9 (.slice (some ⟨w1.heap.size, 0, none⟩) N N)).run Tryz.prog w4 = .ok (.string (bstr (overL s p b))) w4 from HROW.out.str Tryz.underlying53 Tryz.underlying5 Tryz.underlying9)
  have hcut : ∀ w', (Instr.slice 53 (.slice (some ⟨w1.heap.size, 0, none⟩) N N) (some (.int .i64 (p : Int))) none none).run Tryz.prog w' = .ok (cutv (some ⟨w1.heap.size, 0, none⟩) p N N) w' := fun w' => run_cut_l w' Tryz.underlying53 (by intro w; kernel_rfl) _ N N p hpN
  have d0 : w3.cell? ⟨R, 0, none⟩ = some (.int .i64 (p : Int)) := by rw [(HP.out.keeps k3).cell]; rfl
  have d1 : w3.cell? ⟨R, 1, none⟩ = some (.string (bstr b)) := by rw [(HP.out.keeps k3).cell]; rfl
  have Hq4 := Lib.hid q4
  clear hNN hW hk2 hZ hml hd hdl hmm HM k3 k4 c0 c1 hlen q4
  generalize w1.heap.size = Z at *
  go_upto_region 3 with fail
  have hq4 := Hq4.out
  go_region
  all_goals
   have hst := HST.out
   go_wp2_with fail
   go_ret
   exact ⟨rfl, HKE.out⟩
 ·have HM := Lib.hid (hmk (bstr s).size w1 (by omega))
  have hmm := HM.out
  clear hmk
  go_upto_region 2 with fail
  generalize hW : World.alloc w1 _ = w2
  have hk2 : Keeps w1 w2 := by rw [← hW]; exact (Keeps.refl _).alloc _
  have hZ : Blk w2 w1.heap.size 5 (zeroB ((bstr s).size)) := by rw [← hW]; exact Blk.new _ _ _ rfl
  have hNN : (bstr s).size = max s.length (p + b.length) := by have := HSZ.out; have := HBZ.out; omega
  have hml : (bstr s).size ≤ maxLen := by simp [maxLen]; omega
  have hpN : p ≤ (bstr s).size := by omega
  obtain ⟨w3, w4, q3, q4, k3, k4, ds, hd, hdl⟩ := over_mem hk2 (Nat.le_refl _) hZ hNN
  have hlen : (overL s p b).length = (bstr s).size := by have := congrArg List.length hdl; rw [hNN]; unfold overL; simp; omega
  generalize (bstr s).size = N at *
  have HROW := Lib.hid (show Row w4 (.slice (some ⟨w1.heap.size, 0, none⟩) N N) ((overL s p b).map u8v) from .inr ⟨w1.heap.size, 0, N, by simp [hlen], by simp [hlen], hml, fun i x hx => by rw [Nat.zero_add, hd.cell, ← Array.getElem?_toList, hdl]; exact hx⟩)
  have HKE := Lib.hid (HK.out.trans k4)
  have HST := Lib.hid (show (convert 53 9 (.slice (some ⟨w1.heap.size, 0, none⟩) N N)).run Tryz.prog w4 = .ok (.string (bstr (overL s p b))) w4 from HROW.out.str Tryz.underlying53 Tryz.underlying5 Tryz.underlying9)
  have hcut : ∀ w', (Instr.slice 53 (.slice (some ⟨w1.heap.size, 0, none⟩) N N) (some (.int .i64 (p : Int))) none none).run Tryz.prog w' = .ok (cutv (some ⟨w1.heap.size, 0, none⟩) p N N) w' := fun w' => run_cut_l w' Tryz.underlying53 (by intro w; kernel_rfl) _ N N p hpN
  have d0 : w3.cell? ⟨R, 0, none⟩ = some (.int .i64 (p : Int)) := by rw [(HP.out.keeps k3).cell]; rfl
  have d1 : w3.cell? ⟨R, 1, none⟩ = some (.string (bstr b)) := by rw [(HP.out.keeps k3).cell]; rfl
  have Hq4 := Lib.hid q4
  clear hNN hW hk2 hZ hml hd hdl hmm HM k3 k4 c0 c1 hlen q4
  generalize w1.heap.size = Z at *
  go_upto_region 3 with fail
  have hq4 := Hq4.out
  go_region
  all_goals
   have hst := HST.out
   go_wp2_with fail
   go_ret
   exact ⟨rfl, HKE.out⟩
end Vd
end Go.Proofs.YtcleakjjefmmbaaGreat

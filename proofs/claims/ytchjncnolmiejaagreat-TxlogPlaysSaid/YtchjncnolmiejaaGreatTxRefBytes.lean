/- The document's bytes of a transaction. -/
import Derived.Test.YtchjncnolmiejaaGreatK13
import Derived.Test.YtchjncnolmiejaaGreatFrameRef
namespace Go.Proofs.YtchjncnolmiejaaGreat
open Go.RowKit
namespace Txl
open Oct Frm
theorem wrapU {n : Nat} (h : n < 18446744073709551616) : IntKind.u64.wrap (n : Int) = (n : Int) := by rw [IntKind.wrap_u64]; omega
theorem bstr_data (l : List UInt8) : (bstr l).data.toList = l := by simp [bstr]
theorem rput17_any (n : Nat) (hn : n < 9223372036854775808) (k : Int) (w : World) : Calls Tryz.prog 47 #[.int .i64 (n : Int), .int .i64 k] w fun e w' => e = .returned (.string (bstr (putL n k))) ∧ Keeps w w' := by
 have hw := wrapU (n := n) (by omega)
 go_enter Tryz.func47, Tryz.ntmps47
 go_wp2_with fail
 refine (rPut_any n (by omega) k _).mono ?_
 rintro e w1 ⟨b, rfl, hown1, hK1⟩
 have hst := Frm.str_at' hown1.row
 clear hown1
 go_wp2_with fail
 go_ret
 exact ⟨rfl, hK1⟩
set_option maxRecDepth 100000 in
set_option maxHeartbeats 4000000 in
theorem rtxBytes_any (n : Int) (hn : n ≤ 9223372036854775807) (v : Value) (l : List (Value × List UInt8)) (w : World) (hr : Row w v (l.map (·.1))) (hp : ∀ x ∈ l, payOk w x) : Calls Tryz.prog 13 #[.int .i64 n, v] w (RetSI w (txL n (l.map (·.2))) (txE n (l.map (·.2)))) := by
 have hlen : (l.map (·.2)).length = l.length := by simp
 obtain ⟨p, cap, rfl, hc1, hc2⟩ := hr.form
 rw [List.length_map] at hc1 ⊢
 have HR := Lib.hid hr
 have HP := Lib.hid hp
 unfold maxLen at hc2
 clear hr hp
 by_cases h1 : n < 1
 ·have HF := Lib.hid (fun w' (hK : Keeps w w') => retSI_fail (items := l.map (·.2)) (txE_1 h1) (by decide) hK)
  go_enter Tryz.func13, Tryz.ntmps13
  go_wp2_with fail
  go_ret2
  exact HF.out _ (Keeps.refl _)
 by_cases h2 : 1000 < l.length
 ·have HF := Lib.hid (fun w' (hK : Keeps w w') => retSI_fail (txE_4 (items := l.map (·.2)) h1 (by omega)) (by decide) hK)
  go_enter Tryz.func13, Tryz.ntmps13
  go_wp2_with fail
  go_ret2
  exact HF.out _ (Keeps.refl _)
 obtain ⟨N, rfl⟩ := Int.eq_ofNat_of_zero_le (show 0 ≤ n by omega)
 have HBIG := Lib.hid (fun j (hj : j < l.length) (hb : 4096 < l[j].2.length) w' (hK : Keeps w w') => retSI_fail (txE_big (items := l.map (·.2)) h1 (by omega) (j := j) (by omega) (by simpa using hb)) (by decide) hK)
 have HOK := Lib.hid (fun (hb : ∀ x ∈ l, x.2.length ≤ 4096) => show txE (N : Int) (l.map (·.2)) = 0 ∧ txL (N : Int) (l.map (·.2)) = headL N l.length ++ itemsL (l.map (·.2)) ++ endL N from by
  have h0 := txE_0 (n := (N : Int)) (items := l.map (·.2)) h1 (by omega) (fun x hx => by obtain ⟨y, hy, rfl⟩ := List.mem_map.1 hx; exact hb y hy)
  refine ⟨h0, ?_⟩
  unfold txL
  rw [if_pos h0, hlen]
  rfl)
 have HN1 := Lib.hid (rput17_any N (by omega) 8)
 have HN2 := Lib.hid (rput17_any l.length (by omega) 2)
 rw [putL8 (by omega)] at HN1
 rw [putL2 (by omega)] at HN2
 have hNb : (N : Int) ≤ 9223372036854775807 := hn
 have hN1 : (1 : Int) ≤ (N : Int) := by omega
 clear h1 hn hlen
 go_enter Tryz.func13, Tryz.ntmps13
 go_wp2_with fail
 refine (HN1.out _).mono ?_
 rintro e wa ⟨rfl, hka⟩
 go_wp2_with fail
 refine (HN2.out _).mono ?_
 rintro e wb ⟨rfl, hkb⟩
 have HKB := Lib.hid (hka.trans hkb)
 have hcat : bstr (be 8 N) ++ bstr (be 2 l.length) = bstr (numL N (l.length : Int)) := by
  rw [bstr_append]
  unfold numL
  rw [if_pos (by omega)]
  rfl
 have hz1 : (bstr (be 8 N)).size = 8 := by rw [bstr_size, be_length]
 have hz2 : (bstr (be 2 l.length)).size = 2 := by rw [bstr_size, be_length]
 have hz3 : (bstr (numL N (l.length : Int))).size = (numL N (l.length : Int)).length := bstr_size _
 have hz4 := numL_len N (l.length : Int)
 obtain ⟨cc, w1, hcv, hrow, hk1⟩ := str_bytes (P := Tryz.prog) wb Tryz.underlying22 Tryz.underlying5 str9 (bstr (numL N (l.length : Int))) (by rw [bstr_size]; unfold maxLen; omega)
 rw [hz3] at hcv hrow
 have HRW := Lib.hid (show Row w1 _ ((numL N (l.length : Int)).map u8v) from by have := hrow; rw [bstr_data] at this; exact this)
 have HK1 := Lib.hid (HKB.out.trans hk1)
 clear hka hkb hrow hk1 hz3
 have HW := Lib.hid (rWrap_any 32 _ _ w1 HRW.out)
 go_wp2_with fail
 refine HW.out.mono ?_
 rintro e w2 ⟨v2, rfl, ho2, hk2⟩
 have HK2 := Lib.hid (HK1.out.trans hk2)
 have HO2 := Lib.hid (show Own w2 w.heap.size 5 v2 ((headL N l.length).map u8v) from ho2.lower HK1.out.size)
 clear hcv hcat hz1 hz2 hz4
 have HWE := Lib.hid (show wrapE 32 (numL N (l.length : Int)).length = 0 from by
  unfold wrapE
  have := numL_len N (l.length : Int)
  rw [if_neg (by omega), if_neg (by omega)])
 clear ho2 hk2 HW
 obtain ⟨q2, n2, c2, rfl⟩ := HO2.out.sl
 go_wp2_with fail
 go_loopw [6, 8] (fun ov iv wr => ∃ (j : Nat) (po : Option Addr) (no co : Nat), iv = .int .i64 (j : Int) ∧ j ≤ l.length ∧ ov = .slice po no co ∧ Hid (Own wr w.heap.size 5 (.slice po no co) ((headL N l.length ++ itemsL ((l.map (·.2)).take j)).map u8v)) ∧ Hid (Keeps w wr) ∧ Hid (∀ x ∈ l.take j, x.2.length ≤ 4096)) (fun _ iv _ => l.length - (intOf iv).toNat)
 case atStart => exact ⟨0, q2, n2, c2, rfl, Nat.zero_le _, rfl, Lib.hid (by simpa [itemsL] using HO2.out), HK2, Lib.hid (by simp)⟩
 case round =>
  clear HO2 HK2
  obtain ⟨j, po, no, co, rfl, hj, rfl, HO, HK, HL⟩ := hrel
  by_cases hlt : j < l.length
  ·obtain ⟨b, off, cap', hv, hc⟩ := row_cells HR.out (by rw [List.length_map]; omega)
   rw [List.length_map] at hv
   simp only [Value.slice.injEq] at hv
   obtain ⟨rfl, -, rfl⟩ := hv
   have hcell : wr.cell? ⟨b, off + j, none⟩ = some l[j].1 := by
    have := hc.out j l[j].1 (by simp [hlt])
    rw [HK.out.cell (p := ⟨b, off + j, none⟩) (lt_of_cell this)]
    exact this
   have HPY := Lib.hid ((HP.out l[j] (List.getElem_mem hlt)).keeps HK.out)
   have HT := Lib.hid (show l.take (j + 1) = l.take j ++ [l[j]] from List.take_succ_eq_append_getElem hlt)
   have HIT := Lib.hid (show itemsL ((l.map (·.2)).take (j + 1)) = itemsL ((l.map (·.2)).take j) ++ wrapL 33 l[j].2 from by rw [itemsL_take (by simpa using hlt)]; simp)
   have HBJ := Lib.hid (fun hb => HBIG.out j hlt hb)
   have hlj : (j : Int) < (l.length : Int) := by omega
   have HLE := Lib.hid (show (headL N l.length ++ itemsL ((l.map (·.2)).take j)).length ≤ 9000000 from by
    have h1 := headL_le N l.length
    have h2 := itemsL_le (items := (l.map (·.2)).take j) (fun x hx => by
     rw [← List.map_take] at hx
     obtain ⟨y, hy, rfl⟩ := List.mem_map.1 hx
     exact HL.out y hy)
    have h3 : ((l.map (·.2)).take j).length ≤ 1000 := by rw [List.length_take, List.length_map]; omega
    have h4 : ((l.map (·.2)).take j).length * 8211 ≤ 1000 * 8211 := Nat.mul_le_mul_right _ h3
    rw [List.length_append]
    omega)
   clear hc
   generalize l[j] = y at *
   obtain ⟨yv, yl⟩ := y
   simp only at hcell HPY HIT HBJ
   obtain ⟨pq, cq, rfl, -, -⟩ := (show Row wr yv (yl.map u8v) from HPY.out).formB
   by_cases hbig : 4096 < yl.length
   ·go_wp2_with fail
    go_ret2
    exact HBJ.out hbig _ HK.out
   ·have HW := Lib.hid (rWrap_any 33 (.slice pq yl.length cq) yl wr HPY.out)
    have HWL := Lib.hid (wrapL_le 33 yl)
    go_wp2_with fail
    refine HW.out.mono ?_
    rintro e w3 ⟨v3, rfl, ho3, hk3⟩
    have HO3 := Lib.hid ho3
    have HOa := Lib.hid (HO.out.keeps hk3)
    have HK3 := Lib.hid (HK.out.trans hk3)
    have hs3 := HK3.out.size
    clear ho3 hk3 HW
    obtain ⟨q3, n3, c3, rfl⟩ := HO3.out.sl
    go_wp2_with (at_builtin; refine wpList_app1 (base := w.heap.size) u8ok rfl _ _ rfl (.slice po no co) (.slice q3 n3 c3) _ ((wrapL 33 yl).map u8v) rfl rfl HOa.out HO3.out.row (oneCell_map_u8 _) (by rw [List.length_map, List.length_map]; have := HLE.out; have := HWL.out; omega) (by decide) hs3 ?_; intro v4 w4 ho4 hg4 hf4; obtain ⟨p4, n4, c4, rfl⟩ := ho4.sl; have HO4 := Lib.hid ho4; have HK4 := Lib.hid (HK3.out.grown hg4 (fun k hk => HOa.out.base k hk)); clear ho4 hg4 hf4)
    go_roundw
    case rel =>
     refine ⟨j + 1, p4, n4, c4, by simp, by omega, rfl, Lib.hid ?_, HK4, Lib.hid ?_⟩
     ·rw [HIT.out, ← List.append_assoc, List.map_append]
      exact HO4.out
     ·rw [HT.out]
      intro x hx
      rcases List.mem_append.1 hx with hx | hx
      ·exact HL.out x hx
      ·simp at hx; subst hx; show yl.length ≤ 4096; omega
    case measure =>
     simp only [intOf]
     omega
  ·have hjn : j = l.length := by omega
   have hlt' : decide ((j : Int) < (l.length : Int)) = false := by simp; omega
   obtain ⟨h0, hL⟩ := HOK.out (fun x hx => HL.out x (by rw [hjn, List.take_length]; exact hx))
   have HE0 := Lib.hid h0
   have HLL := Lib.hid hL
   have HO := Lib.hid (show Own wr w.heap.size 5 (.slice po no co) ((headL N l.length ++ itemsL (l.map (·.2))).map u8v) from by
    have := HO.out
    rw [List.take_of_length_le (by simp; omega)] at this
    exact this)
   have HLE := Lib.hid (show (headL N l.length ++ itemsL (l.map (·.2))).length ≤ 9000000 from by
    have h1 := headL_le N l.length
    have h2 := itemsL_le (items := l.map (·.2)) (fun x hx => by
     obtain ⟨y, hy, rfl⟩ := List.mem_map.1 hx
     exact HL.out y (by rw [hjn, List.take_length]; exact hy))
    have h4 : (l.map (·.2)).length * 8211 ≤ 1000 * 8211 := Nat.mul_le_mul_right _ (by rw [List.length_map]; omega)
    rw [List.length_append]
    omega)
   have HN1 := Lib.hid (rput17_any N (by omega) 8 wr)
   rw [putL8 (by omega)] at HN1
   have HEL := Lib.hid (endL_le N)
   clear h0 hL hjn
   go_wp2_with fail
   refine HN1.out.mono ?_
   rintro e wa ⟨rfl, hka⟩
   have HXE := Lib.hid (show be 8 N = numL N (-1) from by unfold numL; rw [if_neg (by omega), List.append_nil])
   have hz1 : (bstr (be 8 N)).size = 8 := by rw [bstr_size, be_length]
   obtain ⟨cc, w3, hcv, hrow, hk3⟩ := str_bytes (P := Tryz.prog) wa Tryz.underlying22 Tryz.underlying5 str9 (bstr (be 8 N)) (by rw [bstr_size, be_length]; unfold maxLen; omega)
   rw [hz1] at hcv hrow
   rw [bstr_data] at hrow
   have HW := Lib.hid (rWrap_any 34 _ _ w3 hrow)
   rw [HXE.out] at HW
   have HK3 := Lib.hid ((HK.out.trans hka).trans hk3)
   have HOa := Lib.hid ((HO.out.keeps hka).keeps hk3)
   clear hk3 hka hrow HN1
   go_wp2_with fail
   refine HW.out.mono ?_
   rintro e w4 ⟨v4, rfl, ho4, hk4⟩
   have HO4 := Lib.hid (show Own w4 w3.heap.size 5 v4 ((endL N).map u8v) from ho4)
   have HOb := Lib.hid (HOa.out.keeps hk4)
   have HK4 := Lib.hid (HK3.out.trans hk4)
   have hs4 := HK4.out.size
   clear ho4 hk4 HW
   obtain ⟨q4, n4, c4, rfl⟩ := HO4.out.sl
   go_wp2_with (at_builtin; refine wpList_app1 (base := w.heap.size) u8ok rfl _ _ rfl (.slice po no co) (.slice q4 n4 c4) _ ((endL N).map u8v) rfl rfl HOb.out HO4.out.row (oneCell_map_u8 _) (by rw [List.length_map, List.length_map]; have := HLE.out; have := HEL.out; omega) (by decide) hs4 ?_; intro v5 w5 ho5 hg5 hf5; obtain ⟨p5, n5, c5, rfl⟩ := ho5.sl; have HO5 := Lib.hid ho5; have HK5 := Lib.hid (HK4.out.grown hg5 (fun k hk => HOb.out.base k hk)); clear ho5 hg5 hf5)
   go_ret2
   rw [HE0.out, HLL.out]
   exact ⟨_, rfl, by rw [List.map_append]; exact HO5.out, HK5.out⟩
end Txl
end Go.Proofs.YtchjncnolmiejaaGreat

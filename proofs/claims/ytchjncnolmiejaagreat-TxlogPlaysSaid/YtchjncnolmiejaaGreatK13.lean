/- Several texts in one: FrameRows, TxBytes, VdActs. -/
import Derived.Test.YtchjncnolmiejaaGreatK09
import Derived.Test.YtchjncnolmiejaaGreatK04
import Derived.Test.YtchjncnolmiejaaGreatK11
import Derived.Test.YtchjncnolmiejaaGreatLawKit
import Derived.Test.YtchjncnolmiejaaGreatDrawn
import Derived.Test.YtchjncnolmiejaaGreatK07
import Derived.Test.YtchjncnolmiejaaGreatK00
/- Lists of payloads: how they lie in memory; Bulk, and the law's rows. -/
namespace Go.Proofs.YtchjncnolmiejaaGreat
open Go.RowKit
namespace Frm
open Oct

theorem row_cells {w : World} {v : Value} {l : List Value} (h : Row w v l) (hl : 0 < l.length) : ∃ b off cap, v = .slice (some ⟨b, off, none⟩) l.length cap ∧ Hid (∀ i x, l[i]? = some x → w.cell? ⟨b, off + i, none⟩ = some x) := by
 rcases h with ⟨a0, cap', rfl, hl0, -, -⟩ | ⟨b, off, cap', rfl, h1, h2, hcell⟩
 ·rw [hl0] at hl
  simp at hl
 ·exact ⟨b, off, cap', rfl, Lib.hid hcell⟩

/-- a payload in memory: its slice, its bytes -/
def payC (x : Value × List UInt8) : List Value := [x.1]
theorem payC_len (x : Value × List UInt8) : (payC x).length = 1 := rfl
def payOk (w : World) (x : Value × List UInt8) : Prop := Row w x.1 (x.2.map u8v)
theorem pay_map (l : List (Value × List UInt8)) : l.flatMap payC = l.map (·.1) := by
 induction l with
 | nil => rfl
 | cons x l ih => simp only [List.flatMap_cons, List.map_cons, ih]; rfl
theorem c5 : Tryz.prog.cellsOf 5 = 1 := by kernel_rfl
theorem c22 : Tryz.prog.cellsOf 22 = 1 := by kernel_rfl
theorem opens_pay {H : Type} {enc : TypeId × Value → H} {w : World} {base : Nat} {sp : Nat → Bool} {held : Bool} : Opens enc Tryz.prog w base sp held 22 payC (payOk w) := by
 have h := opens_slice (enc := enc) (w := w) (base := base) (sp := sp) (held := held) Tryz.underlying22 c5 (by decide) (fun _ => rfl) (opens_int (enc := enc) (P := Tryz.prog) (w := w) (base := base) (sp := sp) (held := held) Tryz.underlying5)
 refine opens_map h (fun x => (x.1, x.2.map fun n => UInt8.ofNat n.toNat)) (fun x _ => rfl) ?_
 rintro ⟨v, zs⟩ ⟨hr, hw⟩
 have e1 : zs.flatMap (fun a : Int => [Value.int .u8 a]) = zs.map (.int .u8) := by
  clear hr hw
  induction zs with
  | nil => rfl
  | cons z zs ih => simp only [List.flatMap_cons, List.map_cons, ih]; rfl
 have : (zs.map fun n => UInt8.ofNat n.toNat).map u8v = zs.map (.int .u8) := by
  rw [List.map_map]
  refine List.map_congr_left fun n hn => ?_
  have hb : 0 ≤ n ∧ n ≤ 255 := by simpa [Lit.wf, IntKind.min, IntKind.max, IntKind.signed, IntKind.bits] using hw n hn
  simp [u8v]
  omega
 unfold payOk
 simp only
 rw [this, ← e1]
 exact hr.row

def BulkDid (l : List (Value × List UInt8)) (w : World) (e : Ending) (w' : World) : Prop :=
 ∃ n : Nat, e = .returned (.int .i64 (n : Int)) ∧ (n ≤ 1000 → ∀ x ∈ l, x.2.length ≤ 1000) ∧ w = w'

/-- kinds and payloads -/
def zipF (ks : List UInt8) (l : List (Value × List UInt8)) : List (Nat × List UInt8) := List.zipWith (fun k x => (k.toNat, x.2)) ks l
def endsL (F : List (Nat × List UInt8)) (n : Nat) : List Value := (List.range n).map fun i => .int .i64 (endAt F i : Nat)
def RowsDid (F : List (Nat × List UInt8)) (n : Nat) (W : World) (e : Ending) (w' : World) : Prop :=
 ∃ va ve, e = .returned (.tuple #[va, ve]) ∧ Own w' W.heap.size 5 va ((cat F).map u8v) ∧ Own w' W.heap.size 3 ve (endsL F n) ∧ Keeps W w'
end Frm
end Go.Proofs.YtchjncnolmiejaaGreat

/- txlog.numbers, txlog.Bytes. -/
namespace Go.Proofs.YtchjncnolmiejaaGreat
open Go.RowKit
namespace Txl
open Oct Frm
theorem be8_len (n : Nat) : (be 8 n).length = 8 := be_length 8 n
set_option maxRecDepth 100000 in
set_option maxHeartbeats 1000000 in
theorem numbers_any (n : Nat) (hn : n < 9223372036854775808) (c : Int) (hc : -1 ≤ c ∧ c ≤ 1000) (w : World) : Calls Tryz.prog 80 #[.int .i64 (n : Int), .int .i64 c] w (RetS w (numL n c)) := by
 have HP := Lib.hid (show [] ++ putL n 8 = be 8 n from by rw [putL8 (by omega)]; rfl)
 have h8 := be8_len n
 have H8 := Lib.hid h8
 clear h8
 go_enter Tryz.func80, Tryz.ntmps80
 go_wp2_with fail
 refine (newSink_any _).mono ?_
 rintro e w1 ⟨g, rfl, hg, hSk, hK1⟩
 have hs := Sole.new hSk hg hK1
 have HC := Lib.hid (sinkU_any g _ [] n (by omega) 8 w1 hSk (by simp))
 have HSo := Lib.hid hs
 clear hSk hs hK1 hg
 go_wp2_with fail
 refine HC.out.mono ?_
 rintro e w2 ⟨v2, rfl, hS, hM, hF⟩
 have hs := HSo.out.did hS hM hF
 rw [HP.out] at hs
 have HSo := Lib.hid hs
 clear hS hM hF hs HC
 by_cases h : 0 ≤ c
 ·obtain ⟨k, rfl⟩ := Int.eq_ofNat_of_zero_le h
  have HX := Lib.hid (show be 8 n ++ putL k 2 = numL n (k : Int) from by unfold numL; rw [putL2 (by omega), if_pos h]; rfl)
  have hk : (k : Int) ≤ 1000 := hc.2
  have HC := Lib.hid (sinkU_any g _ _ k (by omega) 2 w2 HSo.out.sink (by rw [H8.out]; omega))
  go_wp2_with fail
  refine HC.out.mono ?_
  rintro e w3 ⟨v3, rfl, hS, hM, hF⟩
  have hs := HSo.out.did hS hM hF
  rw [HX.out] at hs
  have HSo := Lib.hid hs
  clear hS hM hF hs HC
  have HC := Lib.hid (sinkBytes_any g _ _ w3 HSo.out.sink (by have := numL_len n (k : Int); omega))
  go_wp2_with fail
  refine HC.out.mono ?_
  rintro e w4 ⟨b4, rfl, hown4, hK4⟩
  go_wp2_with fail
  go_ret
  have hsz := HSo.out.keeps.size
  exact ⟨_, rfl, hown4.lower hsz, HSo.out.keeps.trans hK4⟩
 ·have HX := Lib.hid (show be 8 n = numL n c from by unfold numL; rw [if_neg h, List.append_nil])
  have h' : c < 0 := by omega
  clear h
  rw [HX.out] at HSo
  have HC := Lib.hid (sinkBytes_any g _ _ w2 HSo.out.sink (by have := numL_len n c; omega))
  go_wp2_with fail
  refine HC.out.mono ?_
  rintro e w4 ⟨b4, rfl, hown4, hK4⟩
  go_wp2_with fail
  go_ret
  have hsz := HSo.out.keeps.size
  exact ⟨_, rfl, hown4.lower hsz, HSo.out.keeps.trans hK4⟩
theorem txE_1 {n : Int} {items : List Item} (h : n < 1) : txE n items = 1 := if_pos h
theorem txE_4 {n : Int} {items : List Item} (h : ¬ n < 1) (h2 : 1000 < items.length) : txE n items = 4 := by unfold txE; rw [if_neg h, if_pos h2]
theorem txE_big {n : Int} {items : List Item} (h : ¬ n < 1) (h2 : ¬ 1000 < items.length) {j : Nat} (hj : j < items.length) (hb : 4096 < items[j].length) : txE n items = 4 := by
 unfold txE
 rw [if_neg h, if_neg h2, if_pos (List.any_eq_true.2 ⟨_, List.getElem_mem hj, by simpa [bigB] using hb⟩)]
theorem txE_0 {n : Int} {items : List Item} (h : ¬ n < 1) (h2 : ¬ 1000 < items.length) (hb : ∀ x ∈ items, x.length ≤ 4096) : txE n items = 0 := by
 unfold txE
 rw [if_neg h, if_neg h2, if_neg]
 intro hh
 obtain ⟨x, hx, hy⟩ := List.any_eq_true.1 hh
 have := hb x hx
 simp [bigB] at hy
 omega
theorem txL_0 {n : Int} {items : List Item} (h : txE n items ≠ 0) : txL n items = [] := if_neg h
theorem retSI_fail {W : World} {n : Int} {items : List Item} {k : Int} (h : txE n items = k) (hk : k ≠ 0) {w' : World} (hK : Keeps W w') : RetSI W (txL n items) (txE n items) (.returned (.tuple #[.slice none 0 0, .int .i64 k])) w' := by
 rw [txL_0 (by rw [h]; exact hk), h]
 exact ⟨_, rfl, Own.nil _ _ _, hK⟩
set_option maxRecDepth 100000 in
set_option maxHeartbeats 4000000 in
theorem txBytes_any (n : Int) (hn : n ≤ 9223372036854775807) (v : Value) (l : List (Value × List UInt8)) (w : World) (hr : Row w v (l.map (·.1))) (hp : ∀ x ∈ l, payOk w x) : Calls Tryz.prog 29 #[.int .i64 n, v] w (RetSI w (txL n (l.map (·.2))) (txE n (l.map (·.2)))) := by
 have hlen : (l.map (·.2)).length = l.length := by simp
 obtain ⟨p, cap, rfl, hc1, hc2⟩ := hr.form
 rw [List.length_map] at hc1 ⊢
 have HR := Lib.hid hr
 have HP := Lib.hid hp
 unfold maxLen at hc2
 clear hr hp
 by_cases h1 : n < 1
 ·have HF := Lib.hid (fun w' (hK : Keeps w w') => retSI_fail (items := l.map (·.2)) (txE_1 h1) (by decide) hK)
  go_enter Tryz.func29, Tryz.ntmps29
  go_wp2_with fail
  go_ret2
  exact HF.out _ (Keeps.refl _)
 by_cases h2 : 1000 < l.length
 ·have HF := Lib.hid (fun w' (hK : Keeps w w') => retSI_fail (txE_4 (items := l.map (·.2)) h1 (by omega)) (by decide) hK)
  go_enter Tryz.func29, Tryz.ntmps29
  go_wp2_with fail
  go_ret2
  exact HF.out _ (Keeps.refl _)
 obtain ⟨N, rfl⟩ := Int.eq_ofNat_of_zero_le (show 0 ≤ n by omega)
 have HBIG := Lib.hid (fun j (hj : j < l.length) (hb : 4096 < l[j].2.length) w' (hK : Keeps w w') => retSI_fail (txE_big (items := l.map (·.2)) h1 (by omega) (j := j) (by omega) (by simpa using hb)) (by decide) hK)
 have HOK := Lib.hid (fun (hb : ∀ x ∈ l, x.2.length ≤ 4096) => show txE (N : Int) (l.map (·.2)) = 0 ∧ txL (N : Int) (l.map (·.2)) = headL N l.length ++ itemsL (l.map (·.2)) ++ endL N from by
  have h0 := txE_0 (n := (N : Int)) (items := l.map (·.2)) h1 (by omega) (fun x hx => by obtain ⟨y, hy, rfl⟩ := List.mem_map.1 hx; exact hb y hy)
  refine ⟨h0, ?_⟩
  unfold txL
  rw [if_pos h0, hlen]
  rfl)
 have HN1 := Lib.hid (numbers_any N (by omega) (l.length : Int) (by omega) w)
 have hNb : (N : Int) ≤ 9223372036854775807 := hn
 have hN1 : (1 : Int) ≤ (N : Int) := by omega
 clear h1 hn hlen
 go_enter Tryz.func29, Tryz.ntmps29
 go_wp2_with fail
 refine HN1.out.mono ?_
 rintro e w1 ⟨v1, rfl, ho1, hk1⟩
 have HW := Lib.hid (wrap_any 32 v1 _ w1 ho1.row)
 have HK1 := Lib.hid hk1
 clear hk1 ho1 HN1
 go_wp2_with fail
 refine HW.out.mono ?_
 rintro e w2 ⟨v2, rfl, ho2, hk2⟩
 have HK2 := Lib.hid (HK1.out.trans hk2)
 have HO2 := Lib.hid (show Own w2 w.heap.size 5 v2 ((headL N l.length).map u8v) from ho2.lower HK1.out.size)
 have HWE := Lib.hid (show wrapE 32 (numL N (l.length : Int)).length = 0 from by
  unfold wrapE
  have := numL_len N (l.length : Int)
  rw [if_neg (by omega), if_neg (by omega)])
 clear ho2 hk2 HW
 obtain ⟨q2, n2, c2, rfl⟩ := HO2.out.sl
 go_wp2_with fail
 go_loopw [6, 29] (fun ov iv wr => ∃ (j : Nat) (po : Option Addr) (no co : Nat), iv = .int .i64 (j : Int) ∧ j ≤ l.length ∧ ov = .slice po no co ∧ Hid (Own wr w.heap.size 5 (.slice po no co) ((headL N l.length ++ itemsL ((l.map (·.2)).take j)).map u8v)) ∧ Hid (Keeps w wr) ∧ Hid (∀ x ∈ l.take j, x.2.length ≤ 4096)) (fun _ iv _ => l.length - (intOf iv).toNat)
 case atStart => exact ⟨0, q2, n2, c2, rfl, Nat.zero_le _, rfl, Lib.hid (by simpa [itemsL] using HO2.out), HK2, Lib.hid (by simp)⟩
 case round =>
  clear HO2 HK2
  obtain ⟨j, po, no, co, rfl, hj, rfl, HO, HK, HL⟩ := hrel
  by_cases hlt : j < l.length
  ·obtain ⟨b, off, cap', hv, hc⟩ := row_cells HR.out (by rw [List.length_map]; omega)
   rw [List.length_map] at hv
   simp only [Value.slice.injEq] at hv
   obtain ⟨rfl, -, rfl⟩ := hv
   have hcell : wr.cell? ⟨b, off + j, none⟩ = some l[j].1 := by
    have := hc.out j l[j].1 (by simp [hlt])
    rw [HK.out.cell (p := ⟨b, off + j, none⟩) (lt_of_cell this)]
    exact this
   have HPY := Lib.hid ((HP.out l[j] (List.getElem_mem hlt)).keeps HK.out)
   have HT := Lib.hid (show l.take (j + 1) = l.take j ++ [l[j]] from List.take_succ_eq_append_getElem hlt)
   have HIT := Lib.hid (show itemsL ((l.map (·.2)).take (j + 1)) = itemsL ((l.map (·.2)).take j) ++ wrapL 33 l[j].2 from by rw [itemsL_take (by simpa using hlt)]; simp)
   have HBJ := Lib.hid (fun hb => HBIG.out j hlt hb)
   have hlj : (j : Int) < (l.length : Int) := by omega
   have HLE := Lib.hid (show (headL N l.length ++ itemsL ((l.map (·.2)).take j)).length ≤ 9000000 from by
    have h1 := headL_le N l.length
    have h2 := itemsL_le (items := (l.map (·.2)).take j) (fun x hx => by
     rw [← List.map_take] at hx
     obtain ⟨y, hy, rfl⟩ := List.mem_map.1 hx
     exact HL.out y hy)
    have h3 : ((l.map (·.2)).take j).length ≤ 1000 := by rw [List.length_take, List.length_map]; omega
    have h4 : ((l.map (·.2)).take j).length * 8211 ≤ 1000 * 8211 := Nat.mul_le_mul_right _ h3
    rw [List.length_append]
    omega)
   clear hc
   generalize l[j] = y at *
   obtain ⟨yv, yl⟩ := y
   simp only at hcell HPY HIT HBJ
   obtain ⟨pq, cq, rfl, -, -⟩ := (show Row wr yv (yl.map u8v) from HPY.out).formB
   by_cases hbig : 4096 < yl.length
   ·go_wp2_with fail
    go_ret2
    exact HBJ.out hbig _ HK.out
   ·have HW := Lib.hid (wrap_any 33 (.slice pq yl.length cq) yl wr HPY.out)
    have HWL := Lib.hid (wrapL_le 33 yl)
    go_wp2_with fail
    refine HW.out.mono ?_
    rintro e w3 ⟨v3, rfl, ho3, hk3⟩
    have HO3 := Lib.hid ho3
    have HOa := Lib.hid (HO.out.keeps hk3)
    have HK3 := Lib.hid (HK.out.trans hk3)
    have hs3 := HK3.out.size
    clear ho3 hk3 HW
    obtain ⟨q3, n3, c3, rfl⟩ := HO3.out.sl
    go_wp2_with (at_builtin; refine wpList_app1 (base := w.heap.size) u8ok rfl _ _ rfl (.slice po no co) (.slice q3 n3 c3) _ ((wrapL 33 yl).map u8v) rfl rfl HOa.out HO3.out.row (oneCell_map_u8 _) (by rw [List.length_map, List.length_map]; have := HLE.out; have := HWL.out; omega) (by decide) hs3 ?_; intro v4 w4 ho4 hg4 hf4; obtain ⟨p4, n4, c4, rfl⟩ := ho4.sl; have HO4 := Lib.hid ho4; have HK4 := Lib.hid (HK3.out.grown hg4 (fun k hk => HOa.out.base k hk)); clear ho4 hg4 hf4)
    go_roundw
    case rel =>
     refine ⟨j + 1, p4, n4, c4, by simp, by omega, rfl, Lib.hid ?_, HK4, Lib.hid ?_⟩
     ·rw [HIT.out, ← List.append_assoc, List.map_append]
      exact HO4.out
     ·rw [HT.out]
      intro x hx
      rcases List.mem_append.1 hx with hx | hx
      ·exact HL.out x hx
      ·simp at hx; subst hx; show yl.length ≤ 4096; omega
    case measure =>
     simp only [intOf]
     omega
  ·have hjn : j = l.length := by omega
   have hlt' : decide ((j : Int) < (l.length : Int)) = false := by simp; omega
   obtain ⟨h0, hL⟩ := HOK.out (fun x hx => HL.out x (by rw [hjn, List.take_length]; exact hx))
   have HE0 := Lib.hid h0
   have HLL := Lib.hid hL
   have HO := Lib.hid (show Own wr w.heap.size 5 (.slice po no co) ((headL N l.length ++ itemsL (l.map (·.2))).map u8v) from by
    have := HO.out
    rw [List.take_of_length_le (by simp; omega)] at this
    exact this)
   have HLE := Lib.hid (show (headL N l.length ++ itemsL (l.map (·.2))).length ≤ 9000000 from by
    have h1 := headL_le N l.length
    have h2 := itemsL_le (items := l.map (·.2)) (fun x hx => by
     obtain ⟨y, hy, rfl⟩ := List.mem_map.1 hx
     exact HL.out y (by rw [hjn, List.take_length]; exact hy))
    have h4 : (l.map (·.2)).length * 8211 ≤ 1000 * 8211 := Nat.mul_le_mul_right _ (by rw [List.length_map]; omega)
    rw [List.length_append]
    omega)
   have HN1 := Lib.hid (numbers_any N (by omega) (-1) (by omega) wr)
   have HEL := Lib.hid (endL_le N)
   clear h0 hL hjn
   go_wp2_with fail
   refine HN1.out.mono ?_
   rintro e w3 ⟨v3, rfl, ho3, hk3⟩
   have HW := Lib.hid (wrap_any 34 v3 _ w3 ho3.row)
   have HK3 := Lib.hid (HK.out.trans hk3)
   have HOa := Lib.hid (HO.out.keeps hk3)
   clear hk3 ho3 HN1
   go_wp2_with fail
   refine HW.out.mono ?_
   rintro e w4 ⟨v4, rfl, ho4, hk4⟩
   have HO4 := Lib.hid (show Own w4 w3.heap.size 5 v4 ((endL N).map u8v) from ho4)
   have HOb := Lib.hid (HOa.out.keeps hk4)
   have HK4 := Lib.hid (HK3.out.trans hk4)
   have hs4 := HK4.out.size
   clear ho4 hk4 HW
   obtain ⟨q4, n4, c4, rfl⟩ := HO4.out.sl
   go_wp2_with (at_builtin; refine wpList_app1 (base := w.heap.size) u8ok rfl _ _ rfl (.slice po no co) (.slice q4 n4 c4) _ ((endL N).map u8v) rfl rfl HOb.out HO4.out.row (oneCell_map_u8 _) (by rw [List.length_map, List.length_map]; have := HLE.out; have := HEL.out; omega) (by decide) hs4 ?_; intro v5 w5 ho5 hg5 hf5; obtain ⟨p5, n5, c5, rfl⟩ := ho5.sl; have HO5 := Lib.hid ho5; have HK5 := Lib.hid (HK4.out.grown hg5 (fun k hk => HOb.out.base k hk)); clear ho5 hg5 hf5)
   go_ret2
   rw [HE0.out, HLL.out]
   exact ⟨_, rfl, by rw [List.map_append]; exact HO5.out, HK5.out⟩
end Txl
end Go.Proofs.YtchjncnolmiejaaGreat

/- The acts of the disk's laws: how they lie in memory; few. -/
namespace Go.Proofs.YtchjncnolmiejaaGreat
open Go.RowKit
namespace Vd
structure Act where
 kind : Int
 a : Str
 b : Str
 n : Int
 code : Int
 kv : Value
 keep : List Int
def actC (x : Act) : List Value := [.int .i64 x.kind, .string (bstr x.a), .string (bstr x.b), .int .i64 x.n, .int .i64 x.code, x.kv]
structure ActOk (w : World) (x : Act) : Prop where
 a : x.a.length ≤ maxLen
 b : x.b.length ≤ maxLen
 n : (Lit.int .i64 x.n).wf = true
 row : Row w x.kv (x.keep.map (Value.int .i64))
theorem cI : Tryz.prog.cellsOf 3 = 1 := by kernel_rfl
theorem cInts : Tryz.prog.cellsOf 45 = 1 := by kernel_rfl
theorem cErrno : Tryz.prog.cellsOf 38 = 1 := by kernel_rfl
theorem ints_map (zs : List Int) : zs.flatMap (fun a : Int => [Value.int .i64 a]) = zs.map (.int .i64) := by
 induction zs with
 | nil => rfl
 | cons z zs ih => simp only [List.flatMap_cons, List.map_cons, ih]; rfl
def fewA (l : List Act) : Bool := decide (l.length ≤ 60) && l.all fun x => decide (x.a.length ≤ 100) && decide (x.b.length ≤ 100) && decide (x.keep.length ≤ 100)
end Vd
end Go.Proofs.YtchjncnolmiejaaGreat

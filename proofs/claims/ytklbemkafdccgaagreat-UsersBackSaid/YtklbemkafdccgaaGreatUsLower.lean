/- The document's Name; small letters, the program's and the document's. -/
import Derived.Test.YtklbemkafdccgaaGreatK04
import Derived.Test.YtklbemkafdccgaaGreatK01
import Derived.Deep.DeepCutAuto
import Derived.Deep.CutBlock
import Derived.Deep.LoopGhost
namespace Go.Proofs.YtklbemkafdccgaaGreat
open Go.RowKit
namespace Usr
open Adr (Str)
set_option maxRecDepth 100000 in
set_option maxHeartbeats 2000000 in
theorem rName_any (s : Str) (hs : s.length ≤ 1000000000000) (w : World) : Calls Tryz.prog 97 #[.string (bstr s)] w fun e w' => e = .returned (.bool (nameB s)) ∧ w = w' := by
 have HSZ := Lib.hid (bstr_size s)
 have HGE := Lib.hid (fun (j : Nat) (h : j < (bstr s).size) => show (bstr s)[j] = s[j]'(by rw [bstr_size] at h; exact h) from rfl)
 have HN := Lib.hid (fun (j : Nat) (h : j < s.length) => @nameB_bad s j h)
 have HT := Lib.hid (fun (j : Nat) (h : j < s.length) => @nameB_take s j h)
 have HB := Lib.hid (show nameB s = (s.all nameC && decide (s ≠ []) && decide (s.length ≤ 32)) from rfl)
 generalize nameB s = r at *
 go_enter Tryz.func97, Tryz.ntmps97
 go_wp2_with fail
 go_loopw [3] (fun i wr => ∃ j : Nat, i = .int .i64 (j : Int) ∧ j ≤ (bstr s).size ∧ Hid ((s.take j).all nameC = true) ∧ w = wr) (fun i _ => (bstr s).size - (intOf i).toNat)
 case atStart => exact ⟨0, rfl, Nat.zero_le _, Lib.hid rfl, rfl⟩
 case round =>
  obtain ⟨j, rfl, hj, HA, rfl⟩ := hrel
  by_cases hlt : j < (bstr s).size
  ·have hll : j < s.length := by rw [← HSZ.out]; exact hlt
   have hw : IntKind.i64.wrap ((j : Int) + 1) = (j : Int) + 1 := IntWalk.i64_in _ (by rw [bstr_size] at hlt; omega)
   have hge := HGE.out j hlt
   have HG := Lib.hid (fun h : nameC s[j] = true => HT.out j hll HA.out h)
   have HF := Lib.hid (fun h : nameC s[j] = false => HN.out j hll h)
   have HC := Lib.hid (show nameC s[j] = decide (97 ≤ s[j].toNat ∧ s[j].toNat ≤ 122 ∨ 48 ≤ s[j].toNat ∧ s[j].toNat ≤ 57 ∨ s[j].toNat = 46 ∨ s[j].toNat = 45 ∨ s[j].toNat = 95) from rfl)
   generalize nameC s[j] = nc at *
   generalize s[j] = c at *
   generalize hm : c.toNat = m at *
   clear hll
   go_wp2_with fail
   all_goals
    first
     |exact ⟨⟨j + 1, by simp, by omega, Lib.hid (HG.out (by rw [HC.out]; refine decide_eq_true ?_; simp only [Bool.not_eq_true', Bool.not_eq_false', decide_eq_true_eq, decide_eq_false_iff_not, bne_iff_ne, bne_eq_false_iff_eq, beq_iff_eq, beq_eq_false_iff_ne, ne_eq] at *; omega)), trivial⟩, (by simp only [intOf]; omega)⟩
     |go_ret
      refine ⟨retB (HF.out ?_).symm, rfl⟩
      rw [HC.out]
      refine decide_eq_false ?_
      simp only [Bool.not_eq_true', Bool.not_eq_false', decide_eq_true_eq, decide_eq_false_iff_not, bne_iff_ne, bne_eq_false_iff_eq, beq_iff_eq, beq_eq_false_iff_ne, ne_eq] at *
      omega
  ·have hje : j = s.length := by rw [HSZ.out] at hj hlt; omega
   have HL := Lib.hid (show s.all nameC = true from by have := HA.out; rwa [hje, List.take_length] at this)
   have HRX := Lib.hid (show r = (decide (s ≠ []) && decide (s.length ≤ 32)) from by rw [HB.out, HL.out]; rfl)
   have hsz := HSZ.out
   have HR0 := Lib.hid (show r = decide (1 ≤ s.length ∧ s.length ≤ 32) from by
    rw [HRX.out, Bool.decide_and]
    congr 1
    cases s <;> simp)
   clear hje
   go_wp2_with fail
   all_goals
    go_ret
    refine ⟨retB ?_, rfl⟩
    rw [HR0.out]
    rw [Bool.eq_iff_iff]
    simp
    try omega
theorem or32 {c : UInt8} (h1 : 65 ≤ c.toNat) (h2 : c.toNat ≤ 90) : c ||| 32 = c + 32 := by
 have h : ∀ n : Fin 256, 65 ≤ n.val → n.val ≤ 90 → (UInt8.ofNat n.val) ||| 32 = (UInt8.ofNat n.val) + 32 := by decide +kernel
 have := h ⟨c.toNat, c.toNat_lt⟩ h1 h2
 simpa using this
theorem or_bits (c : UInt8) : bits .or .u8 (c.toNat : Int) 32 = ((c ||| 32).toNat : Int) := by
 have h : ∀ n : Fin 256, bits .or .u8 (n.val : Int) 32 = (((UInt8.ofNat n.val) ||| 32).toNat : Int) := by decide +kernel
 have := h ⟨c.toNat, c.toNat_lt⟩
 simpa using this
/-- a block of a string's bytes: its mark lies behind them -/
def Mark (w : World) (g : Nat) (t : TypeId) (cs : Array Value) : Prop := w.heap[g]? = some (.cells cs t (cs.size, cs.size + 1))
section
variable {w : World} {g : Nat} {t : TypeId} {cs : Array Value}
theorem Mark.cell (h : Mark w g t cs) (i : Nat) : w.cell? ⟨g, i, none⟩ = cs[i]? := cell_of_row w g i cs t _ h
theorem Mark.frozen (h : Mark w g t cs) {i : Nat} (hi : i < cs.size) : w.frozen? ⟨g, i, none⟩ = false := by
 unfold Mark at h
 simp [World.frozen?, h]
 omega
theorem Mark.set_ (h : Mark w g t cs) (i : Nat) (u : Value) : Mark (w.setCell ⟨g, i, none⟩ u) g t (cs.setIfInBounds i u) := by
 unfold Mark at h ⊢
 simp [World.setCell, Array.getElem?_modify, h]
end
structure LowAt (w wr : World) (g n : Nat) (l : Str) : Prop where
 m : ∃ cs, Mark wr g 5 cs ∧ n ≤ cs.size ∧ cs.toList.take n = l.map u8v
 k : Keeps w wr
 gw : w.heap.size ≤ g
theorem LowAt.row {w wr : World} {g n c : Nat} {l : Str} (h : LowAt w wr g n l) (hl : l.length = n) (h1 : n ≤ c) (h2 : c ≤ maxLen) : Row wr (.slice (some ⟨g, 0, none⟩) n c) (l.map u8v) := by
 obtain ⟨cs, hm, hn, ht⟩ := h.m
 have hll : (l.map u8v).length = n := by rw [List.length_map, hl]
 refine .inr ⟨g, 0, c, by rw [hll], by rw [hll]; exact h1, h2, fun i x hx => ?_⟩
 rw [Nat.zero_add, hm.cell]
 rw [← ht, List.getElem?_take] at hx
 split at hx
 ·simpa using hx
 ·cases hx
theorem LowAt.set_ {w wr : World} {g n : Nat} {l : Str} (h : LowAt w wr g n l) (hl : l.length = n) (j : Nat) (hj : j < n) (c : UInt8) : LowAt w (wr.setCell ⟨g, j, none⟩ (.int .u8 (c.toNat : Int))) g n (l.set j c) := by
 obtain ⟨cs, hm, hn, ht⟩ := h.m
 refine ⟨⟨_, hm.set_ j _, by rw [Array.size_setIfInBounds]; exact hn, ?_⟩, h.k.setCell (p := ⟨g, j, none⟩) h.gw _, h.gw⟩
 rw [Array.toList_setIfInBounds, List.take_set, ht, List.map_set]
 rfl
theorem lowL_set {s : Str} {j : Nat} (h : j < s.length) : (lowL (s.take j) ++ s.drop j).set j (lowC s[j]) = lowL (s.take (j + 1)) ++ s.drop (j + 1) := by
 have hl : (lowL (s.take j)).length = j := by rw [lowL_len, List.length_take]; omega
 rw [List.set_append, if_neg (by omega), hl, Nat.sub_self, List.drop_eq_getElem_cons h, List.set_cons_zero, List.take_succ_eq_append_getElem h]
 unfold lowL
 rw [List.map_append]
 simp only [List.map_cons, List.map_nil, List.append_assoc, List.cons_append, List.nil_append]
theorem lowL_id {s : Str} {j : Nat} (h : j < s.length) (hc : lowC s[j] = s[j]) : lowL (s.take j) ++ s.drop j = lowL (s.take (j + 1)) ++ s.drop (j + 1) := by
 rw [List.drop_eq_getElem_cons h, List.take_succ_eq_append_getElem h]
 unfold lowL
 rw [List.map_append]
 simp only [List.map_cons, List.map_nil, List.append_assoc, List.cons_append, List.nil_append, hc]
theorem cells_take (w : World) (e : TypeId) (s : Str) : (Lib.bytesCells w e (bstr s)).toList.take s.length = s.map u8v := by
 unfold Lib.bytesCells
 rw [Array.toList_append, List.take_append_of_le_length (by simp [bstr]), List.take_of_length_le (by simp [bstr])]
 simp [bstr, u8v]
set_option maxRecDepth 100000 in
set_option maxHeartbeats 2000000 in
theorem lower_any (s : Str) (hs : s.length ≤ 1000000000000) (w : World) : Calls Tryz.prog 36 #[.string (bstr s)] w fun e w' => e = .returned (.string (bstr (lowL s))) ∧ Keeps w w' := by
 have hcv := Lib.run_convert_string_bytes (P := Tryz.prog) w 9 51 5 (bstr s) Tryz.underlying9 Tryz.underlying51 Tryz.underlying5
 have HSZ := Lib.hid (bstr_size s)
 have HLW := Lib.hid (show LowAt w (Lib.bytesWorld w 5 (bstr s)) w.heap.size s.length s from ⟨⟨_, Lib.bytesWorld_at_new w _ _, by simp [Lib.bytesCells, bstr_size], cells_take w _ s⟩, ⟨rfl, rfl, rfl, by rw [Lib.bytesWorld_size]; omega, fun k hk => Lib.bytesWorld_at_old w _ _ k hk⟩, Nat.le_refl _⟩)
 have hc1 : (bstr s).size ≤ grownCap w (bstr s).size 0 5 := by simpa using grownCap_ge w (bstr s).size 0 5
 have hc2 := grownCap_le_maxLen w (bstr s).size 0 5 (by rw [bstr_size]; simp [maxLen]; omega)
 rw [bstr_size] at hc1 hc2 hcv
 generalize grownCap w s.length 0 5 = cap at *
 have HC := Lib.hid (And.intro hc1 hc2)
 clear hc1 hc2
 go_enter Tryz.func36, Tryz.ntmps36
 go_upto_region 2 with fail
 generalize Lib.bytesWorld w 5 (bstr s) = w2 at *
 clear hcv
 generalize w.heap.size = g at *
 go_wp2_with fail
 go_loopw [10] (fun i wr => ∃ j : Nat, i = .int .i64 (j : Int) ∧ j ≤ s.length ∧ Hid (LowAt w wr g s.length (lowL (s.take j) ++ s.drop j))) (fun i _ => s.length - (intOf i).toNat)
 case atStart => exact ⟨0, rfl, Nat.zero_le _, HLW⟩
 case round =>
  obtain ⟨j, rfl, hj, HL⟩ := hrel
  obtain ⟨wz, rfl⟩ : ∃ z : World, z = wr := ⟨_, rfl⟩
  have hll : (lowL (s.take j) ++ s.drop j).length = s.length := by rw [List.length_append, lowL_len, List.length_take, List.length_drop]; omega
  by_cases hlt : j < s.length
  ·have hw : IntKind.i64.wrap ((j : Int) + 1) = (j : Int) + 1 := IntWalk.i64_in _ (by omega)
   have hcell : wz.cell? ⟨g, j, none⟩ = some (.int .u8 (s[j].toNat : Int)) ∧ wz.frozen? ⟨g, j, none⟩ = false := by
    obtain ⟨cs, hm, hn, ht⟩ := HL.out.m
    refine ⟨?_, hm.frozen (by omega)⟩
    rw [hm.cell]
    have h1 : (cs.toList.take s.length)[j]? = ((lowL (s.take j) ++ s.drop j).map u8v)[j]? := by rw [ht]
    rw [List.getElem?_take, if_pos hlt, List.getElem?_map, List.getElem?_append_right (by rw [lowL_len, List.length_take]; omega), lowL_len, List.length_take, Nat.min_eq_left hj, Nat.sub_self, List.getElem?_drop, Nat.add_zero, List.getElem?_eq_getElem hlt] at h1
    simpa [u8v] using h1
   obtain ⟨hcell, hfz⟩ := hcell
   have HA := Lib.hid (HL.out.set_ hll j hlt (lowC s[j]))
   rw [lowL_set hlt] at HA
   have HI := Lib.hid (fun h : lowC s[j] = s[j] => show LowAt w wz g s.length (lowL (s.take (j + 1)) ++ s.drop (j + 1)) from by rw [← lowL_id hlt h]; exact HL.out)
   generalize s[j] = c at *
   have HM := Lib.hid (show lowC c = if 65 ≤ c.toNat ∧ c.toNat ≤ 90 then c + 32 else c from rfl)
   by_cases hup : 65 ≤ c.toNat ∧ c.toNat ≤ 90
   ·obtain ⟨h1, h2⟩ := hup
    have hlo : c ||| 32 = lowC c := by rw [HM.out, if_pos ⟨h1, h2⟩]; exact or32 h1 h2
    have e1 : decide (c.toNat ≤ 90) = true := decide_eq_true h2
    have e2 : (65 : Int) ≤ (c.toNat : Int) := by omega
    clear HM HI
    go_upto_region 6 with fail
    go_wp2_with fail
    refine ⟨⟨j + 1, by simp, by omega, Lib.hid ?_⟩, by simp only [intOf]; omega⟩
    rw [or_bits, hlo]
    exact HA.out
   ·have hid := Lib.hid (HI.out (by rw [HM.out, if_neg hup]))
    clear HA HI HM
    by_cases h1 : 65 ≤ c.toNat
    ·have e1 : (90 : Int) < (c.toNat : Int) := by have : ¬ c.toNat ≤ 90 := fun h => hup ⟨h1, h⟩; omega
     have e2 : (65 : Int) ≤ (c.toNat : Int) := by omega
     clear hup
     go_wp2_with fail
     refine ⟨⟨j + 1, by simp, by omega, hid⟩, by simp only [intOf]; omega⟩
    ·have e2 : ¬ (65 : Int) ≤ (c.toNat : Int) := by omega
     clear hup
     go_wp2_with fail
     refine ⟨⟨j + 1, by simp, by omega, hid⟩, by simp only [intOf]; omega⟩
  ·have hje : j = s.length := by omega
   have hrow := (HL.out.row hll HC.out.1 HC.out.2)
   have hk := HL.out.k
   rw [hje, List.take_length, List.drop_length, List.append_nil] at hrow
   have hcv := hrow.str (P := Tryz.prog) (u := 9) Tryz.underlying51 Tryz.underlying5 Tryz.underlying9
   have HK := Lib.hid hk
   clear hrow hje hk
   go_wp2_with fail
   go_ret
   exact ⟨rfl, HK.out⟩
set_option maxRecDepth 100000 in
set_option maxHeartbeats 2000000 in
theorem rLower_any (s : Str) (hs : s.length ≤ 1000000000000) (w : World) : Calls Tryz.prog 11 #[.string (bstr s)] w fun e w' => e = .returned (.string (bstr (lowL s))) ∧ Keeps w w' := by
 have HSZ := Lib.hid (bstr_size s)
 have HGE := Lib.hid (fun (j : Nat) (h : j < (bstr s).size) => show (bstr s)[j] = s[j]'(by rw [bstr_size] at h; exact h) from rfl)
 go_enter Tryz.func11, Tryz.ntmps11
 go_wp2_with fail
 go_loopw [3, 4] (fun bv i wr => ∃ (j : Nat) (p : Option Addr) (c : Nat), bv = .slice p j c ∧ i = .int .i64 (j : Int) ∧ j ≤ (bstr s).size ∧ Hid (Own wr w.heap.size 5 (.slice p j c) ((lowL (s.take j)).map u8v)) ∧ Hid (Keeps w wr)) (fun _ i _ => (bstr s).size - (intOf i).toNat)
 case atStart => exact ⟨0, none, 0, rfl, rfl, Nat.zero_le _, Lib.hid (Own.nil _ _ _), Lib.hid (Keeps.refl _)⟩
 case round =>
  obtain ⟨j, p, c, rfl, rfl, hj, HO, HK⟩ := hrel
  obtain ⟨wz, rfl⟩ : ∃ z : World, z = wr := ⟨_, rfl⟩
  by_cases hlt : j < (bstr s).size
  ·have hll : j < s.length := by rw [← HSZ.out]; exact hlt
   have hw : IntKind.i64.wrap ((j : Int) + 1) = (j : Int) + 1 := IntWalk.i64_in _ (by omega)
   have hge := HGE.out j hlt
   have HE := Lib.hid (show lowL (s.take (j + 1)) = lowL (s.take j) ++ [lowC s[j]] from by rw [List.take_succ_eq_append_getElem hll]; unfold lowL; rw [List.map_append]; rfl)
   have HLN := Lib.hid (show (lowL (s.take j)).length = j from by rw [lowL_len, List.length_take]; omega)
   generalize s[j] = x at *
   have HM := Lib.hid (show lowC x = if 65 ≤ x.toNat ∧ x.toNat ≤ 90 then x + 32 else x from rfl)
   have hwz : w.heap.size ≤ wz.heap.size := HK.out.size
   have HMM := Lib.hid (show lowC x = if 65 ≤ x.toNat ∧ x.toNat ≤ 90 then x + 32 else x from rfl)
   obtain ⟨m, hm⟩ : ∃ m : Nat, (lowC x).toNat = m := ⟨_, rfl⟩
   have HWA := Lib.hid (show w.heap.size ≤ (wz.alloc (.cells #[.int .u8 (m : Int)] 5)).heap.size from (HK.out.alloc _).size)
   have HLB := Lib.hid (show (((lowL (s.take j)).map u8v).length + [Value.int .u8 (m : Int)].length) * 1 ≤ 70368744177664 from by rw [List.length_map, HLN.out]; simp only [List.length_singleton]; omega)
   have HE2 := Lib.hid (show (lowL (s.take j)).map u8v ++ [.int .u8 (m : Int)] = (lowL (s.take (j + 1))).map u8v from by rw [HE.out, List.map_append, ← hm]; rfl)
   have HL1 := Lib.hid (show ((lowL (s.take (j + 1))).map u8v).length = j + 1 from by rw [← HE2.out, List.length_append, List.length_map, HLN.out]; rfl)
   clear HE HM
   by_cases hup : 65 ≤ x.toNat ∧ x.toNat ≤ 90
   ·have hv : IntKind.u8.wrap ((x.toNat : Int) + 32) = (m : Int) := by
     rw [HMM.out, if_pos hup, UInt8.toNat_add] at hm
     have h32 : (32 : UInt8).toNat = 32 := rfl
     rw [h32] at hm
     have : IntKind.u8.wrap ((x.toNat : Int) + 32) = (x.toNat : Int) + 32 := IntWalk.u8_in _ ⟨by omega, by omega⟩
     omega
    obtain ⟨h1, h2⟩ := hup
    have e1 : decide (x.toNat ≤ 90) = true := decide_eq_true h2
    have e2 : (65 : Int) ≤ (x.toNat : Int) := by omega
    clear hm HMM
    go_wp2_with (at_builtin; refine wpList_app1 (base := w.heap.size) Oct.u8ok rfl _ _ rfl (.slice p j c) (.slice (some ⟨wz.heap.size, 0, none⟩) 1 1) ((lowL (s.take j)).map u8v) [.int .u8 (m : Int)] rfl rfl (HO.out.keeps ((Keeps.refl _).alloc _)) (row_one rfl) (by simp [Value.oneCell']) HLB.out (by decide) HWA.out ?_; intro v5 w5 ho5 hg5 hf5; rw [HE2.out] at ho5; obtain ⟨p5, c5, hv5, -, -⟩ := ho5.row.form; rw [HL1.out] at hv5; subst hv5; have HO5 := Lib.hid ho5; have HK5 := Lib.hid ((HK.out.alloc (.cells #[.int .u8 (m : Int)] 5)).grown hg5 (fun y hy => HO.out.base y hy)); clear ho5 hg5 hf5)

    refine ⟨⟨j + 1, p5, c5, rfl, by simp, by omega, HO5, HK5⟩, by simp only [intOf]; omega⟩
   ·have hv : x.toNat = m := by rw [← hm, HMM.out, if_neg hup]
    rw [hv] at hup
    clear hm HMM
    by_cases h1 : 65 ≤ m
    ·have e1 : (90 : Int) < (m : Int) := by have : ¬ m ≤ 90 := fun h => hup ⟨h1, h⟩; omega
     have e2 : (65 : Int) ≤ (m : Int) := by omega
     clear hup
     go_wp2_with (at_builtin; refine wpList_app1 (base := w.heap.size) Oct.u8ok rfl _ _ rfl (.slice p j c) (.slice (some ⟨wz.heap.size, 0, none⟩) 1 1) ((lowL (s.take j)).map u8v) [.int .u8 (m : Int)] rfl rfl (HO.out.keeps ((Keeps.refl _).alloc _)) (row_one rfl) (by simp [Value.oneCell']) HLB.out (by decide) HWA.out ?_; intro v5 w5 ho5 hg5 hf5; rw [HE2.out] at ho5; obtain ⟨p5, c5, hv5, -, -⟩ := ho5.row.form; rw [HL1.out] at hv5; subst hv5; have HO5 := Lib.hid ho5; have HK5 := Lib.hid ((HK.out.alloc (.cells #[.int .u8 (m : Int)] 5)).grown hg5 (fun y hy => HO.out.base y hy)); clear ho5 hg5 hf5)

     refine ⟨⟨j + 1, p5, c5, rfl, by simp, by omega, HO5, HK5⟩, by simp only [intOf]; omega⟩
    ·have e2 : ¬ (65 : Int) ≤ (m : Int) := by omega
     clear hup
     go_wp2_with (at_builtin; refine wpList_app1 (base := w.heap.size) Oct.u8ok rfl _ _ rfl (.slice p j c) (.slice (some ⟨wz.heap.size, 0, none⟩) 1 1) ((lowL (s.take j)).map u8v) [.int .u8 (m : Int)] rfl rfl (HO.out.keeps ((Keeps.refl _).alloc _)) (row_one rfl) (by simp [Value.oneCell']) HLB.out (by decide) HWA.out ?_; intro v5 w5 ho5 hg5 hf5; rw [HE2.out] at ho5; obtain ⟨p5, c5, hv5, -, -⟩ := ho5.row.form; rw [HL1.out] at hv5; subst hv5; have HO5 := Lib.hid ho5; have HK5 := Lib.hid ((HK.out.alloc (.cells #[.int .u8 (m : Int)] 5)).grown hg5 (fun y hy => HO.out.base y hy)); clear ho5 hg5 hf5)

     refine ⟨⟨j + 1, p5, c5, rfl, by simp, by omega, HO5, HK5⟩, by simp only [intOf]; omega⟩
  ·have hje : j = s.length := by rw [HSZ.out] at hj hlt; omega
   have hrow := HO.out.row
   rw [hje, List.take_length] at hrow
   have hcv := hrow.str (P := Tryz.prog) (u := 9) Tryz.underlying51 Tryz.underlying5 Tryz.underlying9
   rw [← hje] at hcv
   clear hrow hje
   go_wp2_with fail
   go_ret
   exact ⟨rfl, HK.out⟩
end Usr
end Go.Proofs.YtklbemkafdccgaaGreat

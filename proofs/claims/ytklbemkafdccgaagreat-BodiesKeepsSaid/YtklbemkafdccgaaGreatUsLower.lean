/- The document's Name; small letters, the program's and the document's. -/
import Derived.Test.YtklbemkafdccgaaGreatK00
import Derived.Test.YtklbemkafdccgaaGreatK02
import Derived.Test.YtklbemkafdccgaaGreatK01
import Derived.Deep.DeepCutAuto
import Derived.Deep.CutBlock
import Derived.Deep.LoopGhost
namespace Go.Proofs.YtklbemkafdccgaaGreat
open Go.RowKit
namespace Usr
open Adr (Str)
theorem or32 {c : UInt8} (h1 : 65 ≤ c.toNat) (h2 : c.toNat ≤ 90) : c ||| 32 = c + 32 := by
 have h : ∀ n : Fin 256, 65 ≤ n.val → n.val ≤ 90 → (UInt8.ofNat n.val) ||| 32 = (UInt8.ofNat n.val) + 32 := by decide +kernel
 have := h ⟨c.toNat, c.toNat_lt⟩ h1 h2
 simpa using this
theorem or_bits (c : UInt8) : bits .or .u8 (c.toNat : Int) 32 = ((c ||| 32).toNat : Int) := by
 have h : ∀ n : Fin 256, bits .or .u8 (n.val : Int) 32 = (((UInt8.ofNat n.val) ||| 32).toNat : Int) := by decide +kernel
 have := h ⟨c.toNat, c.toNat_lt⟩
 simpa using this
/-- a block of a string's bytes: its mark lies behind them -/
def Mark (w : World) (g : Nat) (t : TypeId) (cs : Array Value) : Prop := w.heap[g]? = some (.cells cs t (cs.size, cs.size + 1))
section
variable {w : World} {g : Nat} {t : TypeId} {cs : Array Value}
theorem Mark.cell (h : Mark w g t cs) (i : Nat) : w.cell? ⟨g, i, none⟩ = cs[i]? := cell_of_row w g i cs t _ h
theorem Mark.frozen (h : Mark w g t cs) {i : Nat} (hi : i < cs.size) : w.frozen? ⟨g, i, none⟩ = false := by
 unfold Mark at h
 simp [World.frozen?, h]
 omega
theorem Mark.set_ (h : Mark w g t cs) (i : Nat) (u : Value) : Mark (w.setCell ⟨g, i, none⟩ u) g t (cs.setIfInBounds i u) := by
 unfold Mark at h ⊢
 simp [World.setCell, Array.getElem?_modify, h]
end
structure LowAt (w wr : World) (g n : Nat) (l : Str) : Prop where
 m : ∃ cs, Mark wr g 5 cs ∧ n ≤ cs.size ∧ cs.toList.take n = l.map u8v
 k : Keeps w wr
 gw : w.heap.size ≤ g
theorem LowAt.row {w wr : World} {g n c : Nat} {l : Str} (h : LowAt w wr g n l) (hl : l.length = n) (h1 : n ≤ c) (h2 : c ≤ maxLen) : Row wr (.slice (some ⟨g, 0, none⟩) n c) (l.map u8v) := by
 obtain ⟨cs, hm, hn, ht⟩ := h.m
 have hll : (l.map u8v).length = n := by rw [List.length_map, hl]
 refine .inr ⟨g, 0, c, by rw [hll], by rw [hll]; exact h1, h2, fun i x hx => ?_⟩
 rw [Nat.zero_add, hm.cell]
 rw [← ht, List.getElem?_take] at hx
 split at hx
 ·simpa using hx
 ·cases hx
theorem LowAt.set_ {w wr : World} {g n : Nat} {l : Str} (h : LowAt w wr g n l) (hl : l.length = n) (j : Nat) (hj : j < n) (c : UInt8) : LowAt w (wr.setCell ⟨g, j, none⟩ (.int .u8 (c.toNat : Int))) g n (l.set j c) := by
 obtain ⟨cs, hm, hn, ht⟩ := h.m
 refine ⟨⟨_, hm.set_ j _, by rw [Array.size_setIfInBounds]; exact hn, ?_⟩, h.k.setCell (p := ⟨g, j, none⟩) h.gw _, h.gw⟩
 rw [Array.toList_setIfInBounds, List.take_set, ht, List.map_set]
 rfl
theorem lowL_set {s : Str} {j : Nat} (h : j < s.length) : (lowL (s.take j) ++ s.drop j).set j (lowC s[j]) = lowL (s.take (j + 1)) ++ s.drop (j + 1) := by
 have hl : (lowL (s.take j)).length = j := by rw [lowL_len, List.length_take]; omega
 rw [List.set_append, if_neg (by omega), hl, Nat.sub_self, List.drop_eq_getElem_cons h, List.set_cons_zero, List.take_succ_eq_append_getElem h]
 unfold lowL
 rw [List.map_append]
 simp only [List.map_cons, List.map_nil, List.append_assoc, List.cons_append, List.nil_append]
theorem lowL_id {s : Str} {j : Nat} (h : j < s.length) (hc : lowC s[j] = s[j]) : lowL (s.take j) ++ s.drop j = lowL (s.take (j + 1)) ++ s.drop (j + 1) := by
 rw [List.drop_eq_getElem_cons h, List.take_succ_eq_append_getElem h]
 unfold lowL
 rw [List.map_append]
 simp only [List.map_cons, List.map_nil, List.append_assoc, List.cons_append, List.nil_append, hc]
theorem cells_take (w : World) (e : TypeId) (s : Str) : (Lib.bytesCells w e (bstr s)).toList.take s.length = s.map u8v := by
 unfold Lib.bytesCells
 rw [Array.toList_append, List.take_append_of_le_length (by simp [bstr]), List.take_of_length_le (by simp [bstr])]
 simp [bstr, u8v]
set_option maxRecDepth 100000 in
set_option maxHeartbeats 2000000 in
theorem lower_any (s : Str) (hs : s.length ≤ 1000000000000) (w : World) : Calls Tryz.prog 36 #[.string (bstr s)] w fun e w' => e = .returned (.string (bstr (lowL s))) ∧ Keeps w w' := by
 have hcv := Lib.run_convert_string_bytes (P := Tryz.prog) w 9 51 5 (bstr s) Tryz.underlying9 Tryz.underlying51 Tryz.underlying5
 have HSZ := Lib.hid (bstr_size s)
 have HLW := Lib.hid (show LowAt w (Lib.bytesWorld w 5 (bstr s)) w.heap.size s.length s from ⟨⟨_, Lib.bytesWorld_at_new w _ _, by simp [Lib.bytesCells, bstr_size], cells_take w _ s⟩, ⟨rfl, rfl, rfl, by rw [Lib.bytesWorld_size]; omega, fun k hk => Lib.bytesWorld_at_old w _ _ k hk⟩, Nat.le_refl _⟩)
 have hc1 : (bstr s).size ≤ grownCap w (bstr s).size 0 5 := by simpa using grownCap_ge w (bstr s).size 0 5
 have hc2 := grownCap_le_maxLen w (bstr s).size 0 5 (by rw [bstr_size]; simp [maxLen]; omega)
 rw [bstr_size] at hc1 hc2 hcv
 generalize grownCap w s.length 0 5 = cap at *
 have HC := Lib.hid (And.intro hc1 hc2)
 clear hc1 hc2
 go_enter Tryz.func36, Tryz.ntmps36
 go_upto_region 2 with fail
 generalize Lib.bytesWorld w 5 (bstr s) = w2 at *
 clear hcv
 generalize w.heap.size = g at *
 go_wp2_with fail
 go_loopw [10] (fun i wr => ∃ j : Nat, i = .int .i64 (j : Int) ∧ j ≤ s.length ∧ Hid (LowAt w wr g s.length (lowL (s.take j) ++ s.drop j))) (fun i _ => s.length - (intOf i).toNat)
 case atStart => exact ⟨0, rfl, Nat.zero_le _, HLW⟩
 case round =>
  obtain ⟨j, rfl, hj, HL⟩ := hrel
  obtain ⟨wz, rfl⟩ : ∃ z : World, z = wr := ⟨_, rfl⟩
  have hll : (lowL (s.take j) ++ s.drop j).length = s.length := by rw [List.length_append, lowL_len, List.length_take, List.length_drop]; omega
  by_cases hlt : j < s.length
  ·have hw : IntKind.i64.wrap ((j : Int) + 1) = (j : Int) + 1 := IntWalk.i64_in _ (by omega)
   have hcell : wz.cell? ⟨g, j, none⟩ = some (.int .u8 (s[j].toNat : Int)) ∧ wz.frozen? ⟨g, j, none⟩ = false := by
    obtain ⟨cs, hm, hn, ht⟩ := HL.out.m
    refine ⟨?_, hm.frozen (by omega)⟩
    rw [hm.cell]
    have h1 : (cs.toList.take s.length)[j]? = ((lowL (s.take j) ++ s.drop j).map u8v)[j]? := by rw [ht]
    rw [List.getElem?_take, if_pos hlt, List.getElem?_map, List.getElem?_append_right (by rw [lowL_len, List.length_take]; omega), lowL_len, List.length_take, Nat.min_eq_left hj, Nat.sub_self, List.getElem?_drop, Nat.add_zero, List.getElem?_eq_getElem hlt] at h1
    simpa [u8v] using h1
   obtain ⟨hcell, hfz⟩ := hcell
   have HA := Lib.hid (HL.out.set_ hll j hlt (lowC s[j]))
   rw [lowL_set hlt] at HA
   have HI := Lib.hid (fun h : lowC s[j] = s[j] => show LowAt w wz g s.length (lowL (s.take (j + 1)) ++ s.drop (j + 1)) from by rw [← lowL_id hlt h]; exact HL.out)
   generalize s[j] = c at *
   have HM := Lib.hid (show lowC c = if 65 ≤ c.toNat ∧ c.toNat ≤ 90 then c + 32 else c from rfl)
   by_cases hup : 65 ≤ c.toNat ∧ c.toNat ≤ 90
   ·obtain ⟨h1, h2⟩ := hup
    have hlo : c ||| 32 = lowC c := by rw [HM.out, if_pos ⟨h1, h2⟩]; exact or32 h1 h2
    have e1 : decide (c.toNat ≤ 90) = true := decide_eq_true h2
    have e2 : (65 : Int) ≤ (c.toNat : Int) := by omega
    clear HM HI
    go_upto_region 6 with fail
    go_wp2_with fail
    refine ⟨⟨j + 1, by simp, by omega, Lib.hid ?_⟩, by simp only [intOf]; omega⟩
    rw [or_bits, hlo]
    exact HA.out
   ·have hid := Lib.hid (HI.out (by rw [HM.out, if_neg hup]))
    clear HA HI HM
    by_cases h1 : 65 ≤ c.toNat
    ·have e1 : (90 : Int) < (c.toNat : Int) := by have : ¬ c.toNat ≤ 90 := fun h => hup ⟨h1, h⟩; omega
     have e2 : (65 : Int) ≤ (c.toNat : Int) := by omega
     clear hup
     go_wp2_with fail
     refine ⟨⟨j + 1, by simp, by omega, hid⟩, by simp only [intOf]; omega⟩
    ·have e2 : ¬ (65 : Int) ≤ (c.toNat : Int) := by omega
     clear hup
     go_wp2_with fail
     refine ⟨⟨j + 1, by simp, by omega, hid⟩, by simp only [intOf]; omega⟩
  ·have hje : j = s.length := by omega
   have hrow := (HL.out.row hll HC.out.1 HC.out.2)
   have hk := HL.out.k
   rw [hje, List.take_length, List.drop_length, List.append_nil] at hrow
   have hcv := hrow.str (P := Tryz.prog) (u := 9) Tryz.underlying51 Tryz.underlying5 Tryz.underlying9
   have HK := Lib.hid hk
   clear hrow hje hk
   go_wp2_with fail
   go_ret
   exact ⟨rfl, HK.out⟩
end Usr
end Go.Proofs.YtklbemkafdccgaaGreat

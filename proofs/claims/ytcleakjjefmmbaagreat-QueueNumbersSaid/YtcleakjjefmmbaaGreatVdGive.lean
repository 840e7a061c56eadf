/- names.give: names that go while they are ranged over. -/
import Derived.Test.YtcleakjjefmmbaaGreatVdNames
import Derived.Test.YtcleakjjefmmbaaGreatMid
import Derived.Test.YtcleakjjefmmbaaGreatDrawn
import Derived.Deep.DeepCutAuto
import Derived.Deep.CutBlock
namespace Go.Proofs.YtcleakjjefmmbaaGreat
open Go.RowKit
namespace Vd
open Go.Maps
open Mbx (intD intElem intElem_inv)

theorem ReadsN.del {D : DataW Unit} {l : Nms} (h : ReadsN D l) (x : Str) : ReadsN (D.del (.string x)) (l.filter fun p => decide (p.1 ≠ x)) := by
 have ha : AscN (l.filter fun p => decide (p.1 ≠ x)) := h.2.1.filter _
 have hl : ∀ y, look (l.filter fun p => decide (p.1 ≠ x)) y = if y = x then none else look l y := fun y => by
  apply opt_ext
  intro k
  rw [look_mem ha, List.mem_filter]
  by_cases hy : y = x
  ·rw [if_pos hy]
   simp [hy]
  ·rw [if_neg hy, look_mem h.2.1]
   simp [hy]
 refine ⟨h.1.del _, ha, fun y => ?_⟩
 rw [hl]
 by_cases hy : y = x
 ·subst hy
  rw [has_del_same, if_pos rfl]
  exact ⟨rfl, fun u hu => by cases hu⟩
 ·have hne : (Lit.string y) ≠ .string x := by simp [hy]
  rw [has_del_other hne, if_neg hy]
  exact ⟨(h.2.2 y).1, fun u hu z => by rw [atKey_del_other hne]; exact (h.2.2 y).2 u hu z⟩
/-- the names that are there still, where those that are left haven't come -/
def restN (l : Nms) (k : Nat) (left : Lit → Bool) : Nms := l.filter fun p => !(decide (p.2 = k) && !left (.string p.1))
theorem restN_all {D : DataW Unit} {l : Nms} (h : ReadsN D l) (k : Nat) : restN l k (has D) = l := by
 unfold restN
 refine List.filter_eq_self.2 fun p hp => ?_
 rw [(h.2.2 p.1).1, (look_mem h.2.1).2 (show (p.1, p.2) ∈ l from hp)]
 simp
theorem restN_end {l : Nms} (k : Nat) {left : Lit → Bool} (h : ∀ kl, left kl = false) : restN l k left = dropN l k := by
 unfold restN dropN
 refine List.filter_congr fun p _ => ?_
 rw [h]
 simp
theorem restN_gone {l : Nms} (hl : AscN l) (k : Nat) (left : Lit → Bool) {x : Str} (hx : (x, k) ∈ l) : restN l k (fun z => left z && !z.sameKey (.string x)) = (restN l k left).filter fun p => decide (p.1 ≠ x) := by
 unfold restN
 rw [List.filter_filter]
 refine List.filter_congr fun p hp => ?_
 by_cases hpx : p.1 = x
 ·have h2 : p.2 = k := by
   have h1 := (look_mem hl).2 hx
   have h3 := (look_mem hl).2 (show (p.1, p.2) ∈ l from hp)
   rw [hpx, h1] at h3
   exact (Option.some.inj h3).symm
  simp [hpx, h2, Lit.sameKey]
 ·simp [hpx, Lit.sameKey, beq_eq_false_iff_ne.2 hpx]
theorem restN_stays {l : Nms} (hl : AscN l) (k : Nat) (left : Lit → Bool) {x : Str} {i : Nat} (hx : (x, i) ∈ l) (hi : i ≠ k) : restN l k (fun z => left z && !z.sameKey (.string x)) = restN l k left := by
 unfold restN
 refine List.filter_congr fun p hp => ?_
 by_cases hpx : p.1 = x
 ·have h2 : p.2 = i := by
   have h1 := (look_mem hl).2 hx
   have h3 := (look_mem hl).2 (show (p.1, p.2) ∈ l from hp)
   rw [hpx, h1] at h3
   exact (Option.some.inj h3).symm
  have : ¬ p.2 = k := by omega
  simp [this]
 ·simp [hpx, Lit.sameKey, beq_eq_false_iff_ne.2 hpx]
theorem restN_sub {l : Nms} {k : Nat} {left : Lit → Bool} {p : Str × Nat} (h : p ∈ restN l k left) : p ∈ l := (List.mem_filter.1 h).1
theorem intElem_form {v : Value} {y : DataW Unit × List MemPlace} (h : intElem v = some y) : ∃ c, v = .int .i64 c := by
 unfold intElem at h
 split at h
 ·exact ⟨_, rfl⟩
 ·cases h
theorem twice (left : Lit → Bool) (kl : Lit) : (fun z => (left z && !z.sameKey kl) && !z.sameKey kl) = fun z => left z && !z.sameKey kl := by
 funext z
 cases left z <;> cases z.sameKey kl <;> rfl

set_option maxRecDepth 100000 in
set_option maxHeartbeats 2000000 in
theorem give_any (w : World) {b n : Nat} {l : Nms} (h : NamesAt w b n l) (hn : n < 1000000) (m : Mv) (hm : m.name.length ≤ maxLen) : Calls Tryz.prog 69 #[.map (some b), .agg #[.int .i64 (m.node : Int), .string (bstr m.name), .bool m.made]] w fun e w' => e = .returned (.tuple #[]) ∧ NamesAt w' b (n + 1) (giveN l m) ∧ Mods (· = b) w w' := by
 have hbl := h.lt
 obtain ⟨D, hown0, hr0⟩ := h
 have HR0 := Lib.hid hr0
 go_enter Tryz.func69, Tryz.ntmps69
 go_upto_region 1 with fail
 generalize hW : World.alloc w _ = w1
 have HK1 := Lib.hid (show Keeps w w1 from by rw [← hW]; exact (Keeps.refl _).alloc _)
 have HM := Lib.hid (show Blk w1 w.heap.size 152 #[.int .i64 (m.node : Int), .string (bstr m.name), .bool m.made] from by rw [← hW]; exact Blk.new _ _ _ rfl)
 have hown := map_keepsS hown0 HK1.out
 clear hW hown0 hr0
 obtain ⟨q, hq⟩ : ∃ q, q = w.heap.size := ⟨_, rfl⟩
 rw [← hq] at HM hbl ⊢
 have HQ := Lib.hid hq
 clear hq
 go_upto_region 2 with (at_range; refine wpList_range_own _ rfl _ 83 rfl 9 3 strKeyed Tryz.underlying83 _ b n _ rfl hown ?_; intro w2 hrg0 hg0 hs0)
 obtain ⟨it, hit⟩ : ∃ it, it = w1.heap.size := ⟨_, rfl⟩
 rw [← hit] at hrg0 hs0 ⊢
 have hqi : q < it := by rw [hit]; exact HM.out.lt
 have HI := Lib.hid hit
 have HG0 := Lib.hid (show Mods (· = b) w w2 ∧ Blk w2 q 152 #[.int .i64 (m.node : Int), .string (bstr m.name), .bool m.made] from by
  have hk2 : Keeps w1 w2 := (Keeps.refl w1).grown hg0 (fun k hk => by cases hk)
  exact ⟨Mods.of_keeps (HK1.out.trans hk2), HM.out.keeps hk2⟩)
 have HRG := Lib.hid hrg0
 clear hrg0 hg0 hown hit
 go_frame
 go_loopw [] (fun wr => ∃ (D' : DataW Unit) (left : Lit → Bool) (cnt : Nat), Hid (wr.ranges Tryz.prog 9 intElem b it n D' left cnt ∧ ReadsN D' (restN l m.node left) ∧ Mods (· = b) w wr ∧ Blk wr q 152 #[.int .i64 (m.node : Int), .string (bstr m.name), .bool m.made])) (fun wr => wr.rangeLeft b it)
 case atStart => exact ⟨_, _, _, Lib.hid ⟨HRG.out, by rw [restN_all HR0.out]; exact HR0.out, HG0.out.1, HG0.out.2⟩⟩
 case round =>
  obtain ⟨D', left, cnt, HH⟩ := hrel
  clear HRG HG0
  have hrg := HH.out.1
  go_wp2_with (at_next; refine wpList_next_ranges _ rfl _ rfl 9 strKeyed intElem Value.string (Value.int .i64) (fun key kl hk => by obtain ⟨s, rfl, -, -⟩ := Go.WideMaps.string_of_keyOf Tryz.underlying9 hk; exact ⟨s, rfl⟩) (fun v y hv => intElem_form hv) b it n _ _ _ rfl hrg ?_ ?_)
  ·intro _ hl0
   have HE := Lib.hid (show NamesAt wr b n (dropN l m.node) from ⟨D', hrg.owns, by rw [← restN_end m.node hl0]; exact HH.out.2.1⟩)
   have hc1 : wr.cell? ⟨q, 1, none⟩ = some (.string (bstr m.name)) := by rw [HH.out.2.2.2.cell]; rfl
   have hc0 : wr.cell? ⟨q, 0, none⟩ = some (.int .i64 (m.node : Int)) := by rw [HH.out.2.2.2.cell]; rfl
   have HMD := Lib.hid HH.out.2.2.1
   have bt := bstr_toList m.name
   have bz : (⟨#[]⟩ : ByteArray).toList = [] := bstr_toList []
   clear hrg HH hl0
   by_cases hnm : m.name = []
   ·have HX := Lib.hid (show giveN l m = dropN l m.node from if_pos hnm)
    have e1 : (m.name == []) = true := by rw [hnm]; rfl
    clear hnm
    go_wp2_with fail
    go_end0
    exact ⟨rfl, by rw [HX.out]; exact HE.out.mono (by omega), HMD.out⟩
   ·have HX := Lib.hid (show giveN l m = putN (dropN l m.node) m.name m.node from if_neg hnm)
    have e1 : (m.name == []) = false := by simp [hnm]
    obtain ⟨w5, hrun, hna, hmm⟩ := HE.out.put hn hm m.node
    clear hnm
    go_wp2_with fail
    go_end0
    exact ⟨rfl, by rw [HX.out]; exact hna, HMD.out.trans hmm (fun x hx _ => hx)⟩
  ·intro x c kl yd yp w3 cnt3 hkey hlx hyv hat hrg3 hlt hg3 hs3 hen
   obtain ⟨s, hs, rfl, hsz⟩ := Go.WideMaps.string_of_keyOf Tryz.underlying9 hkey
   obtain rfl : x = s := by simpa using hs
   have hy1 : yd = intD c := by
    unfold intElem at hyv
    simp at hyv
    exact hyv.1.symm
   obtain ⟨X, hX⟩ : ∃ X, X = x.data.toList := ⟨_, rfl⟩
   rw [← hX] at hlx hat hrg3 hkey
   have hhas := has_true_of_atKey hat
   have hRN := HH.out.2.1
   rw [(hRN.2.2 X).1] at hhas
   obtain ⟨i, hi⟩ := Option.isSome_iff_exists.1 hhas
   have hci : c = (i : Int) := by
    have h1 := (hRN.2.2 X).2 i hi .nil
    rw [hat .nil, hy1] at h1
    simpa [intD] using h1
   have hmem : (X, i) ∈ l := restN_sub ((look_mem hRN.2.1).1 hi)
   have hM3 : Mods (· = b) w w3 := HH.out.2.2.1.grown hg3 (fun k hk hlt2 => by cases hk; have := HI.out; have := HK1.out.size; omega)
   have hB3 := HH.out.2.2.2.grown hg3 (by simp; omega)
   have HF := Lib.hid (And.intro hM3 (And.intro hB3 (And.intro hRN hmem)))
   have hc0 : w3.cell? ⟨q, 0, none⟩ = some (.int .i64 (m.node : Int)) := by rw [hB3.cell]; rfl
   have HLE := Lib.hid (And.intro hrg.left_eq hlt)
   subst hci
   clear hs hyv hy1 hhas hRN hi hmem hM3 hB3 hat HH hrg
   by_cases hik : i = m.node
   ·have e1 : ((i : Int) == (m.node : Int)) = true := by simp [hik]
    go_wp2_with (at_delete; refine wpList_delete_ranges _ rfl _ _ 83 9 rfl 3 strKeyed Tryz.underlying83 _ b it n _ _ _ rfl hrg3 _ _ rfl hkey ?_; intro w4 cnt4 hrg4 hle hturn; go_frame)
    rw [twice] at hrg4
    have hM4 := turned_modsS hturn
    go_roundw
    case rel => exact ⟨_, _, cnt4, Lib.hid ⟨hrg4, by rw [restN_gone HR0.out.2.1 m.node left (by rw [← hik]; exact HF.out.2.2.2)]; exact HF.out.2.2.1.del X, HF.out.1.trans hM4 (fun x hx _ => hx), HF.out.2.1.mods hM4 (by omega)⟩⟩
    case measure =>
     rw [hrg4.left_eq, HLE.out.1]
     have := HLE.out.2
     omega
   ·have e1 : ((i : Int) == (m.node : Int)) = false := by simp; omega
    go_wp2_with fail
    go_roundw
    case rel => exact ⟨_, _, cnt3, Lib.hid ⟨hrg3, by rw [restN_stays HR0.out.2.1 m.node left HF.out.2.2.2 hik]; exact HF.out.2.2.1, HF.out.1, HF.out.2.1⟩⟩
    case measure =>
     rw [hrg3.left_eq, HLE.out.1]
     exact HLE.out.2
end Vd
end Go.Proofs.YtcleakjjefmmbaaGreat

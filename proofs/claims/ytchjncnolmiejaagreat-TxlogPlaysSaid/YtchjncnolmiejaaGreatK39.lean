/- Several texts in one: RfFind, RfPut, RfDo, RfDisk, RfBegin, RfTurn. -/
import Derived.Test.YtchjncnolmiejaaGreatK29
import Derived.Test.YtchjncnolmiejaaGreatK35
import Derived.Test.YtchjncnolmiejaaGreatK11
/- The document's disk: find, without. -/
namespace Go.Proofs.YtchjncnolmiejaaGreat
open Go.RowKit
namespace Rf
open Vd
def enA (p : Str × Nat) : Array Value := #[.string (bstr p.1), .int .i64 (p.2 : Int)]
def enC (p : Str × Nat) : List Value := (enA p).toList
theorem enC_len (p : Str × Nat) : (enC p).length = 2 := rfl
theorem enM : Mids Tryz.prog 96 2 := ⟨⟨_, Tryz.underlying96, rfl⟩, by kernel_rfl⟩
theorem enok : ElemOkS Tryz.prog 56 96 2 24 := elemOkS (z := .agg #[.string (bstr []), .int .i64 0]) Tryz.underlying56 (by kernel_rfl) rfl
/-- names, as the document's disk has them -/
def NmsAt (w : World) (v : Value) (l : Nms) : Prop := RowS w 2 v l.length (l.flatMap enC)
theorem NmsAt.keeps {w w' : World} {v : Value} {l : Nms} (h : NmsAt w v l) (k : Keeps w w') : NmsAt w' v l := RowS.keeps h k
theorem NmsAt.one {w : World} {v : Value} {l : Nms} (h : NmsAt w v l) {j : Nat} (hj : j < l.length) : ∃ b off cap, v = .slice (some ⟨b, off, none⟩) l.length cap ∧ w.rangeAt b (off + j * 2) (enA l[j]).toList ∧ w.cell? ⟨b, off + j * 2, none⟩ = some (.string (bstr l[j].1)) ∧ w.cell? ⟨b, off + j * 2 + 1, none⟩ = some (.int .i64 (l[j].2 : Int)) := by
 obtain ⟨b, off, cap, hv, -, -, hc⟩ := RowS.at_ h (by omega)
 have hr : w.rangeAt b (off + j * 2) (enA l[j]).toList := fun i x hx => by
  have hi : i < 2 := by
   have := (List.getElem?_eq_some_iff.1 hx).1
   simpa [enA] using this
  rw [Nat.add_assoc]
  refine hc.out (j * 2 + i) x ?_
  rw [flat_get enC_len l j i _ (List.getElem?_eq_getElem hj) hi]
  exact hx
 exact ⟨b, off, cap, hv, hr, hr 0 _ rfl, hr 1 _ rfl⟩
def findR (l : Nms) (x : Str) : Int := match Vd.look l x with
 | none => -1
 | some i => i
theorem look_cons (p : Str × Nat) (l : Nms) (x : Str) : Vd.look (p :: l) x = if p.1 = x then some p.2 else Vd.look l x := by
 unfold Vd.look
 rw [List.find?_cons]
 by_cases h : p.1 = x
 ·simp [h]
 ·simp [h]
set_option maxRecDepth 100000 in
set_option maxHeartbeats 2000000 in
theorem find_r (w : World) {v : Value} {l : Nms} (h : NmsAt w v l) (x : Str) : Calls Tryz.prog 38 #[v, .string (bstr x)] w fun e w' => e = .returned (.int .i64 (findR l x)) ∧ w = w' := by
 have H := Lib.hid h
 obtain ⟨p, c, rfl, hl1, hl2⟩ := RowS.form h
 clear h
 obtain ⟨n, hn⟩ : ∃ n, n = l.length := ⟨_, rfl⟩
 rw [← hn] at hl1 ⊢
 have HN := Lib.hid hn
 clear hn
 go_enter Tryz.func38, Tryz.ntmps38
 go_wp2_with fail
 go_loopw [5] (fun ix wr => ∃ j : Nat, ix = .int .i64 (j : Int) ∧ j ≤ n ∧ wr = w ∧ Hid (Vd.look (l.drop j) x = Vd.look l x)) (fun ix _ => n - (RowKit.intOf ix).toNat)
 case atStart => exact ⟨0, rfl, Nat.zero_le _, rfl, Lib.hid rfl⟩
 case round =>
  obtain ⟨j, rfl, hj, rfl, HL⟩ := hrel
  by_cases hlt : j < n
  ·have hjl : j < l.length := by rw [← HN.out]; exact hlt
   obtain ⟨b, off, cap, hv, -, hc0, hc1⟩ := NmsAt.one H.out hjl
   rw [← HN.out] at hv
   simp only [Value.slice.injEq] at hv
   obtain ⟨rfl, -, rfl⟩ := hv
   have HST := Lib.hid (show Vd.look (l.drop j) x = if l[j].1 = x then some l[j].2 else Vd.look (l.drop (j + 1)) x from by rw [List.drop_eq_getElem_cons hjl, look_cons])
   have hlt' : (j : Int) < (n : Int) := by omega
   generalize l[j].1 = y at *
   generalize l[j].2 = i at *
   have e1 := bstr_toList y
   have e2 := bstr_toList x
   by_cases hyx : y = x
   ·have HX := Lib.hid (show findR l x = (i : Int) from by unfold findR; rw [← HL.out, HST.out, if_pos hyx])
    have hb : ((bstr y).toList == (bstr x).toList) = true := by rw [e1, e2]; simpa using hyx
    have hb2 : (y == x) = true := by simpa using hyx
    clear hyx HST hjl
    go_wp2_with fail
    go_ret
    exact ⟨by rw [HX.out]; rfl, rfl⟩
   ·have HX := Lib.hid (show Vd.look (l.drop (j + 1)) x = Vd.look l x from by rw [← HL.out, HST.out, if_neg hyx])
    have hb : ((bstr y).toList == (bstr x).toList) = false := by rw [e1, e2]; simpa using hyx
    have hb2 : (y == x) = false := by simpa using hyx
    clear hyx HST hjl HL
    go_wp2_with fail
    go_roundw
    case rel => exact ⟨j + 1, by simp, by omega, trivial, HX⟩
    case measure =>
     simp only [RowKit.intOf]
     omega
  ·have hjn : j = n := by omega
   have HX := Lib.hid (show findR l x = -1 from by
    unfold findR
    rw [← HL.out, hjn, HN.out, List.drop_length]
    rfl)
   have hlt' : decide ((j : Int) < (n : Int)) = false := by simp; omega
   clear HL hjn
   go_wp2_with fail
   go_ret
   exact ⟨by rw [HX.out]; rfl, rfl⟩
/-- names in a slice of a call's own -/
def NmsOwn (w : World) (base : Nat) (v : Value) (l : Nms) : Prop := w.ownsRow base 96 2 v l.length (l.flatMap enC)
theorem rowS_of {w : World} {base C n : Nat} {e : TypeId} {v : Value} {xs : List Value} (h : w.ownsRow base e C v n xs) : RowS w C v n xs := by
 have h0 := h
 refine ⟨h.1, ?_⟩
 rcases h.2 with ⟨rfl, h9⟩ | ⟨g, cap, cur, rfl, h1, h2, h3, h4, h5, h6⟩
 ·exact .inl ⟨none, 0, rfl, h9, Nat.zero_le _, fun _ => rfl⟩
 ·refine .inr ⟨g, 0, cap, rfl, h3, h4, fun i x hx => ?_⟩
  have := World.ownsRow.cells (h := h0) (g := g) rfl i x hx
  rw [Go.WideShapes.add_plain] at this
  exact this
theorem NmsOwn.at_ {w : World} {base : Nat} {v : Value} {l : Nms} (h : NmsOwn w base v l) : NmsAt w v l := rowS_of h
def OwnDid (W : World) (l : Nms) (e : Ending) (w' : World) : Prop := ∃ v, e = .returned v ∧ NmsOwn w' W.heap.size v l ∧ Keeps W w'
theorem without_succ {l : Nms} {x : Str} {j : Nat} (h : j < l.length) : withoutL (l.take (j + 1)) x = if l[j].1 = x then withoutL (l.take j) x else withoutL (l.take j) x ++ [l[j]] := by
 unfold withoutL
 rw [List.take_succ_eq_append_getElem h, List.filter_append]
 split <;> simp [*]
set_option maxRecDepth 100000 in
set_option maxHeartbeats 2000000 in
theorem without_r (w : World) {v : Value} {l : Nms} (h : NmsAt w v l) (x : Str) (hll : l.length ≤ 1000000000) : Calls Tryz.prog 85 #[v, .string (bstr x)] w (OwnDid w (withoutL l x)) := by
 have H := Lib.hid h
 obtain ⟨p, c, rfl, hl1, hl2⟩ := RowS.form h
 clear h
 obtain ⟨n, hn⟩ : ∃ n, n = l.length := ⟨_, rfl⟩
 rw [← hn] at hl1 hll ⊢
 have HN := Lib.hid hn
 clear hn
 unfold OwnDid
 go_enter Tryz.func85, Tryz.ntmps85
 go_wp2_with fail
 go_loopw [5, 6] (fun ov ix wr => ∃ (j k : Nat) (po : Option Addr) (co : Nat), ix = .int .i64 (j : Int) ∧ j ≤ n ∧ ov = .slice po k co ∧ k ≤ j ∧ Hid (k = (withoutL (l.take j) x).length ∧ NmsOwn wr w.heap.size (.slice po k co) (withoutL (l.take j) x) ∧ Keeps w wr)) (fun _ ix _ => n - (RowKit.intOf ix).toNat)
 case atStart => exact ⟨0, 0, none, 0, rfl, Nat.zero_le _, rfl, Nat.le_refl _, Lib.hid ⟨rfl, World.ownsRow_nil _ _ _ 2, Keeps.refl _⟩⟩
 case round =>
  obtain ⟨j, k, po, co, rfl, hj, rfl, hkj, HL⟩ := hrel
  by_cases hlt : j < n
  ·have hjl : j < l.length := by rw [← HN.out]; exact hlt
   obtain ⟨b, off, cap, hv, hrg, hc0, hc1⟩ := NmsAt.one (H.out.keeps HL.out.2.2) hjl
   rw [← HN.out] at hv
   simp only [Value.slice.injEq] at hv
   obtain ⟨rfl, -, rfl⟩ := hv
   have HST := Lib.hid (without_succ (x := x) hjl)
   have hlt' : (j : Int) < (n : Int) := by omega
   obtain ⟨y, i, hyi⟩ : ∃ y i, l[j] = (y, i) := ⟨_, _, rfl⟩
   rw [hyi] at HST hrg hc0 hc1
   have HRG := Lib.hid (show wr.rangeAt b (off + j * 2) [.string (bstr y), .int .i64 (i : Int)] from hrg)
   have HOW := Lib.hid (show wr.ownsRow w.heap.size 96 2 (.slice po k co) k ((withoutL (l.take j) x).flatMap enC) from by have := HL.out.2.1; unfold NmsOwn at this; rw [← HL.out.1] at this; exact this)
   have HK := Lib.hid HL.out.2.2
   have HKL := Lib.hid HL.out.1
   have hsz := HL.out.2.2.size
   have e1 := bstr_toList y
   have e2 := bstr_toList x
   clear hyi hrg hjl hc1 HL
   by_cases hyx : y = x
   ·have HX := Lib.hid (HST.out.trans (if_pos hyx))
    have hb : (!(bstr y).toList == (bstr x).toList) = false := by rw [e1, e2]; simpa using hyx
    have hb2 : (y == x) = true := by simpa using hyx
    clear hyx HST
    go_wp2_with fail
    go_roundw
    case rel => exact ⟨j + 1, k, po, co, by simp, by omega, rfl, by omega, Lib.hid ⟨by rw [HX.out]; exact HKL.out, by rw [HX.out]; unfold NmsOwn; rw [← HKL.out]; exact HOW.out, HK.out⟩⟩
    case measure =>
     simp only [RowKit.intOf]
     omega
   ·have HX := Lib.hid (HST.out.trans (if_neg hyx))
    have hb : (!(bstr y).toList == (bstr x).toList) = true := by rw [e1, e2]; simpa using hyx
    have hb2 : (y == x) = false := by simpa using hyx
    clear hyx HST
    go_wp2_with (first
     | refine wpList_ldR rfl enM HRG.out _ rfl rfl ?_
     | (at_builtin; go_loud (refine wpList_apps (base := w.heap.size) enok (by decide) rfl _ _ rfl (.slice po k co) (.slice (some ⟨wr.heap.size, 0, none⟩) 1 1) k 1 ((withoutL (l.take j) x).flatMap enC) [.string (bstr y), .int .i64 (i : Int)] rfl rfl (Frm.ownsRow_keeps HOW.out ((Keeps.refl _).alloc _)) (Frm.rowS_lit rfl rfl rfl) (by simp [Value.oneCell']) (by omega) (by decide) (by rw [Frm.alloc_size]; omega) ?_; intro v' w4 ho4 hg4 hf4; obtain ⟨p4, c4, rfl, -, -⟩ := Frm.ownsRow_form ho4)))
    go_roundw
    case rel =>
     refine ⟨j + 1, k + 1, p4, c4, by simp, by omega, rfl, by omega, Lib.hid ⟨by rw [HX.out]; simp [HKL.out], ?_, (HK.out.alloc _).grown hg4 (Frm.ownsRow_base HOW.out)⟩⟩
     rw [HX.out]
     unfold NmsOwn
     simpa [← HKL.out, enC, enA] using ho4
    case measure =>
     simp only [RowKit.intOf]
     omega
  ·have hjn : j = n := by omega
   have hlt' : decide ((j : Int) < (n : Int)) = false := by simp; omega
   have HF := Lib.hid (show NmsOwn wr w.heap.size (.slice po k co) (withoutL l x) from by have := HL.out.2.1; rwa [hjn, HN.out, List.take_length] at this)
   have HK := Lib.hid HL.out.2.2
   clear HL hjn
   go_wp2_with fail
   go_ret
   exact ⟨_, rfl, HF.out, HK.out⟩
end Rf
end Go.Proofs.YtchjncnolmiejaaGreat

/- The document's disk: put. -/
namespace Go.Proofs.YtchjncnolmiejaaGreat
open Go.RowKit
namespace Rf
open Vd
theorem bl_eq : ∀ (x y : Str), Op.bytesLess x y = decide (x < y)
 | [], [] => by simp [Op.bytesLess]
 | _ :: _, [] => by simp [Op.bytesLess]
 | [], _ :: _ => by simp [Op.bytesLess]
 | a :: x, b :: y => by
  rw [Op.bytesLess, bl_eq x y, Bool.eq_iff_iff]
  simp only [Bool.or_eq_true, decide_eq_true_eq, Bool.and_eq_true, beq_iff_eq, List.cons_lt_cons_iff]
theorem gt_eq (x y : Str) : (!Op.bytesLess y x && !y == x) = decide (x < y) := by
 rw [bl_eq]
 rcases str_tri x y with h | h | h
 ·have h1 : ¬ y < x := fun h2 => str_irrefl _ (str_trans h h2)
  have h2 : ¬ y = x := (str_ne h).symm
  simp [h, h1, h2]
 ·subst h
  simp [str_irrefl]
 ·have h1 : ¬ x < y := fun h2 => str_irrefl _ (str_trans h h2)
  simp [h, h1]
theorem put_eq {l : Nms} (ha : AscN l) {x : Str} {i k : Nat} (hk : k ≤ (withoutL l x).length) (h1 : ∀ j (h : j < (withoutL l x).length), k ≤ j → x < (withoutL l x)[j].1) (h2 : ∀ h : 0 < k, ¬ x < ((withoutL l x)[k - 1]'(by omega)).1) : (withoutL l x).take k ++ [(x, i)] ++ (withoutL l x).drop k = putN l x i := by
 have hasc : AscN (withoutL l x) := ha.filter _
 have hne : ∀ p ∈ withoutL l x, p.1 ≠ x := fun p hp => by simpa [withoutL] using (List.mem_filter.1 hp).2
 have hlt : ∀ p ∈ (withoutL l x).take k, p.1 < x := fun p hp => by
  obtain ⟨j, hj, rfl⟩ := List.mem_iff_getElem.1 hp
  have hjk : j < k := by simp at hj; omega
  rw [List.getElem_take]
  have hjl : j < (withoutL l x).length := by omega
  have hkx : ((withoutL l x)[k - 1]'(by omega)).1 < x := by
   rcases str_tri ((withoutL l x)[k - 1]'(by omega)).1 x with h | h | h
   ·exact h
   ·exact absurd h (hne _ (List.getElem_mem _))
   ·exact absurd h (h2 (by omega))
  by_cases he : j = k - 1
  ·subst he; exact hkx
  ·exact str_trans (List.pairwise_iff_getElem.1 hasc j (k - 1) hjl (by omega) (by omega)) hkx
 have hgt : ∀ p ∈ (withoutL l x).drop k, x < p.1 := fun p hp => by
  obtain ⟨j, hj, rfl⟩ := List.mem_iff_getElem.1 hp
  rw [List.getElem_drop]
  exact h1 _ (by simp at hj; omega) (by omega)
 have e1 : l.filter (fun p => decide (p.1 < x)) = (withoutL l x).take k := by
  have : l.filter (fun p => decide (p.1 < x)) = (withoutL l x).filter (fun p => decide (p.1 < x)) := by
   unfold withoutL
   rw [List.filter_filter]
   refine List.filter_congr fun p _ => ?_
   by_cases h : p.1 < x
   ·simp [h, str_ne h]
   ·simp [h]
  rw [this]
  conv => lhs; rw [← List.take_append_drop k (withoutL l x), List.filter_append]
  rw [List.filter_eq_self.2 (fun p hp => by simpa using hlt p hp), List.filter_eq_nil_iff.2 (fun p hp => by
   have := hgt p hp
   simp only [decide_eq_true_eq]
   exact fun h => str_irrefl _ (str_trans h this)), List.append_nil]
 have e2 : l.filter (fun p => decide (x < p.1)) = (withoutL l x).drop k := by
  have : l.filter (fun p => decide (x < p.1)) = (withoutL l x).filter (fun p => decide (x < p.1)) := by
   unfold withoutL
   rw [List.filter_filter]
   refine List.filter_congr fun p _ => ?_
   by_cases h : x < p.1
   ·simp [h, (str_ne h).symm]
   ·simp [h]
  rw [this]
  conv => lhs; rw [← List.take_append_drop k (withoutL l x), List.filter_append]
  rw [List.filter_eq_nil_iff.2 (fun p hp => by
   have := hlt p hp
   simp only [decide_eq_true_eq]
   exact fun h => str_irrefl _ (str_trans h this)), List.filter_eq_self.2 (fun p hp => by simpa using hgt p hp), List.nil_append]
 unfold putN
 rw [e1, e2]
 simp
theorem put_eq' {l : Nms} (ha : AscN l) {x : Str} {i : Nat} (k : Nat) (hk : k ≤ (withoutL l x).length) (h1 : ∀ j p, (withoutL l x)[j]? = some p → k ≤ j → x < p.1) (h2 : ∀ p, 0 < k → (withoutL l x)[k - 1]? = some p → ¬ x < p.1) : (withoutL l x).take k ++ [(x, i)] ++ (withoutL l x).drop k = putN l x i :=
 put_eq ha hk (fun j h hj => h1 j _ (List.getElem?_eq_getElem h) hj) (fun h => h2 _ h (List.getElem?_eq_getElem (by omega)))
theorem enA_flat (l : Nms) : ∀ u ∈ l.flatMap enC, u.oneCell' = true := fun u hu => by
 obtain ⟨p, -, hp⟩ := List.mem_flatMap.1 hu
 simp [enC, enA] at hp
 rcases hp with rfl | rfl <;> rfl
set_option maxRecDepth 100000 in
set_option maxHeartbeats 4000000 in
theorem put_r (w : World) {v : Value} {l : Nms} (h : NmsAt w v l) (ha : AscN l) (x : Str) (i : Nat) (hll : l.length ≤ 1000000000) : Calls Tryz.prog 39 #[v, .agg #[.string (bstr x), .int .i64 (i : Int)]] w (OwnDid w (putN l x i)) := by
 have HW := Lib.hid (fun w' (k : Keeps w w') => without_r w' (h.keeps k) x hll)
 have HPE := Lib.hid (put_eq' (i := i) ha (x := x))
 have hl1 : (withoutL l x).length ≤ 1000000000 := Nat.le_trans (List.length_filter_le _ _) hll
 obtain ⟨p, c, rfl, -, -⟩ := RowS.form h
 clear h
 unfold OwnDid
 generalize putN l x i = res at *
 generalize withoutL l x = L at *
 go_enter Tryz.func39, Tryz.ntmps39
 go_upto_region 1 with fail
 generalize hWW : World.alloc w _ = w1
 have HK1 := Lib.hid (show Keeps w w1 from by rw [← hWW]; exact (Keeps.refl _).alloc _)
 have HB := Lib.hid (show Blk w1 w.heap.size 96 (enA (x, i)) from by rw [← hWW]; exact Blk.new _ _ _ rfl)
 have HC1 := Lib.hid (HW.out w1 HK1.out)
 clear hWW
 obtain ⟨q, hq⟩ : ∃ q, q = w.heap.size := ⟨_, rfl⟩
 rw [← hq] at HB ⊢
 have HQ := Lib.hid hq
 clear hq HW
 have b0 : w1.cell? ⟨q, 0, none⟩ = some (.string (bstr x)) := by rw [HB.out.cell]; rfl
 have b1 : w1.cell? ⟨q, 1, none⟩ = some (.int .i64 (i : Int)) := by rw [HB.out.cell]; rfl
 unfold OwnDid at HC1
 go_wp2_with fail
 refine HC1.out.mono ?_
 rintro e w2 ⟨lv, rfl, ho, hk⟩
 obtain ⟨pl, cl, rfl, hcl1, hcl2⟩ := Frm.ownsRow_form ho
 have HO := Lib.hid ho
 have HK2 := Lib.hid (HK1.out.trans hk)
 have HB2 := Lib.hid (HB.out.keeps hk)
 clear ho hk HC1 b0 b1 HB HK1
 obtain ⟨n, hn⟩ : ∃ n, n = L.length := ⟨_, rfl⟩
 have HNN := Lib.hid hn
 rw [← hn] at hl1 hcl1 ⊢
 clear hn
 go_upto_block 0 with fail
 go_cut [5] (fun kx wx => ∃ k : Nat, kx = .int .i64 (k : Int) ∧ k ≤ n ∧ Hid (Keeps w2 wx ∧ L.take k ++ [(x, i)] ++ L.drop k = res))
 case first =>
  go_wp2_with fail
  go_loopw [5] (fun kx wr => ∃ k : Nat, kx = .int .i64 (k : Int) ∧ k ≤ n ∧ Hid (Keeps w2 wr ∧ ∀ j p, L[j]? = some p → k ≤ j → x < p.1)) (fun kx _ => (RowKit.intOf kx).toNat)
  case atStart => exact ⟨n, rfl, Nat.le_refl _, Lib.hid ⟨Keeps.refl _, fun j p h hk => by have := (List.getElem?_eq_some_iff.1 h).1; rw [HNN.out] at hk; omega⟩⟩
  case round =>
   obtain ⟨k, rfl, hk, HR⟩ := hrel
   by_cases hkp : 0 < k
   ·have hkl : k - 1 < L.length := by rw [← HNN.out]; omega
    obtain ⟨b, off, cap, hv, -, hc0, -⟩ := NmsAt.one ((NmsOwn.at_ HO.out).keeps HR.out.1) hkl
    rw [← HNN.out] at hv
    simp only [Value.slice.injEq] at hv
    obtain ⟨rfl, -, rfl⟩ := hv
    obtain ⟨y, hy⟩ : ∃ y, y = L[k - 1].1 := ⟨_, rfl⟩
    rw [← hy] at hc0
    have HY := Lib.hid (show ∀ p, L[k - 1]? = some p → p.1 = y from fun p hp => by rw [hy, List.getElem?_eq_getElem hkl] at *; cases hp; rfl)
    obtain ⟨k1, hk1⟩ : ∃ k1, k = k1 + 1 := ⟨k - 1, by omega⟩
    subst hk1
    have hb0 : wr.cell? ⟨q, 0, none⟩ = some (.string (bstr x)) := by rw [(HB2.out.keeps HR.out.1).cell]; rfl
    have hw1 : IntKind.i64.wrap (((k1 + 1 : Nat) : Int) - 1) = (k1 : Int) := by rw [IntKind.wrap_i64]; omega
    have hw2 : IntKind.i64.wrap (k1 : Int) = (k1 : Int) := by rw [IntKind.wrap_i64]; omega
    have hkn : (k1 : Int) < (n : Int) := by omega
    rw [Nat.add_sub_cancel] at hc0 HY
    have e1 := bstr_toList y
    have e2 := bstr_toList x
    have hgt := gt_eq x y
    have HKE := Lib.hid (Keeps.refl wr).drew
    clear hkl hy
    by_cases hlt : x < y
    ·have HG := Lib.hid (show ∀ j p, L[j]? = some p → k1 ≤ j → x < p.1 from fun j p hp hj => by
      by_cases he : j = k1
      ·subst he; rw [HY.out p hp]; exact hlt
      ·exact HR.out.2 j p hp (by omega))
     rw [decide_eq_true hlt] at hgt
     clear hlt
     go_upto_region 3 with fail
     refine wp_region_noPanic ?_
     refine wp_region_held_drew (S := fun w' => Keeps (wr) w') (by kernel_rfl) ((Keeps.refl _).drew) (fun _ => ?_)
     have hHeld : Keeps (wr) (wr).drew := (Keeps.refl _).drew
     refine tq 0 13 ?_
     refine tq 1 14 ?_
     refine tq 2 15 ?_
     refine tq 3 16 ?_
     refine tq 4 17 ?_
     refine tq 5 18 ?_
     refine tq 6 19 ?_
     refine tq 7 20 ?_
     refine tq 8 21 ?_ (hy := fun w' hSw => by
      have hSw : Keeps _ w' := hSw
      have hx := keep1 hSw hc0
      clear hSw
      go_simp
      try with_reducible rfl)
     refine tq 9 22 ?_
     refine tq 10 23 ?_ (hy := fun w' hSw => by
      have hSw : Keeps _ w' := hSw
      have hx := keep1 hSw hb0
      clear hSw
      go_simp
      try with_reducible rfl)
     refine tq 11 24 ?_
     refine tq 12 25 ?_
     refine wpAnyH_done (by kernel_rfl) ?_ _
     refine NoPanic.normal ?_
     go_wp2_with fail
     go_roundw
     case rel => exact ⟨k1, by simp, by omega, Lib.hid ⟨HR.out.1.trans HKE.out, HG.out⟩⟩
     case measure =>
      simp [RowKit.intOf]
    ·have HF := Lib.hid (HPE.out (k1 + 1) (by rw [← HNN.out]; exact hk) HR.out.2 (fun p _ hp => by rw [Nat.add_sub_cancel] at hp; rw [HY.out p hp]; exact hlt))
     rw [decide_eq_false hlt] at hgt
     clear hlt
     go_upto_region 3 with fail
     refine wp_region_noPanic ?_
     refine wp_region_held_drew (S := fun w' => Keeps (wr) w') (by kernel_rfl) ((Keeps.refl _).drew) (fun _ => ?_)
     have hHeld : Keeps (wr) (wr).drew := (Keeps.refl _).drew
     refine tq 0 13 ?_
     refine tq 1 14 ?_
     refine tq 2 15 ?_
     refine tq 3 16 ?_
     refine tq 4 17 ?_
     refine tq 5 18 ?_
     refine tq 6 19 ?_
     refine tq 7 20 ?_
     refine tq 8 21 ?_ (hy := fun w' hSw => by
      have hSw : Keeps _ w' := hSw
      have hx := keep1 hSw hc0
      clear hSw
      go_simp
      try with_reducible rfl)
     refine tq 9 22 ?_
     refine tq 10 23 ?_ (hy := fun w' hSw => by
      have hSw : Keeps _ w' := hSw
      have hx := keep1 hSw hb0
      clear hSw
      go_simp
      try with_reducible rfl)
     refine tq 11 24 ?_
     refine tq 12 25 ?_
     refine wpAnyH_done (by kernel_rfl) ?_ _
     refine NoPanic.normal ?_
     go_wp2_with fail
     go_meet
     exact ⟨k1 + 1, by simp, hk, Lib.hid ⟨HR.out.1.trans HKE.out, HF.out⟩⟩
   ·have hk0 : k = 0 := by omega
    subst hk0
    have HF := Lib.hid (HPE.out 0 (Nat.zero_le _) HR.out.2 (fun p h _ => absurd h (by omega)))
    have HKE := Lib.hid (Keeps.refl wr).drew
    go_upto_region 3 with fail
    refine wp_region_noPanic ?_
    refine wp_region_held_drew (S := fun w' => Keeps (wr) w') (by kernel_rfl) ((Keeps.refl _).drew) (fun _ => ?_)
    have hHeld : Keeps (wr) (wr).drew := (Keeps.refl _).drew
    refine tq 0 13 ?_
    refine tq 1 14 ?_
    refine tq 2 15 ?_
    refine wpAnyH_take (i := 3) (v := undef) (by rfl) (by kernel_rfl) (by kernel_rfl) (by kernel_rfl) (by intro _ _ _ h; exact h) (Or.inr ⟨by kernel_rfl, rfl⟩) (by assumption) ?rest30
    change wpAnyH _ _ _ _ _ _ _ (Act.put _ (some 16) _) _
    try simp only [Act.put, List.setIfInBounds_toArray, List.set_cons_zero, List.set_cons_succ]
    refine wpAnyH_take (i := 4) (v := undef) (by rfl) (by kernel_rfl) (by kernel_rfl) (by kernel_rfl) (by intro _ _ _ h; exact h) (Or.inr ⟨by kernel_rfl, rfl⟩) (by assumption) ?rest31
    change wpAnyH _ _ _ _ _ _ _ (Act.put _ (some 17) _) _
    try simp only [Act.put, List.setIfInBounds_toArray, List.set_cons_zero, List.set_cons_succ]
    refine wpAnyH_take (i := 5) (v := undef) (by rfl) (by kernel_rfl) (by kernel_rfl) (by kernel_rfl) (by intro _ _ _ h; exact h) (Or.inr ⟨by kernel_rfl, rfl⟩) (by assumption) ?rest32
    change wpAnyH _ _ _ _ _ _ _ (Act.put _ (some 18) _) _
    try simp only [Act.put, List.setIfInBounds_toArray, List.set_cons_zero, List.set_cons_succ]
    refine wpAnyH_take (i := 6) (v := undef) (by rfl) (by kernel_rfl) (by kernel_rfl) (by kernel_rfl) (by intro _ _ _ h; exact h) (Or.inr ⟨by kernel_rfl, rfl⟩) (by assumption) ?rest33
    change wpAnyH _ _ _ _ _ _ _ (Act.put _ (some 19) _) _
    try simp only [Act.put, List.setIfInBounds_toArray, List.set_cons_zero, List.set_cons_succ]
    refine wpAnyH_take (i := 7) (v := undef) (by rfl) (by kernel_rfl) (by kernel_rfl) (by kernel_rfl) (by intro _ _ _ h; exact h) (Or.inr ⟨by kernel_rfl, rfl⟩) (by assumption) ?rest34
    change wpAnyH _ _ _ _ _ _ _ (Act.put _ (some 20) _) _
    try simp only [Act.put, List.setIfInBounds_toArray, List.set_cons_zero, List.set_cons_succ]
    refine wpAnyH_take (i := 8) (v := undef) (by rfl) (by kernel_rfl) (by kernel_rfl) (by kernel_rfl) (by intro _ _ _ h; exact h) (Or.inr ⟨by kernel_rfl, rfl⟩) (by assumption) ?rest35
    change wpAnyH _ _ _ _ _ _ _ (Act.put _ (some 21) _) _
    try simp only [Act.put, List.setIfInBounds_toArray, List.set_cons_zero, List.set_cons_succ]
    refine wpAnyH_take (i := 9) (v := undef) (by rfl) (by kernel_rfl) (by kernel_rfl) (by kernel_rfl) (by intro _ _ _ h; exact h) (Or.inr ⟨by kernel_rfl, rfl⟩) (by assumption) ?rest36
    change wpAnyH _ _ _ _ _ _ _ (Act.put _ (some 22) _) _
    try simp only [Act.put, List.setIfInBounds_toArray, List.set_cons_zero, List.set_cons_succ]
    refine wpAnyH_take (i := 10) (v := undef) (by rfl) (by kernel_rfl) (by kernel_rfl) (by kernel_rfl) (by intro _ _ _ h; exact h) (Or.inr ⟨by kernel_rfl, rfl⟩) (by assumption) ?rest37
    change wpAnyH _ _ _ _ _ _ _ (Act.put _ (some 23) _) _
    try simp only [Act.put, List.setIfInBounds_toArray, List.set_cons_zero, List.set_cons_succ]
    refine wpAnyH_take (i := 11) (v := undef) (by rfl) (by kernel_rfl) (by kernel_rfl) (by kernel_rfl) (by intro _ _ _ h; exact h) (Or.inr ⟨by kernel_rfl, rfl⟩) (by assumption) ?rest38
    change wpAnyH _ _ _ _ _ _ _ (Act.put _ (some 24) _) _
    try simp only [Act.put, List.setIfInBounds_toArray, List.set_cons_zero, List.set_cons_succ]
    refine tq 12 25 ?_
    refine wpAnyH_done (by kernel_rfl) ?_ _
    refine NoPanic.normal ?_
    go_wp2_with fail
    go_meet
    exact ⟨0, rfl, Nat.zero_le _, Lib.hid ⟨HR.out.1.trans HKE.out, HF.out⟩⟩
 case rest =>
 obtain ⟨k, rfl, hk, HF⟩ := hcut
 obtain ⟨w3, rfl⟩ : ∃ z : World, z = wc := ⟨_, rfl⟩
 have hkl : k ≤ L.length := by rw [← HNN.out]; exact hk
 have HLO := Lib.hid (fun w' (kw : Keeps w2 w') => (NmsOwn.at_ HO.out).keeps kw)
 have hc1 : ∀ w', (Instr.slice 56 (.slice pl n cl) none (some (.int .i64 (k : Int))) none).run Tryz.prog w' = .ok (cutS 2 pl 0 k cl) w' := fun w' => run_cutS_h w' Tryz.underlying56 (by intro w; kernel_rfl) pl n cl k (by omega)
 have hc2 : ∀ w', (Instr.slice 56 (.slice pl n cl) (some (.int .i64 (k : Int))) none none).run Tryz.prog w' = .ok (cutS 2 pl k n cl) w' := fun w' => run_cutS_l w' Tryz.underlying56 (by intro w; kernel_rfl) pl n cl k hk
 have HP1 := Lib.hid (fun w' (kw : Keeps w2 w') => show RowS w' 2 (cutS 2 pl 0 k cl) k ((L.take k).flatMap enC) from by
  have h0 := HLO.out w' kw
  unfold NmsAt at h0
  have := RowS.part enC_len h0 (Nat.zero_le k) hkl
  simpa using this)
 have HP2 := Lib.hid (fun w' (kw : Keeps w2 w') => show RowS w' 2 (cutS 2 pl k n cl) (n - k) ((L.drop k).flatMap enC) from by
  have h0 := HLO.out w' kw
  unfold NmsAt at h0
  have := RowS.part enC_len h0 hkl (Nat.le_refl _)
  rw [List.take_of_length_le (by simp)] at this
  rw [HNN.out]
  exact this)
 obtain ⟨pa, hpa⟩ := cutS_sl 2 pl 0 k cl
 obtain ⟨pb, hpb⟩ := cutS_sl 2 pl k n cl
 rw [hpa] at hc1 HP1
 rw [hpb] at hc2 HP2
 rw [Nat.sub_zero, Nat.sub_zero] at hc1 HP1
 clear hpa hpb
 have HK3 := Lib.hid HF.out.1
 have HRES := Lib.hid HF.out.2
 clear HF
 go_upto_region 7 with (at_builtin; go_loud (refine wpList_apps (base := w3.heap.size) enok (by decide) rfl _ _ rfl (.slice none 0 0) (.slice pa k cl) 0 k [] ((L.take k).flatMap enC) rfl rfl (World.ownsRow_nil _ _ _ 2) (HP1.out _ HK3.out) (enA_flat _) (by omega) (by decide) (Nat.le_refl _) ?_; intro v4 w4 ho4 hg4 hf4; obtain ⟨p4, c4, rfl, -, -⟩ := Frm.ownsRow_form ho4))
 have HO4 := Lib.hid (show w4.ownsRow w3.heap.size 96 2 (.slice p4 k c4) k ((L.take k).flatMap enC) from by simpa using ho4)
 have HK4 := Lib.hid (show Keeps w3 w4 from (Keeps.refl w3).grown hg4 (fun k hk => by simp [Value.ownBlock] at hk))
 have HB4 := Lib.hid (show Blk w4 q 96 #[.string (bstr x), .int .i64 (i : Int)] from HB2.out.keeps (HK3.out.trans HK4.out))
 have hs4 := HK4.out.size
 clear ho4 hg4 hf4
 go_upto_region 8 with (first
  | refine wpList_ld rfl enM HB4.out _ rfl rfl ?_
  | (at_builtin; go_loud (refine wpList_apps (base := w3.heap.size) enok (by decide) rfl _ _ rfl (.slice p4 k c4) (.slice (some ⟨w4.heap.size, 0, none⟩) 1 1) k 1 ((L.take k).flatMap enC) (enC (x, i)) rfl rfl (Frm.ownsRow_keeps HO4.out ((Keeps.refl _).alloc _)) (Frm.rowS_lit rfl rfl rfl) (by simp [enC, enA, Value.oneCell']) (by omega) (by decide) (by rw [Frm.alloc_size]; omega) ?_; intro v5 w5 ho5 hg5 hf5; obtain ⟨p5, c5, rfl, -, -⟩ := Frm.ownsRow_form ho5)))
 have HO5 := Lib.hid ho5
 have HK5 := Lib.hid (show Keeps w3 w5 from (HK4.out.alloc _).grown hg5 (Frm.ownsRow_base HO4.out))
 have hs5 := HK5.out.size
 clear ho5 hg5 hf5
 go_wp2_with (at_builtin; go_loud (refine wpList_apps (base := w3.heap.size) enok (by decide) rfl _ _ rfl (.slice p5 (k + 1) c5) (.slice pb (n - k) (cl - k)) (k + 1) (n - k) ((L.take k).flatMap enC ++ enC (x, i)) ((L.drop k).flatMap enC) rfl rfl HO5.out (HP2.out _ (HK3.out.trans HK5.out)) (enA_flat _) (by omega) (by decide) hs5 ?_; intro v6 w6 ho6 hg6 hf6; obtain ⟨p6, c6, rfl, -, -⟩ := Frm.ownsRow_form ho6))
 go_ret
 have hk6 : Keeps w3 w6 := HK5.out.grown hg6 (Frm.ownsRow_base HO5.out)
 have hbs : w.heap.size ≤ w3.heap.size := (HK2.out.trans HK3.out).size
 refine ⟨_, rfl, ?_, (HK2.out.trans HK3.out).trans hk6⟩
 unfold NmsOwn
 rw [← HRES.out]
 have hlen : (L.take k ++ [(x, i)] ++ L.drop k).length = k + 1 + (n - k) := by simp [HNN.out]; omega
 rw [hlen]
 have : (L.take k ++ [(x, i)] ++ L.drop k).flatMap enC = (L.take k).flatMap enC ++ enC (x, i) ++ (L.drop k).flatMap enC := by simp
 rw [this]
 exact ⟨ho6.1, ho6.2.imp id (fun ⟨g, cap, cur, h1, h2, h3⟩ => ⟨g, cap, cur, h1, Nat.le_trans hbs h2, h3⟩)⟩
end Rf
end Go.Proofs.YtchjncnolmiejaaGreat

/- The document's disk: do. -/
namespace Go.Proofs.YtchjncnolmiejaaGreat
open Go.RowKit
namespace Rf
open Vd
theorem ownsRow_low {w : World} {base base' C n : Nat} {e : TypeId} {v : Value} {xs : List Value} (h : w.ownsRow base e C v n xs) (hb : base' ≤ base) : w.ownsRow base' e C v n xs :=
 ⟨h.1, h.2.imp id (fun ⟨g, cap, cur, h1, h2, h3⟩ => ⟨g, cap, cur, h1, Nat.le_trans hb h2, h3⟩)⟩
def trA (t : RTurn) : Array Value := #[.string (bstr t.frm), .string (bstr t.dst), .int .i64 t.file]
/-- names that come of names: their slice is the old one or a new one -/
def DoDid (W : World) (v : Value) (l' : Nms) (e : Ending) (w' : World) : Prop := ∃ v', e = .returned v' ∧ NmsOwn w' 0 v' l' ∧ (∀ y, v'.ownBlock = some y → v.ownBlock = some y ∨ W.heap.size ≤ y) ∧ Keeps W w'
theorem asc_without {l : Nms} (h : AscN l) (x : Str) : AscN (withoutL l x) := h.filter _
theorem without_le (l : Nms) (x : Str) : (withoutL l x).length ≤ l.length := List.length_filter_le _ _
set_option maxRecDepth 100000 in
set_option maxHeartbeats 2000000 in
theorem do_r (w : World) {v : Value} {l : Nms} (h : NmsOwn w 0 v l) (ha : AscN l) (t : RTurn) (hll : l.length ≤ 100000000) : Calls Tryz.prog 65 #[v, .agg (trA t)] w (DoDid w v (doR l t)) := by
 have H := Lib.hid h
 have HA := Lib.hid ha
 obtain ⟨p, c, rfl, -, -⟩ := Frm.ownsRow_form h
 clear h ha
 have HX : Hid (doR l t = if t.file < 0 then (match Vd.look l t.frm with | none => l | some f => if t.dst = [] then withoutL l t.frm else putN (withoutL l t.frm) t.dst f) else if t.dst = [] then l else putN l t.dst t.file.toNat) := Lib.hid rfl
 unfold DoDid
 obtain ⟨fr, dst, fi⟩ := t
 simp only at HX
 go_enter Tryz.func65, Tryz.ntmps65
 go_upto_region 1 with fail
 generalize hW : World.alloc w _ = w1
 have HK1 := Lib.hid (show Keeps w w1 from by rw [← hW]; exact (Keeps.refl _).alloc _)
 have HB := Lib.hid (show Blk w1 w.heap.size 131 #[.string (bstr fr), .string (bstr dst), .int .i64 fi] from by rw [← hW]; exact Blk.new _ _ _ rfl)
 clear hW
 obtain ⟨q, hq⟩ : ∃ q, q = w.heap.size := ⟨_, rfl⟩
 rw [← hq] at HB ⊢
 have HQ := Lib.hid hq
 clear hq
 have b0 : w1.cell? ⟨q, 0, none⟩ = some (.string (bstr fr)) := by rw [HB.out.cell]; rfl
 have b2 : w1.cell? ⟨q, 2, none⟩ = some (.int .i64 fi) := by rw [HB.out.cell]; rfl
 have HFD := Lib.hid (find_r w1 ((NmsOwn.at_ H.out).keeps HK1.out) fr)
 have HWO := Lib.hid (without_r w1 ((NmsOwn.at_ H.out).keeps HK1.out) fr (by omega))
 go_upto_if 9 with fail
 go_cut [0, 5] (fun lv fv wx => ∃ (v' : Value) (l' : Nms) (f : Int), lv = v' ∧ fv = .int .i64 f ∧ Hid (NmsOwn wx 0 v' l' ∧ AscN l' ∧ l'.length ≤ 100000000 ∧ 0 ≤ f ∧ (∀ y, v'.ownBlock = some y → (Value.slice p l.length c).ownBlock = some y ∨ w.heap.size ≤ y) ∧ Keeps w1 wx ∧ doR l ⟨fr, dst, fi⟩ = if dst = [] then l' else putN l' dst f.toNat))
 case first =>
  by_cases hf : fi < 0
  ·have HX1 := Lib.hid (HX.out.trans (if_pos hf))
   have HFR : Hid (findR l fr = match Vd.look l fr with | none => -1 | some i => (i : Int)) := Lib.hid rfl
   cases hlk : Vd.look l fr with
   | none =>
    have HD := Lib.hid (show doR l ⟨fr, dst, fi⟩ = l from by rw [HX1.out, hlk])
    have hfr : findR l fr = -1 := by rw [HFR.out, hlk]
    rw [hfr] at HFD
    clear hfr hlk HFR
    go_wp2_with fail
    refine HFD.out.mono ?_
    rintro e w2 ⟨rfl, rfl⟩
    go_wp2_with fail
    go_ret
    refine ⟨.slice p l.length c, rfl, ?_, fun y hy => .inl hy, HK1.out⟩
    rw [HD.out]
    exact Frm.ownsRow_keeps H.out HK1.out
   | some i =>
    have HD := Lib.hid (show doR l ⟨fr, dst, fi⟩ = if dst = [] then withoutL l fr else putN (withoutL l fr) dst i from by rw [HX1.out, hlk])
    have hfr : findR l fr = (i : Int) := by rw [HFR.out, hlk]
    rw [hfr] at HFD
    clear hfr hlk HFR
    unfold OwnDid at HWO
    go_wp2_with fail
    refine HFD.out.mono ?_
    rintro e w2 ⟨rfl, rfl⟩
    go_wp2_with fail
    refine HWO.out.mono ?_
    rintro e w2 ⟨v2, rfl, ho, hk⟩
    have HO := Lib.hid ho
    have HK2 := Lib.hid hk
    clear ho hk HWO HFD b0 b2
    go_wp2_with fail
    go_meet
    exact ⟨v2, withoutL l fr, (i : Int), rfl, rfl, Lib.hid ⟨ownsRow_low HO.out (Nat.zero_le _), asc_without HA.out fr, Nat.le_trans (without_le l fr) hll, by omega, fun y hy => .inr (Nat.le_trans HK1.out.size (Frm.ownsRow_base HO.out y hy)), HK2.out, by rw [HD.out]; simp⟩⟩
  ·have HX1 := Lib.hid (HX.out.trans (if_neg hf))
   clear HFD HWO
   go_wp2_with fail
   go_meet
   exact ⟨.slice p l.length c, l, fi, rfl, rfl, Lib.hid ⟨Frm.ownsRow_keeps H.out HK1.out, HA.out, hll, by omega, fun y hy => .inl hy, Keeps.refl _, HX1.out⟩⟩
 case rest =>
 obtain ⟨v', l', f, rfl, rfl, HC⟩ := hcut
 obtain ⟨w2, rfl⟩ : ∃ z : World, z = wc := ⟨_, rfl⟩
 have HB2 := Lib.hid (HB.out.keeps HC.out.2.2.2.2.2.1)
 have b1 : w2.cell? ⟨q, 1, none⟩ = some (.string (bstr dst)) := by rw [HB2.out.cell]; rfl
 have HKK := Lib.hid (HK1.out.trans HC.out.2.2.2.2.2.1)
 obtain ⟨p', c', rfl, -, -⟩ := Frm.ownsRow_form HC.out.1
 obtain ⟨F, rfl⟩ : ∃ F : Nat, f = F := ⟨f.toNat, by have := HC.out.2.2.2.1; omega⟩
 have bt := bstr_toList dst
 have bz : (⟨#[]⟩ : ByteArray).toList = [] := bstr_toList []
 clear HFD HWO b0 b2 HX
 by_cases hd : dst = []
 ·have HD := Lib.hid (HC.out.2.2.2.2.2.2.trans (if_pos hd))
  have e1 : (dst == []) = true := by rw [hd]; rfl
  clear hd
  go_wp2_with fail
  go_ret
  refine ⟨_, rfl, ?_, HC.out.2.2.2.2.1, HKK.out⟩
  rw [HD.out]
  exact HC.out.1
 ·have HD : Hid (doR l ⟨fr, dst, fi⟩ = putN l' dst F) := Lib.hid (HC.out.2.2.2.2.2.2.trans (if_neg hd))
  have e1 : (dst == []) = false := by simp [hd]
  have HPT := Lib.hid (put_r w2 (NmsOwn.at_ HC.out.1) HC.out.2.1 dst F (by have := HC.out.2.2.1; omega))
  unfold OwnDid at HPT
  clear hd
  go_wp2_with fail
  refine HPT.out.mono ?_
  rintro e w3 ⟨v3, rfl, ho, hk⟩
  have HO := Lib.hid ho
  have HK3 := Lib.hid hk
  clear ho hk HPT b1
  go_wp2_with fail
  go_ret
  refine ⟨_, rfl, ?_, fun y hy => .inr (Nat.le_trans HKK.out.size (Frm.ownsRow_base HO.out y hy)), HKK.out.trans HK3.out⟩
  rw [HD.out]
  exact ownsRow_low HO.out (Nat.zero_le _)
end Rf
end Go.Proofs.YtchjncnolmiejaaGreat

/- The document's disk in memory; begin, Find, Failing, Arm. -/
namespace Go.Proofs.YtchjncnolmiejaaGreat
open Go.RowKit
namespace Rf
open Vd
def trC (t : RTurn) : List Value := (trA t).toList
theorem trC_len (t : RTurn) : (trC t).length = 3 := rfl
def wrC (p : Pat) : List Value := [.int .i64 (p.place : Int), .string (bstr p.b)]
theorem wrC_len (p : Pat) : (wrC p).length = 2 := rfl
def filC (f : RFil × Value) : List Value := [.string (bstr f.1.now), .string (bstr f.1.sure), f.2]
theorem filC_len (f : RFil × Value) : (filC f).length = 3 := rfl
def rdA (d : RDsk) (fv nv sv wv : Value) : Array Value := #[fv, nv, sv, wv, .int .i64 d.cap, .bool d.down, .int .i64 d.calls, .int .i64 d.fail, .int .i64 d.crash, .int .i64 d.err]
/-- bounds of the document's disk -/
structure RFit (d : RDsk) (k : Nat) : Prop where
 f : d.files.length ≤ k
 n : d.now.length ≤ k
 s : d.sure.length ≤ k
 w : d.waits.length ≤ k
 p : ∀ x ∈ d.files, x.waits.length ≤ k
 b : ∀ x ∈ d.files, x.now.length ≤ 1000000000 ∧ x.sure.length ≤ 1000000000
 c0 : 0 ≤ d.calls
 c1 : d.calls ≤ k
 t1 : -1 ≤ d.fail ∧ d.fail ≤ 9223372036854775807
 t2 : -1 ≤ d.crash ∧ d.crash ≤ 9223372036854775807
 an : AscN d.now
 au : AscN d.sure
 is : ∀ p ∈ d.now, p.2 < d.files.length
 cap : 1 ≤ d.cap ∧ d.cap ≤ 4194304
structure RefIn (w : World) (M : Nat → Prop) (m : Nat) (fv nv sv wv : Value) (fw : List Value) (d : RDsk) (k : Nat) : Prop where
 blk : Blk w m 59 (rdA d fv nv sv wv)
 files : w.ownsRow 0 93 3 fv d.files.length ((d.files.zip fw).flatMap filC)
 len : fw.length = d.files.length
 waits : ∀ i (h : i < fw.length) (h2 : i < d.files.length), w.ownsRow 0 127 2 fw[i] d.files[i].waits.length (d.files[i].waits.flatMap wrC)
 now : NmsOwn w 0 nv d.now
 sure : NmsOwn w 0 sv d.sure
 turns : w.ownsRow 0 131 3 wv d.waits.length (d.waits.flatMap trC)
 sm : M m
 sf : ∀ y, fv.ownBlock = some y → M y
 sn : ∀ y, nv.ownBlock = some y → M y
 ss : ∀ y, sv.ownBlock = some y → M y
 st : ∀ y, wv.ownBlock = some y → M y
 sw : ∀ v ∈ fw, ∀ y, v.ownBlock = some y → M y
 fit : RFit d k
def RefAt (w : World) (M : Nat → Prop) (m : Nat) (d : RDsk) (k : Nat) : Prop := ∃ fv nv sv wv fw, RefIn w M m fv nv sv wv fw d k
section
variable {w w' : World} {M : Nat → Prop} {m : Nat} {fv nv sv wv : Value} {fw : List Value} {d : RDsk} {k : Nat}
theorem NmsOwn.mods {T : Nat → Prop} {v : Value} {l : Nms} {base : Nat} (h : NmsOwn w base v l) (hm : Mods T w w') (hn : ∀ y, v.ownBlock = some y → ¬ T y) : NmsOwn w' base v l := Frm.ownsRow_mods h hm hn
theorem RefIn.apart (h : RefIn w M m fv nv sv wv fw d k) {T : Nat → Prop} (hm : Mods T w w') (hd : ∀ y, M y → ¬ T y) : RefIn w' M m fv nv sv wv fw d k :=
 {h with
  blk := h.blk.mods hm (hd _ h.sm)
  files := Frm.ownsRow_mods h.files hm (fun y hy => hd _ (h.sf y hy))
  waits := fun i h1 h2 => Frm.ownsRow_mods (h.waits i h1 h2) hm (fun y hy => hd _ (h.sw _ (List.getElem_mem h1) y hy))
  now := h.now.mods hm (fun y hy => hd _ (h.sn y hy))
  sure := h.sure.mods hm (fun y hy => hd _ (h.ss y hy))
  turns := Frm.ownsRow_mods h.turns hm (fun y hy => hd _ (h.st y hy)) }
theorem RefAt.apart (h : RefAt w M m d k) {T : Nat → Prop} (hm : Mods T w w') (hd : ∀ y, M y → ¬ T y) : RefAt w' M m d k := let ⟨_, _, _, _, _, h⟩ := h; ⟨_, _, _, _, _, h.apart hm hd⟩
theorem RefAt.keeps (h : RefAt w M m d k) (hk : Keeps w w') : RefAt w' M m d k := h.apart (T := fun _ => False) (Mods.of_keeps hk) (fun _ _ h => h)
theorem RefIn.wide (h : RefIn w M m fv nv sv wv fw d k) {T : Nat → Prop} (hT : ∀ y, M y → T y) : RefIn w T m fv nv sv wv fw d k :=
 {h with sm := hT _ h.sm, sf := fun y hy => hT _ (h.sf y hy), sn := fun y hy => hT _ (h.sn y hy), ss := fun y hy => hT _ (h.ss y hy), st := fun y hy => hT _ (h.st y hy), sw := fun v hv y hy => hT _ (h.sw v hv y hy) }
theorem RefAt.wide (h : RefAt w M m d k) {T : Nat → Prop} (hT : ∀ y, M y → T y) : RefAt w T m d k := let ⟨_, _, _, _, _, h⟩ := h; ⟨_, _, _, _, _, h.wide hT⟩
/-- no slice of it lies in its own block -/
theorem RefIn.rows (h : RefIn w M m fv nv sv wv fw d k) (hm : Mods (· = m) w w') : w'.ownsRow 0 93 3 fv d.files.length ((d.files.zip fw).flatMap filC) ∧ (∀ i (h : i < fw.length) (h2 : i < d.files.length), w'.ownsRow 0 127 2 fw[i] d.files[i].waits.length (d.files[i].waits.flatMap wrC)) ∧ NmsOwn w' 0 nv d.now ∧ NmsOwn w' 0 sv d.sure ∧ w'.ownsRow 0 131 3 wv d.waits.length (d.waits.flatMap trC) :=
 ⟨Frm.ownsRow_mods h.files hm (fun y hy e => Frm.ownsRow_ne h.files h.blk (by decide) (by rw [hy, e])),
 fun i h1 h2 => Frm.ownsRow_mods (h.waits i h1 h2) hm (fun y hy e => Frm.ownsRow_ne (h.waits i h1 h2) h.blk (by decide) (by rw [hy, e])),
 h.now.mods hm (fun y hy e => Frm.ownsRow_ne h.now h.blk (by decide) (by rw [hy, e])),
 h.sure.mods hm (fun y hy e => Frm.ownsRow_ne h.sure h.blk (by decide) (by rw [hy, e])),
 Frm.ownsRow_mods h.turns hm (fun y hy e => Frm.ownsRow_ne h.turns h.blk (by decide) (by rw [hy, e]))⟩
theorem RefIn.cells (h : RefIn w M m fv nv sv wv fw d k) : w.cell? ⟨m, 0, none⟩ = some fv ∧ w.cell? ⟨m, 1, none⟩ = some nv ∧ w.cell? ⟨m, 2, none⟩ = some sv ∧ w.cell? ⟨m, 3, none⟩ = some wv ∧ w.cell? ⟨m, 4, none⟩ = some (.int .i64 d.cap) ∧ w.cell? ⟨m, 5, none⟩ = some (.bool d.down) ∧ w.cell? ⟨m, 6, none⟩ = some (.int .i64 d.calls) ∧ w.cell? ⟨m, 7, none⟩ = some (.int .i64 d.fail) ∧ w.cell? ⟨m, 8, none⟩ = some (.int .i64 d.crash) ∧ w.cell? ⟨m, 9, none⟩ = some (.int .i64 d.err) := by
 refine ⟨?_, ?_, ?_, ?_, ?_, ?_, ?_, ?_, ?_, ?_⟩ <;> (rw [h.blk.cell]; rfl)
/-- its counters alone are written -/
theorem RefIn.turn (h : RefIn w M m fv nv sv wv fw d k) (hm : Mods (· = m) w w') {down : Bool} {calls fail crash err : Int} (hB : Blk w' m 59 (rdA { d with down := down, calls := calls, fail := fail, crash := crash, err := err } fv nv sv wv)) {k' : Nat} (hf : RFit { d with down := down, calls := calls, fail := fail, crash := crash, err := err } k') : RefIn w' M m fv nv sv wv fw { d with down := down, calls := calls, fail := fail, crash := crash, err := err } k' := by
 obtain ⟨h1, h2, h3, h4, h5⟩ := h.rows hm
 exact { blk := hB, files := h1, len := h.len, waits := h2, now := h3, sure := h4, turns := h5, sm := h.sm, sf := h.sf, sn := h.sn, ss := h.ss, st := h.st, sw := h.sw, fit := hf }
end
end Rf
end Go.Proofs.YtchjncnolmiejaaGreat

/- The document's disk: begin. -/
namespace Go.Proofs.YtchjncnolmiejaaGreat
open Go.RowKit
namespace Rf
open Vd
theorem RFit.more {d : RDsk} {k k' : Nat} (h : RFit d k) (hk : k ≤ k') : RFit d k' :=
 {h with f := Nat.le_trans h.f hk, n := Nat.le_trans h.n hk, s := Nat.le_trans h.s hk, w := Nat.le_trans h.w hk, p := fun x hx => Nat.le_trans (h.p x hx) hk, c1 := by have := h.c1; omega }
theorem RefAt.more {w : World} {M : Nat → Prop} {m : Nat} {d : RDsk} {k k' : Nat} (h : RefAt w M m d k) (hk : k ≤ k') : RefAt w M m d k' := let ⟨_, _, _, _, _, h⟩ := h; ⟨_, _, _, _, _, { h with fit := h.fit.more hk }⟩
theorem tick_in {x : Int} (h : -1 ≤ x ∧ x ≤ 9223372036854775807) : -1 ≤ tickR x ∧ tickR x ≤ 9223372036854775807 := by
 unfold tickR
 split <;> omega
/-- a call that changes, as it was counted -/
def begun (d : RDsk) : RDsk := { d with calls := d.calls + 1, crash := tickR d.crash, fail := tickR d.fail }
theorem begun_fit {d : RDsk} {k : Nat} (h : RFit d k) : RFit (begun d) (k + 1) :=
 {h.more (Nat.le_succ k) with c0 := by have := h.c0; show 0 ≤ d.calls + 1; omega, c1 := by have := h.c1; show d.calls + 1 ≤ _; omega, t1 := tick_in h.t1, t2 := tick_in h.t2 }
set_option maxRecDepth 100000 in
set_option maxHeartbeats 2000000 in
theorem begin_r (w : World) {M : Nat → Prop} {m : Nat} {d : RDsk} {k : Nat} (h : RefAt w M m d k) (hk : k ≤ 1000000) : Calls Tryz.prog 100 #[.pointer (some ⟨m, 0, none⟩)] w fun e w' => e = .returned (.int .i64 (beginR d).2) ∧ RefAt w' M m (beginR d).1 (k + 1) ∧ Mods (· = m) w w' := by
 obtain ⟨fv, nv, sv, wv, fw, h⟩ := h
 have H := Lib.hid h
 obtain ⟨-, -, -, -, -, c5, c6, -, -, -⟩ := h.cells
 have z6 : w.frozen? ⟨m, 6, none⟩ = false := h.blk.frozen _
 have hc0 := h.fit.c0
 have hc1 := h.fit.c1
 have ht1 := h.fit.t1
 have ht2 := h.fit.t2
 have hw1 : IntKind.i64.wrap (d.calls + 1) = d.calls + 1 := by rw [IntKind.wrap_i64]; omega
 clear h
 cases hd : d.down with
 | true =>
  rw [hd] at c5
  have HX : Hid (beginR d = (d, 11)) := Lib.hid (by unfold beginR; rw [if_pos hd])
  go_enter Tryz.func100, Tryz.ntmps100
  go_wp2_with fail
  go_ret
  rw [HX.out]
  exact ⟨rfl, ⟨_, _, _, _, _, { H.out with fit := H.out.fit.more (by omega) }⟩, Mods.refl _ _⟩
 | false =>
  rw [hd] at c5
  have HX : Hid (beginR d = if d.crash = 0 then ({ begun d with down := true }, 11) else if d.fail = 0 then (begun d, d.err) else (begun d, 0)) := Lib.hid (by unfold beginR; rw [if_neg (by simp [hd])]; rfl)
  have HD := Lib.hid hd
  clear hd
  go_enter Tryz.func100, Tryz.ntmps100
  go_upto_region 4 with fail
  have HB1 := Lib.hid (show Blk (w.setCell ⟨m, 6, none⟩ (.int .i64 (d.calls + 1))) m 59 (rdA { d with calls := d.calls + 1 } fv nv sv wv) from H.out.blk.set_ 6 _)
  have HM1 := Lib.hid ((Mods.refl (· = m) w).setCell (p := ⟨m, 6, none⟩) (fun _ => rfl) (.int .i64 (d.calls + 1)))
  clear c5 c6 z6 hw1
  generalize w.setCell ⟨m, 6, none⟩ (.int .i64 (d.calls + 1)) = w1 at *
  have c7 : w1.cell? ⟨m, 7, none⟩ = some (.int .i64 d.fail) := by rw [HB1.out.cell]; rfl
  have c8 : w1.cell? ⟨m, 8, none⟩ = some (.int .i64 d.crash) := by rw [HB1.out.cell]; rfl
  refine wp_region_noPanic ?_
  refine wp_region_held_drew (S := fun w' => Keeps (w1) w') (by kernel_rfl) ((Keeps.refl _).drew) (fun _ => ?_)
  have hHeld : Keeps (w1) (w1).drew := (Keeps.refl _).drew
  refine tq 0 17 ?_
  refine tq 1 18 ?_
  refine tq 2 19 ?_
  refine tq 3 20 ?_ (hy := fun w' hSw => by
   have hSw : Keeps _ w' := hSw
   have hx := keep1 hSw c8
   clear hSw
   go_simp
   try with_reducible rfl)
  refine tq 4 21 ?_
  refine tq 5 22 ?_
  refine tq 6 23 ?_
  refine tq 7 24 ?_
  refine tq 8 25 ?_ (hy := fun w' hSw => by
   have hSw : Keeps _ w' := hSw
   have hx := keep1 hSw c7
   clear hSw
   go_simp
   try with_reducible rfl)
  refine tq 9 26 ?_
  refine tq 10 3 ?_
  refine tq 11 4 ?_
  refine wpAnyH_done (by kernel_rfl) ?_ _
  refine NoPanic.normal ?_
  have HK2 := Lib.hid (Keeps.refl w1).drew
  have HB2 := Lib.hid (HB1.out.keeps HK2.out)
  have HM2 := Lib.hid (HM1.out.then HK2.out)
  clear c7 c8
  generalize w1.drew = w2 at *
  have c8 : w2.cell? ⟨m, 8, none⟩ = some (.int .i64 d.crash) := by rw [HB2.out.cell]; rfl
  have z8 : w2.frozen? ⟨m, 8, none⟩ = false := HB2.out.frozen _
  have hwc : IntKind.i64.wrap (d.crash - 1) = d.crash - 1 := by rw [IntKind.wrap_i64]; omega
  have hwf : IntKind.i64.wrap (d.fail - 1) = d.fail - 1 := by rw [IntKind.wrap_i64]; omega
  go_upto_if 31 with fail
  go_cut [] (fun wx => Hid (Blk wx m 59 (rdA { d with calls := d.calls + 1, crash := tickR d.crash } fv nv sv wv) ∧ Mods (· = m) w wx))
  case first =>
   by_cases hc : 0 ≤ d.crash
   ·have HT := Lib.hid (show tickR d.crash = d.crash - 1 from if_pos hc)
    go_wp2_with fail
    go_meet
    rw [HT.out]
    exact Lib.hid ⟨HB2.out.set_ 8 _, HM2.out.setCell (p := ⟨m, 8, none⟩) (fun _ => rfl) _⟩
   ·have HT := Lib.hid (show tickR d.crash = d.crash from if_neg hc)
    go_wp2_with fail
    go_meet
    rw [HT.out]
    exact Lib.hid ⟨HB2.out, HM2.out⟩
  case rest =>
  obtain ⟨w3, rfl⟩ : ∃ z : World, z = wc := ⟨_, rfl⟩
  have HB3 := Lib.hid hcut.out.1
  have HM3 := Lib.hid hcut.out.2
  clear hcut c8 z8
  have c7 : w3.cell? ⟨m, 7, none⟩ = some (.int .i64 d.fail) := by rw [HB3.out.cell]; rfl
  have z7 : w3.frozen? ⟨m, 7, none⟩ = false := HB3.out.frozen _
  go_upto_if 44 with fail
  go_cut [] (fun wx => Hid (Blk wx m 59 (rdA (begun d) fv nv sv wv) ∧ Mods (· = m) w wx))
  case first =>
   by_cases hc : 0 ≤ d.fail
   ·have HT := Lib.hid (show begun d = { d with calls := d.calls + 1, crash := tickR d.crash, fail := d.fail - 1 } from by unfold begun; rw [show tickR d.fail = d.fail - 1 from if_pos hc])
    go_wp2_with fail
    go_meet
    rw [HT.out]
    exact Lib.hid ⟨HB3.out.set_ 7 _, HM3.out.setCell (p := ⟨m, 7, none⟩) (fun _ => rfl) _⟩
   ·have HT := Lib.hid (show begun d = { d with calls := d.calls + 1, crash := tickR d.crash } from by unfold begun; rw [show tickR d.fail = d.fail from if_neg hc])
    go_wp2_with fail
    go_meet
    rw [HT.out]
    exact Lib.hid ⟨HB3.out, HM3.out⟩
  case rest =>
  obtain ⟨w4, rfl⟩ : ∃ z : World, z = wc := ⟨_, rfl⟩
  have HB4 := Lib.hid hcut.out.1
  have HM4 := Lib.hid hcut.out.2
  clear hcut c7 z7
  have c5 : w4.cell? ⟨m, 5, none⟩ = some (.bool d.down) := by rw [HB4.out.cell]; rfl
  have z5 : w4.frozen? ⟨m, 5, none⟩ = false := HB4.out.frozen _
  have c9 : w4.cell? ⟨m, 9, none⟩ = some (.int .i64 d.err) := by rw [HB4.out.cell]; rfl
  have HF := Lib.hid (begun_fit H.out.fit)
  by_cases hc : d.crash = 0
  ·have HX1 := Lib.hid (HX.out.trans (if_pos hc))
   have e1 : (d.crash == 0) = true := by simp [hc]
   clear hc
   go_wp2_with fail
   go_ret
   rw [HX1.out]
   have hM := HM4.out.setCell (p := ⟨m, 5, none⟩) (fun _ => rfl) (.bool true)
   refine ⟨rfl, ⟨_, _, _, _, _, H.out.turn (down := true) (calls := d.calls + 1) (fail := tickR d.fail) (crash := tickR d.crash) (err := d.err) hM (HB4.out.set_ 5 _) ?_⟩, hM⟩
   exact { HF.out with }
  ·have HX1 := Lib.hid (HX.out.trans (if_neg hc))
   have e1 : (d.crash == 0) = false := by simp [hc]
   clear hc
   have HR := Lib.hid (show RefAt w4 M m (begun d) (k + 1) from ⟨_, _, _, _, _, H.out.turn (down := d.down) (calls := d.calls + 1) (fail := tickR d.fail) (crash := tickR d.crash) (err := d.err) HM4.out HB4.out HF.out⟩)
   by_cases hf : d.fail = 0
   ·have HX2 := Lib.hid (HX1.out.trans (if_pos hf))
    have e2 : (d.fail == 0) = true := by simp [hf]
    clear hf
    go_wp2_with fail
    go_ret
    rw [HX2.out]
    exact ⟨rfl, HR.out, HM4.out⟩
   ·have HX2 := Lib.hid (HX1.out.trans (if_neg hf))
    have e2 : (d.fail == 0) = false := by simp [hf]
    clear hf
    go_wp2_with fail
    go_ret
    rw [HX2.out]
    exact ⟨rfl, HR.out, HM4.out⟩
end Rf
end Go.Proofs.YtchjncnolmiejaaGreat

/- The document's disk: turn. -/
namespace Go.Proofs.YtchjncnolmiejaaGreat
open Go.RowKit
namespace Rf
open Vd
theorem trM : Mids Tryz.prog 131 3 := ⟨⟨_, Tryz.underlying131, rfl⟩, by kernel_rfl⟩
theorem trok : ElemOkS Tryz.prog 57 131 3 40 := elemOkS (z := .agg #[.string (bstr []), .string (bstr []), .int .i64 0]) Tryz.underlying57 (by kernel_rfl) rfl
theorem trC_flat (l : List RTurn) : ∀ u ∈ l.flatMap trC, u.oneCell' = true := fun u hu => by
 obtain ⟨p, -, hp⟩ := List.mem_flatMap.1 hu
 simp [trC, trA] at hp
 rcases hp with rfl | rfl | rfl <;> rfl
set_option maxRecDepth 100000 in
set_option maxHeartbeats 4000000 in
theorem turn_r (w : World) {M : Nat → Prop} {m : Nat} {d : RDsk} {k : Nat} (h : RefAt w M m d k) (hk : k ≤ 1000000) (t : RTurn) (hf : RFit (turnR d t) (k + 1)) : Calls Tryz.prog 101 #[.pointer (some ⟨m, 0, none⟩), .agg (trA t)] w fun e w' => e = .returned (.tuple #[]) ∧ RefAt w' (More M w w') m (turnR d t) (k + 1) ∧ Mods (· = m) w w' := by
 obtain ⟨fv, nv, sv, wv, fw, h⟩ := h
 have H := Lib.hid h
 have HF := Lib.hid hf
 have hwl : d.waits.length ≤ 1000000 := Nat.le_trans h.fit.w hk
 have hnl : d.now.length ≤ 100000000 := by have := h.fit.n; omega
 obtain ⟨pw, cw, rfl, -, -⟩ := Frm.ownsRow_form h.turns
 obtain ⟨pn, cn, rfl, -, -⟩ := Frm.ownsRow_form h.now
 clear h hf
 obtain ⟨n, hn⟩ : ∃ n, n = d.waits.length := ⟨_, rfl⟩
 have HN := Lib.hid hn
 have HTU := Lib.hid (show w.ownsRow 0 131 3 (.slice pw n cw) n (d.waits.flatMap trC) from by rw [hn]; exact H.out.turns)
 have HBL := Lib.hid (show Blk w m 59 (rdA d fv (.slice pn d.now.length cn) sv (.slice pw n cw)) from by rw [hn]; exact H.out.blk)
 rw [← hn] at hwl
 clear hn
 obtain ⟨fr, dst, fi⟩ := t
 go_enter Tryz.func101, Tryz.ntmps101
 go_upto_region 1 with fail
 generalize hW : World.alloc w _ = w1
 have HK1 := Lib.hid (show Keeps w w1 from by rw [← hW]; exact (Keeps.refl _).alloc _)
 have HQ1 := Lib.hid (show Blk w1 w.heap.size 131 #[.string (bstr fr), .string (bstr dst), .int .i64 fi] from by rw [← hW]; exact Blk.new _ _ _ rfl)
 clear hW
 obtain ⟨q, hq⟩ : ∃ q, q = w.heap.size := ⟨_, rfl⟩
 rw [← hq] at HQ1 ⊢
 have HQ := Lib.hid hq
 clear hq
 have HB1 := Lib.hid (HBL.out.keeps HK1.out)
 have c3 : w1.cell? ⟨m, 3, none⟩ = some (.slice pw n cw) := by rw [HB1.out.cell]; rfl
 go_upto_region 3 with (at_builtin; go_loud (refine wpList_apps (base := w1.heap.size) trok (by decide) rfl _ _ rfl (.slice none 0 0) (.slice pw n cw) 0 n [] (d.waits.flatMap trC) rfl rfl (World.ownsRow_nil _ _ _ 3) (rowS_of (Frm.ownsRow_keeps HTU.out HK1.out)) (trC_flat _) (by omega) (by decide) (Nat.le_refl _) ?_; intro v2 w2 ho2 hg2 hf2; obtain ⟨p2, c2, rfl, -, -⟩ := Frm.ownsRow_form ho2))
 have HO2 := Lib.hid (show w2.ownsRow w1.heap.size 131 3 (.slice p2 n c2) n (d.waits.flatMap trC) from by simpa using ho2)
 have HK2 := Lib.hid (show Keeps w1 w2 from (Keeps.refl w1).grown hg2 (fun k hk => by simp [Value.ownBlock] at hk))
 have HQ2 := Lib.hid (show Blk w2 q 131 #[.string (bstr fr), .string (bstr dst), .int .i64 fi] from HQ1.out.keeps HK2.out)
 have hs2 := HK2.out.size
 clear ho2 hg2 hf2 c3
 go_upto_region 4 with (first
  | refine wpList_ld rfl trM HQ2.out _ rfl rfl ?_
  | (at_builtin; go_loud (refine wpList_apps (base := w1.heap.size) trok (by decide) rfl _ _ rfl (.slice p2 n c2) (.slice (some ⟨w2.heap.size, 0, none⟩) 1 1) n 1 (d.waits.flatMap trC) (trC ⟨fr, dst, fi⟩) rfl rfl (Frm.ownsRow_keeps HO2.out ((Keeps.refl _).alloc _)) (Frm.rowS_lit rfl rfl rfl) (by simp [trC, trA, Value.oneCell']) (by omega) (by decide) (by rw [Frm.alloc_size]; omega) ?_; intro v3 w3 ho3 hg3 hf3; obtain ⟨p3, c3, rfl, -, -⟩ := Frm.ownsRow_form ho3; have HK3 := Lib.hid (show Keeps w1 w3 from (HK2.out.alloc _).grown hg3 (Frm.ownsRow_base HO2.out)); have HB3 := Lib.hid (HB1.out.keeps HK3.out); have hc3 : w3.cell? ⟨m, 3, none⟩ = some (.slice pw n cw) := by { rw [HB3.out.cell]; rfl }; have hz3 : w3.frozen? ⟨m, 3, none⟩ = false := HB3.out.frozen _; have HO3 := Lib.hid ho3; clear ho3 hg3 hf3)))
 have HM4 := Lib.hid ((Mods.of_keeps (S := (· = m)) (HK1.out.trans HK3.out)).setCell (p := ⟨m, 3, none⟩) (fun _ => rfl) (.slice p3 (n + 1) c3))
 have HM34 := Lib.hid ((Mods.refl (· = m) w3).setCell (p := ⟨m, 3, none⟩) (fun _ => rfl) (.slice p3 (n + 1) c3))
 have HB4 := Lib.hid (show Blk (w3.setCell ⟨m, 3, none⟩ (.slice p3 (n + 1) c3)) m 59 (rdA d fv (.slice pn d.now.length cn) sv (.slice p3 (n + 1) c3)) from HB3.out.set_ 3 _)
 have HO4 := Lib.hid (Frm.ownsRow_mods HO3.out HM34.out (fun y hy e => Frm.ownsRow_ne HO3.out HB3.out (by decide) (by rw [hy, e])))
 have HQM := Lib.hid (show q ≠ m from fun e => by have := HBL.out.lt; have := HQ.out; omega)
 have HQ4 := Lib.hid ((HQ1.out.keeps HK3.out).mods HM34.out (fun e => HQM.out e))
 clear hc3 hz3
 generalize w3.setCell ⟨m, 3, none⟩ (.slice p3 (n + 1) c3) = w4 at *
 have HNW := Lib.hid ((H.out.rows HM4.out).2.2.1)
 have HNM : Hid ((Value.slice pn d.now.length cn).ownBlock ≠ some m) := Lib.hid (fun e => Frm.ownsRow_ne H.out.now H.out.blk (by decide) e)
 have HXd := Lib.hid HB4.out.drew
 have HNd := Lib.hid (NmsOwn.mods HNW.out (Mods.of_keeps (S := fun _ => False) (Keeps.refl w4).drew) (fun _ _ h => h))
 refine wp_region_noPanic ?_
 refine wp_region_held_drew (S := fun w' => Mods (· = m) w4 w') (by kernel_rfl) ((Mods.refl (· = m) w4).drew) (fun _ => ?_)
 have hHeld : Mods (· = m) w4 (w4).drew := (Mods.refl (· = m) w4).drew
 generalize World.drew w4 = xs at *
 refine tq 0 18 ?_
 refine tq 1 19 ?_
 refine tq 2 20 ?_
 refine tq 3 21 ?_
 refine tq 5 23 ?_ (hy := fun w' hSw => by
  have hSw : Mods (· = m) w4 w' := hSw
  have hBq := HQ4.out.mods hSw (fun e => HQM.out e)
  have hx0 : World.cell? w' ⟨q, 0, none⟩ = some (.string (bstr fr)) := by rw [hBq.cell]; rfl
  have hx1 : World.cell? w' ⟨q, 1, none⟩ = some (.string (bstr dst)) := by rw [hBq.cell]; rfl
  have hx2 : World.cell? w' ⟨q, 2, none⟩ = some (.int .i64 fi) := by rw [hBq.cell]; rfl
  clear hSw
  go_simp
  try with_reducible rfl)
 refine rd1 4 (fun K hK => ?_)
 have hx : World.cell? xs ⟨m, 1, none⟩ = some (Value.slice pn d.now.length cn) := by rw [HXd.out.cell]; rfl
 go_simp
 clear hx
 have hb := hHeld
 refine bkm hK hb ?_
 clear hK K hHeld
 have hHeld : Mods (· = m) w4 xs := hb
 clear hb
 refine rd1 6 (fun K hK => ?_)
 go_simp
 refine (do_r _ HNd.out H.out.fit.an ⟨fr, dst, fi⟩ hnl).mono ?_
 rintro e x6 ⟨v6, rfl, ho6, hv6, hk6⟩
 have HV6 := Lib.hid ho6
 have HP6 := Lib.hid hv6
 have HZ6 := Lib.hid hHeld.size
 have HXd := Lib.hid (HXd.out.keeps hk6)
 have hb := hHeld.trans (Mods.of_keeps (S := (· = m)) hk6) (fun y hy _ => hy)
 clear ho6 hv6 hk6
 obtain ⟨p6, c6, rfl, -, -⟩ := Frm.ownsRow_form HV6.out
 go_wp2_with fail
 refine bkm hK hb ?_
 clear hK K hHeld
 have hHeld : Mods (· = m) w4 x6 := hb
 clear hb
 refine tq 7 25 ?_
 refine tq 8 26 ?_
 refine rd1 9 (fun K hK => ?_)
 have hx : World.cell? x6 ⟨m, 1, none⟩ = some (Value.slice pn d.now.length cn) := by rw [HXd.out.cell]; rfl
 have hz : World.frozen? x6 ⟨m, 1, none⟩ = false := HXd.out.frozen 1
 go_simp
 have HX3 := Lib.hid (HXd.out.set_ 1 (.slice p6 (doR d.now ⟨fr, dst, fi⟩).length c6))
 have HVF := Lib.hid (NmsOwn.mods (T := (· = m)) HV6.out ((Mods.refl (· = m) _).setCell (p := ⟨m, 1, none⟩) (fun _ => rfl) (.slice p6 (doR d.now ⟨fr, dst, fi⟩).length c6)) (fun y hy e => Frm.ownsRow_ne HV6.out HXd.out (by decide) (by rw [hy, e])))
 have hb := hHeld.setCell (p := ⟨m, 1, none⟩) (fun _ => rfl) (.slice p6 (doR d.now ⟨fr, dst, fi⟩).length c6)
 clear hx hz HXd
 generalize World.setCell x6 ⟨m, 1, none⟩ (.slice p6 (doR d.now ⟨fr, dst, fi⟩).length c6) = xF at *
 refine bkm hK hb ?_
 clear hK K hHeld
 have hHeld : Mods (· = m) w4 xF := hb
 clear hb
 refine wpAnyH_done (by kernel_rfl) ?_ _
 refine NoPanic.normal ?_
 go_wp2_with fail
 go_end0
 have hMF := HM4.out.trans hHeld (fun y hy _ => hy)
 obtain ⟨r1, r2, r3, r4, r5⟩ := H.out.rows hMF
 have hTF := Frm.ownsRow_mods HO4.out hHeld (fun y hy e => Frm.ownsRow_ne HO4.out HB4.out (by decide) (by rw [hy, e]))
 have hs3 := (HK1.out.trans HK3.out).size
 have hs4 := HM4.out.size
 have hs6 := HZ6.out
 refine ⟨rfl, ⟨fv, .slice p6 (doR d.now ⟨fr, dst, fi⟩).length c6, sv, .slice p3 (n + 1) c3, fw, ?_⟩, hMF⟩
 exact
  {blk := HX3.out
   files := r1, len := H.out.len, waits := r2, now := HVF.out, sure := r4
   turns := by
    have h0 := ownsRow_low hTF (Nat.zero_le _)
    have e : (turnR d ⟨fr, dst, fi⟩).waits.length = n + 1 := by simp [turnR, HN.out]
    have e2 : (turnR d ⟨fr, dst, fi⟩).waits.flatMap trC = d.waits.flatMap trC ++ trC ⟨fr, dst, fi⟩ := by simp [turnR]
    rw [e, e2]
    exact h0
   sm := .inl H.out.sm
   sf := fun y hy => .inl (H.out.sf y hy)
   sn := fun y hy => by
    rcases HP6.out y hy with h | h
    ·exact .inl (H.out.sn y h)
    ·have hlt := (owns_ty HVF.out hy).lt
     exact .inr ⟨by omega, hlt⟩
   ss := fun y hy => .inl (H.out.ss y hy)
   st := fun y hy => by
    have hb := Frm.ownsRow_base hTF y hy
    have hlt := (owns_ty hTF hy).lt
    have := HK1.out.size
    exact .inr ⟨by omega, hlt⟩
   sw := fun v hv y hy => .inl (H.out.sw v hv y hy)
   fit := HF.out }
end Rf
end Go.Proofs.YtchjncnolmiejaaGreat

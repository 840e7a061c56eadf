/- ref05.Good. -/
import Derived.Test.YtklbemkafdccgaaGreatK14
import Derived.Test.YtklbemkafdccgaaGreatK01
namespace Go.Proofs.YtklbemkafdccgaaGreat
open Go.RowKit
namespace Adr
theorem alnum_any (c : UInt8) (w : World) : Calls Tryz.prog 155 #[.int .u8 (c.toNat : Int)] w fun e w' => e = .returned (.bool (alnumB c)) ∧ w = w' := by
 have HX := Lib.hid (show alnumB c = decide ((97 ≤ c.toNat ∧ c.toNat ≤ 122 ∨ 65 ≤ c.toNat ∧ c.toNat ≤ 90) ∨ 48 ≤ c.toNat ∧ c.toNat ≤ 57) from by unfold alnumB; simp only [Bool.decide_and, Bool.decide_or])
 generalize c.toNat = m at *
 go_enter Tryz.func155, Tryz.ntmps155
 go_wp2_with fail
 all_goals
  go_ret
  refine ⟨?_, rfl⟩
  rw [HX.out]
  refine retB ?_
  rw [Bool.eq_iff_iff]
  simp
  try omega
set_option maxHeartbeats 1000000 in
theorem rlabel_any (s : List UInt8) (hs : s.length ≤ 9000000000000000000) (w : World) : Calls Tryz.prog 96 #[.string (bstr s)] w fun e w' => e = .returned (.bool (labelB s)) ∧ w = w' := by
 have HSZ := Lib.hid (bstr_size s)
 have HGE := Lib.hid (fun (j : Nat) (h : j < (bstr s).size) => show (bstr s)[j] = s[j]'(by rw [bstr_size] at h; exact h) from rfl)
 have HG := Lib.hid (show labelB s = (s.all labC && endsOk s) from rfl)
 go_enter Tryz.func96, Tryz.ntmps96
 go_wp2_with fail
 go_loopw [3] (fun i wr => ∃ j : Nat, i = .int .i64 (j : Int) ∧ j ≤ (bstr s).size ∧ Hid ((s.take j).all labC = true) ∧ w = wr) (fun i _ => (bstr s).size - (intOf i).toNat)
 case atStart => exact ⟨0, rfl, Nat.zero_le _, Lib.hid rfl, rfl⟩
 case round =>
  obtain ⟨j, rfl, hj, HA, rfl⟩ := hrel
  by_cases hlt : j < (bstr s).size
  ·have hll : j < s.length := by rw [← HSZ.out]; exact hlt
   have hw : IntKind.i64.wrap ((j : Int) + 1) = (j : Int) + 1 := IntWalk.i64_in _ (by rw [bstr_size] at hlt; omega)
   have HP := Lib.hid (alnum_any ((bstr s)[j]'hlt) w)
   have HT := Lib.hid (@all_take labC s j hll HA.out)
   have HF := Lib.hid (@all_not labC s j hll)
   have HC := Lib.hid (show labC s[j] = (alnumB ((bstr s)[j]'hlt) || !((((bstr s)[j]'hlt).toNat : Int) != 45)) from by
    have := byte_eq s[j] 45
    rw [show ((45 : UInt8).toNat : Int) = 45 from rfl] at this
    rw [HGE.out j hlt, bne, this, Bool.not_not]
    rfl)
   generalize labC s[j] = r at *
   generalize alnumB ((bstr s)[j]'hlt) = a at *
   obtain ⟨b, hb⟩ : ∃ b, ((((bstr s)[j]'hlt).toNat : Int) != 45) = b := ⟨_, rfl⟩
   rw [hb] at HC
   go_wp2_with fail
   refine HP.out.mono ?_
   rintro e w3 ⟨rfl, rfl⟩
   cases a <;> cases b
   case false.true =>
    have HX := Lib.hid (show labelB s = false from by rw [HG.out, HF.out HC.out]; rfl)
    go_wp2_with fail
    go_ret
    exact ⟨by rw [HX.out]; rfl, rfl⟩
   all_goals
    have HX := Lib.hid (HT.out HC.out)
    go_wp2_with fail
    go_roundw
    case rel => exact ⟨j + 1, by simp, by omega, HX, trivial⟩
    case measure =>
     simp only [intOf]
     omega
  ·have HA' := Lib.hid (show s.all labC = true from by
    have := HA.out
    rwa [List.take_of_length_le (by rw [← HSZ.out]; omega)] at this)
   rw [HA'.out, Bool.true_and] at HG
   clear HA HA'
   by_cases hr : s = []
   ·have e1 : decide ((0 : Int) < ((bstr s).size : Int)) = false := decide_eq_false (by rw [HSZ.out, hr]; simp)
    have e2 : decide (0 < (bstr s).size) = false := decide_eq_false (by rw [HSZ.out, hr]; simp)
    have HX := Lib.hid (show labelB s = false from by rw [HG.out, hr]; rfl)
    clear hr
    go_wp2_with fail
    go_ret
    exact ⟨by rw [HX.out]; rfl, rfl⟩
   ·have hpos : 0 < s.length := List.length_pos_iff.2 hr
    have hl0 : 0 < (bstr s).size := by rw [HSZ.out]; exact hpos
    have e1 : decide ((0 : Int) < ((bstr s).size : Int)) = true := decide_eq_true (by omega)
    have e2 : decide (0 < (bstr s).size) = true := decide_eq_true hl0
    obtain ⟨m, hm⟩ : ∃ m, s.length = m + 1 := ⟨s.length - 1, by omega⟩
    have hl1 : m < (bstr s).size := by rw [HSZ.out]; omega
    have hwm : wrap64 (((bstr s).size : Int) - 1) = (m : Int) := by
     rw [HSZ.out, hm, show (((m + 1 : Nat) : Int) - 1) = (m : Int) by omega]
     exact IntWalk.wrap64_in _ (by omega)
    have HE := Lib.hid (show endsOk s = (((((bstr s)[0]'hl0).toNat : Int) != 45) && ((((bstr s)[m]'hl1).toNat : Int) != 45)) from by
     rw [ends_eq hpos]
     have e2 : s[s.length - 1] = (bstr s)[m]'hl1 := by
      have : s.length - 1 = m := by omega
      simp only [this]
      rfl
     rw [e2]
     rfl)
    rw [HE.out] at HG
    obtain ⟨b0, hb0⟩ : ∃ b, ((((bstr s)[0]'hl0).toNat : Int) != 45) = b := ⟨_, rfl⟩
    obtain ⟨b1, hb1⟩ : ∃ b, ((((bstr s)[m]'hl1).toNat : Int) != 45) = b := ⟨_, rfl⟩
    rw [hb0, hb1] at HG
    clear hm hr HE
    cases b0 <;> cases b1
    all_goals
     go_wp2_with fail
     go_ret
     exact ⟨by rw [HG.out]; rfl, rfl⟩
/-- a part goes on -/
def pre (p : List UInt8) : List (List UInt8) → List (List UInt8)
 | [] => [p]
 |x :: xs => (p ++ x) :: xs
theorem pre_nil (l : List (List UInt8)) (h : l ≠ []) : pre [] l = l := by
 cases l with
 |nil => exact absurd rfl h
 |cons x xs => rfl
theorem pre_pt (p r : List UInt8) : pre p (splitL (46 :: r)) = p :: splitL r := by simp [splitL, pre]
theorem pre_on (p r : List UInt8) {c : UInt8} (h : c ≠ 46) : pre p (splitL (c :: r)) = pre (p ++ [c]) (splitL r) := by
 rw [splitL, if_neg h]
 cases e : splitL r with
 |nil => rfl
 |cons x xs => simp [pre]
def strV (x : List UInt8) : Value := .string (bstr x)
theorem strok2 : ElemOk Tryz.prog 37 9 16 := elemOk (z := .string (bstr [])) Tryz.underlying37 (by kernel_rfl) rfl
/-- what stands in 'out' and 'from' at a place -/
def SpIs (s : List UInt8) (P : List (List UInt8)) (f i : Nat) : Prop :=
 (i ≤ s.length → f ≤ i ∧ splitL s = P ++ pre ((s.drop f).take (i - f)) (splitL (s.drop i))) ∧ (i = s.length + 1 → P = splitL s) ∧ P.length ≤ i
theorem spIs_at {s : List UInt8} {P : List (List UInt8)} {f i : Nat} (h : SpIs s P f i) (hi : i < s.length) (hc : s[i] = 46) : SpIs s (P ++ [(s.drop f).take (i - f)]) (i + 1) (i + 1) := by
 obtain ⟨h1, h2⟩ := h.1 (by omega)
 refine ⟨fun _ => ⟨Nat.le_refl _, ?_⟩, fun e => by omega, by have := h.2.2; simp; omega⟩
 rw [h2, List.drop_eq_getElem_cons hi, hc, pre_pt, Nat.sub_self, List.take_zero, pre_nil _ (splitL_ne _)]
 simp
theorem spIs_on {s : List UInt8} {P : List (List UInt8)} {f i : Nat} (h : SpIs s P f i) (hi : i < s.length) (hc : s[i] ≠ 46) : SpIs s P f (i + 1) := by
 obtain ⟨h1, h2⟩ := h.1 (by omega)
 refine ⟨fun _ => ⟨by omega, ?_⟩, fun e => by omega, by have := h.2.2; omega⟩
 rw [h2, List.drop_eq_getElem_cons hi, pre_on _ _ hc]
 congr 2
 rw [show i + 1 - f = (i - f) + 1 by omega, List.take_succ_eq_append_getElem (by rw [List.length_drop]; omega)]
 congr 2
 rw [List.getElem_drop]
 congr 1
 omega
theorem spIs_end {s : List UInt8} {P : List (List UInt8)} {f : Nat} (h : SpIs s P f s.length) : SpIs s (P ++ [(s.drop f).take (s.length - f)]) (s.length + 1) (s.length + 1) := by
 obtain ⟨h1, h2⟩ := h.1 (Nat.le_refl _)
 refine ⟨fun e => by omega, fun _ => ?_, by have := h.2.2; simp; omega⟩
 rw [h2, List.drop_eq_nil_of_le (Nat.le_refl _)]
 simp [splitL, pre]
def SplitDid (W : World) (s : List UInt8) (e : Ending) (w' : World) : Prop :=
 ∃ v, e = .returned v ∧ Own w' W.heap.size 9 v ((splitL s).map strV) ∧ Keeps W w'
set_option maxRecDepth 100000 in
set_option maxHeartbeats 1000000 in
theorem split_any (s : List UInt8) (hs : s.length ≤ 1000000000000) (w : World) : Calls Tryz.prog 95 #[.string (bstr s), .int .u8 46] w (SplitDid w s) := by
 have HSZ := Lib.hid (bstr_size s)
 have HGE := Lib.hid (fun (j : Nat) (h : j < (bstr s).size) => show (bstr s)[j] = s[j]'(by rw [bstr_size] at h; exact h) from rfl)
 have hsz : (bstr s).size ≤ 1000000000000 := by rw [bstr_size]; exact hs
 go_enter Tryz.func95, Tryz.ntmps95
 go_wp2_with fail
 go_loopw [5, 6, 7] (fun vo vf vi wr => ∃ (i f : Nat) (P : List (List UInt8)), vi = .int .i64 (i : Int) ∧ vf = .int .i64 (f : Int) ∧ i ≤ (bstr s).size + 1 ∧ Hid (SpIs s P f i) ∧ Hid (Own wr w.heap.size 9 vo (P.map strV)) ∧ Hid (Keeps w wr)) (fun vo vf vi _ => (bstr s).size + 1 - (intOf vi).toNat)
 case atStart => exact ⟨0, 0, [], rfl, rfl, Nat.zero_le _, Lib.hid ⟨fun _ => ⟨Nat.le_refl _, by simp [pre_nil _ (splitL_ne _)]⟩, fun e => by omega, Nat.zero_le _⟩, Lib.hid (Own.nil _ _ _), Lib.hid (Keeps.refl _)⟩
 case round =>
  obtain ⟨i, f, P, rfl, rfl, hi, HS, HO, HK⟩ := hrel
  have HPL := Lib.hid HS.out.2.2
  have hw : IntKind.i64.wrap ((i : Int) + 1) = (i : Int) + 1 := IntWalk.i64_in _ (by omega)
  by_cases hle : i ≤ (bstr s).size
  ·have hfi := (HS.out.1 (by rw [← HSZ.out]; exact hle)).1
   obtain ⟨po, co, rfl, hpo⟩ := HO.out.row.form
   rw [List.length_map] at HO hpo ⊢
   have hb0 : (0 : Int) ≤ (f : Int) := by omega
   have hb1 : (f : Int) ≤ (i : Int) := by omega
   have hb2 : (i : Int) ≤ ((bstr s).size : Int) := by omega
   have hpl : P.length ≤ 1000000000001 := by have := HPL.out; omega
   by_cases hlt : i < (bstr s).size
   ·have hll : i < s.length := by rw [← HSZ.out]; exact hlt
    have e1 : ((i : Int) == ((bstr s).size : Int)) = false := by simp; omega
    by_cases hc : s[i] = 46
    ·have e2 : ((((bstr s)[i]'hlt).toNat : Int) == 46) = true := by rw [HGE.out i hlt, hc]; rfl
     have HN := Lib.hid (spIs_at HS.out hll hc)
     clear hc
     have hex : (bstr s).extract f i = bstr ((s.drop f).take (i - f)) := bstr_extract s f i
     have hsz2 := HK.out.size
     generalize hq : (s.drop f).take (i - f) = q at *
     go_wp2_with (at_builtin; refine wpList_app1 (base := w.heap.size) strok2 rfl _ _ rfl (.slice po P.length co) (.slice (some ⟨wr.heap.size, 0, none⟩) 1 1) (P.map strV) [.string (bstr q)] rfl rfl (HO.out.alloc _) (row_one rfl) (by simp [Value.oneCell']) (by simp; omega) (by omega) (Nat.le_trans hsz2 ((Keeps.refl wr).alloc _).size) ?_; intro v' w2 ho2 hg2 hf2; have HV := Lib.hid (And.intro ho2 hg2); clear ho2 hg2 hf2)
     go_roundw
     case rel =>
      refine ⟨i + 1, i + 1, P ++ [q], by simp, by simp, by omega, HN, Lib.hid ?_, Lib.hid ((HK.out.alloc _).grown HV.out.2 HO.out.base)⟩
      rw [List.map_append]
      exact HV.out.1
     case measure =>
      simp only [intOf]
      omega
    ·have e2 : ((((bstr s)[i]'hlt).toNat : Int) == 46) = false := by
      have := byte_eq s[i] 46
      rw [decide_eq_false hc] at this
      exact this
     have HN := Lib.hid (spIs_on HS.out hll hc)
     clear hc
     go_wp2_with fail
     go_roundw
     case rel => exact ⟨i + 1, f, P, by simp, rfl, by omega, HN, HO, HK⟩
     case measure =>
      simp only [intOf]
      omega
   ·have hie : i = s.length := by have := HSZ.out; omega
    have e1 : ((i : Int) == ((bstr s).size : Int)) = true := by rw [HSZ.out, hie]; simp
    have HN := Lib.hid (show SpIs s (P ++ [(s.drop f).take (i - f)]) (i + 1) (i + 1) from by have := HS.out; subst hie; exact spIs_end this)
    clear hie
    have hex : (bstr s).extract f i = bstr ((s.drop f).take (i - f)) := bstr_extract s f i
    have hsz2 := HK.out.size
    generalize hq : (s.drop f).take (i - f) = q at *
    go_wp2_with (at_builtin; refine wpList_app1 (base := w.heap.size) strok2 rfl _ _ rfl (.slice po P.length co) (.slice (some ⟨wr.heap.size, 0, none⟩) 1 1) (P.map strV) [.string (bstr q)] rfl rfl (HO.out.alloc _) (row_one rfl) (by simp [Value.oneCell']) (by simp; omega) (by omega) (Nat.le_trans hsz2 ((Keeps.refl wr).alloc _).size) ?_; intro v' w2 ho2 hg2 hf2; have HV := Lib.hid (And.intro ho2 hg2); clear ho2 hg2 hf2)
    go_roundw
    case rel =>
     refine ⟨i + 1, i + 1, P ++ [q], by simp, by simp, by omega, HN, Lib.hid ?_, Lib.hid ((HK.out.alloc _).grown HV.out.2 HO.out.base)⟩
     rw [List.map_append]
     exact HV.out.1
    case measure =>
     simp only [intOf]
     omega
  ·have hie : i = s.length + 1 := by have := HSZ.out; omega
   have e1 : decide ((i : Int) ≤ ((bstr s).size : Int)) = false := decide_eq_false (by omega)
   have e2 : decide (i ≤ (bstr s).size) = false := decide_eq_false hle
   have HP := Lib.hid (HS.out.2.1 hie)
   clear hie
   go_wp2_with fail
   go_ret
   exact ⟨_, rfl, by rw [← HP.out]; exact HO.out, HK.out⟩
theorem str_cell {w : World} {b : Nat} {e : TypeId} {v : Value} {P : List (List UInt8)} (h : Own w b e v (P.map strV)) {j : Nat} (hj : j < P.length) : ∃ g cap, v = .slice (some ⟨g, 0, none⟩) P.length cap ∧ P.length ≤ cap ∧ cap ≤ maxLen ∧ w.cell? ⟨g, j, none⟩ = some (.string (bstr P[j])) := by
 obtain ⟨g, cap, rfl, -, h1, h2⟩ := h.form (by simp; omega)
 rw [List.length_map] at h h1
 refine ⟨g, cap, by rw [List.length_map], h1, h2, h.cellAt j _ ?_⟩
 rw [List.getElem?_map, List.getElem?_eq_getElem hj]
 rfl
theorem split_len (s : List UInt8) : (splitL s).length ≤ s.length + 1 := by
 induction s with
 |nil => simp [splitL]
 |cons c s ih =>
  rw [splitL]
  split
  ·simp; omega
  ·split
   ·simp
   ·rename_i x xs e
    rw [e] at ih
    simp at ih ⊢
    omega
theorem split_parts (s : List UInt8) : ∀ x ∈ splitL s, x.length ≤ s.length := by
 induction s with
 |nil => simp [splitL]
 |cons c s ih =>
  intro x hx
  rw [splitL] at hx
  split at hx
  ·rcases List.mem_cons.1 hx with rfl | h
   ·simp
   ·have := ih x h
    simp; omega
  ·split at hx
   ·simp at hx
    subst hx
    simp
   ·rename_i y ys e
    rw [e] at ih
    rcases List.mem_cons.1 hx with rfl | h
    ·have := ih y (List.mem_cons_self ..)
     simp; omega
    ·have := ih x (List.mem_cons_of_mem _ h)
     simp; omega
set_option maxHeartbeats 1000000 in
theorem labels_any (s : List UInt8) (hs : s.length ≤ 1000000000000) (w : World) : Calls Tryz.prog 37 #[.string (bstr s)] w fun e w' => e = .returned (.bool (labelsB s)) ∧ Keeps w w' := by
 have HSP := Lib.hid (split_any s hs w)
 have HLN := Lib.hid (split_len s)
 have HPT := Lib.hid (split_parts s)
 have HLB := Lib.hid (show labelsB s = (splitL s).all labelB from rfl)
 unfold SplitDid at HSP
 generalize splitL s = P at *
 have hpl : P.length ≤ 1000000000001 := by have := HLN.out; omega
 go_enter Tryz.func37, Tryz.ntmps37
 go_wp2_with fail
 refine HSP.out.mono ?_
 rintro e w1 ⟨v, rfl, ho, hk⟩
 have HO := Lib.hid ho
 have HK := Lib.hid hk
 obtain ⟨po, co, rfl, hpo⟩ := ho.row.form
 clear ho hk HSP
 rw [List.length_map] at *
 go_wp2_with fail
 go_loopw [4] (fun i wr => ∃ j : Nat, i = .int .i64 (j : Int) ∧ j ≤ P.length ∧ Hid ((P.take j).all labelB = true) ∧ w1 = wr) (fun i _ => P.length - (intOf i).toNat)
 case atStart => exact ⟨0, rfl, Nat.zero_le _, Lib.hid rfl, rfl⟩
 case round =>
  obtain ⟨j, rfl, hj, HA, rfl⟩ := hrel
  by_cases hlt : j < P.length
  ·have hw : IntKind.i64.wrap ((j : Int) + 1) = (j : Int) + 1 := IntWalk.i64_in _ (by omega)
   obtain ⟨g, cap, hv, -, -, hc⟩ := str_cell HO.out hlt
   simp only [Value.slice.injEq] at hv
   obtain ⟨rfl, -, rfl⟩ := hv
   have HL := Lib.hid (rlabel_any P[j] (by have := HPT.out P[j] (List.getElem_mem hlt); omega) w1)
   have HT := Lib.hid (show labelB P[j] = true → (P.take (j + 1)).all labelB = true from fun h => by
    have := HA.out
    rw [List.take_succ_eq_append_getElem hlt, List.all_append, this]
    simp [h])
   have HF := Lib.hid (show labelB P[j] = false → P.all labelB = false from fun h => by
    rw [List.all_eq_false]
    exact ⟨P[j], List.getElem_mem hlt, by simp [h]⟩)
   generalize labelB P[j] = r at *
   go_wp2_with fail
   refine HL.out.mono ?_
   rintro e w2 ⟨rfl, rfl⟩
   cases r with
   |false =>
    have HX := Lib.hid (show labelsB s = false from by rw [HLB.out]; exact HF.out rfl)
    go_wp2_with fail
    go_ret
    exact ⟨by rw [HX.out]; rfl, HK.out⟩
   |true =>
    have HX := Lib.hid (HT.out rfl)
    go_wp2_with fail
    go_roundw
    case rel => exact ⟨j + 1, by simp, by omega, HX, trivial⟩
    case measure =>
     simp only [intOf]
     omega
  ·have HX := Lib.hid (show labelsB s = true from by
    rw [HLB.out]
    have := HA.out
    rwa [List.take_of_length_le (by omega)] at this)
   go_wp2_with fail
   go_ret
   exact ⟨by rw [HX.out]; rfl, HK.out⟩
theorem rdomain_any (s : List UInt8) (hs : s.length ≤ 1000000000000) (w : World) : Calls Tryz.prog 10 #[.string (bstr s)] w fun e w' => e = .returned (.bool (domainB s)) ∧ Keeps w w' := by
 have HL := Lib.hid (labels_any s hs w)
 have HSZ := Lib.hid (bstr_size s)
 have HB := Lib.hid (show domainB s = (labelsB s && decide (s.length ≤ 64)) from rfl)
 generalize labelsB s = r at *
 go_enter Tryz.func10, Tryz.ntmps10
 go_wp2_with fail
 refine HL.out.mono ?_
 rintro e w1 ⟨rfl, hk⟩
 cases r with
 |false =>
  go_wp2_with fail
  go_ret
  exact ⟨by rw [HB.out]; rfl, hk⟩
 |true =>
  go_wp2_with fail
  go_ret
  refine ⟨retB ?_, hk⟩
  rw [HB.out, HSZ.out, Bool.true_and]
  exact decide_eq_decide.2 (by omega)
end Adr
end Go.Proofs.YtklbemkafdccgaaGreat

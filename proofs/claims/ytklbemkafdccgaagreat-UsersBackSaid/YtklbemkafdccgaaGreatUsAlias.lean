/- users: slices.Clone of texts; AddAlias. -/
import Derived.Test.YtklbemkafdccgaaGreatK12
import Derived.Test.YtklbemkafdccgaaGreatK01
import Derived.Lib.LazyBuf
namespace Go.Proofs.YtklbemkafdccgaaGreat
open Go.RowKit
namespace Usr
open Adr (Str)
open Mp Go.Maps
theorem txok : ElemOk Tryz.prog 37 9 16 := elemOk (z := .string (bstr [])) Tryz.underlying37 (by kernel_rfl) rfl
theorem oneCell_strs (l : List Str) : ∀ u ∈ l.map strV, u.oneCell' = true := by
 intro u hu
 obtain ⟨x, -, rfl⟩ := List.mem_map.1 hu
 rfl
/-- a clone: a slice of its own, or nil -/
def CloneDid (W : World) (l : List Str) (e : Ending) (w' : World) : Prop := ∃ v, e = .returned v ∧ Own w' W.heap.size 9 v (l.map strV) ∧ Keeps W w'
set_option maxRecDepth 100000 in
theorem clone_any (w : World) (v : Value) (l : List Str) (hr : Row w v (l.map strV)) (hl : l.length ≤ 100000) : Calls Tryz.prog 93 #[v] w (CloneDid w l) := by
 obtain ⟨p, cap, hv, -, -⟩ := hr.form
 rw [List.length_map] at hv
 subst hv
 have hnil : ∀ W, (binOp .eql 37 (.slice p l.length cap) (.slice none 0 0)).run Tryz.prog W = .ok (.bool p.isNone) W := fun W => Lib.run_eql_slice_nil W _ _ _ _ _ _ _ Tryz.underlying37
 cases p with
 |none =>
  have hl0 : l = [] := by
   rcases hr with ⟨a0, cap, h1, h2, -, -⟩ | ⟨b, off, cap, h1, -⟩
   ·simpa using h2
   ·simp at h1
  subst hl0
  simp only [Option.isNone, List.length_nil] at hnil
  clear hr
  go_enter Tryz.func93, Tryz.ntmps93
  go_wp2_with fail
  go_ret
  exact ⟨_, rfl, Own.nil _ _ _, Keeps.refl _⟩
 |some a =>
  simp only [Option.isNone] at hnil
  have HZ0 := Lib.hid (show Own (w.alloc (.cells #[] 9)) w.heap.size 9 (.slice (some ⟨w.heap.size, 0, none⟩) 0 0) [] from ⟨by simp, .inr ⟨w.heap.size, 0, #[], rfl, Nat.le_refl _, Blk.new _ _ _ rfl, Nat.le_refl _, by decide, by simp, by simp⟩⟩)
  have HZ1 := Lib.hid (show Row (w.alloc (.cells #[] 9)) (.slice (some a) l.length cap) (l.map strV) from hr.keeps ((Keeps.refl _).alloc _))
  have HLB := Lib.hid (show (([] : List Value).length + (l.map strV).length) * 16 ≤ 70368744177664 from by rw [List.length_map]; simp only [List.length_nil]; omega)
  have HWA := Lib.hid (show w.heap.size ≤ (w.alloc (.cells #[] 9)).heap.size from ((Keeps.refl w).alloc (.cells #[] 9)).size)
  clear hr
  go_enter Tryz.func93, Tryz.ntmps93
  go_wp2_with (at_builtin; refine wpList_app1 (base := w.heap.size) txok rfl _ _ rfl (.slice (some ⟨w.heap.size, 0, none⟩) 0 0) (.slice (some a) l.length cap) [] (l.map strV) rfl rfl HZ0.out HZ1.out (oneCell_strs _) HLB.out (by decide) HWA.out ?_; intro v5 w5 ho5 hg5 hf5; rw [List.nil_append] at ho5; have HO5 := Lib.hid ho5; have HK5 := Lib.hid (show Keeps w w5 from ((Keeps.refl _).alloc _).grown hg5 (fun x hx => by simp [Value.ownBlock] at hx; omega)); clear ho5 hg5 hf5)
  go_ret
  exact ⟨_, rfl, HO5.out, HK5.out⟩
theorem row_map {w w' : World} {v : Value} {l : List Value} {b es cl} (h : Row w v l) (k : Mods (· = b) w w') (hm : w.heap[b]? = some (.map es cl)) : Row w' v l := by
 rcases h with h | ⟨g, off, cap, hv, g1, g2, g3⟩
 ·exact .inl h
 ·refine .inr ⟨g, off, cap, hv, g1, g2, fun i x hx => ?_⟩
  have hc := g3 i x hx
  refine k.cell hc (fun e => ?_)
  subst e
  simp [World.cell?, hm] at hc
theorem own_form {w : World} {base : Nat} {e : TypeId} {v : Value} {l : List Value} (h : Own w base e v l) (hl : 0 < l.length) : ∃ g cap, v = .slice (some ⟨g, 0, none⟩) l.length cap := by
 rcases h.2 with ⟨rfl, h9⟩ | ⟨g, cap, cur, rfl, -⟩
 ·omega
 ·exact ⟨g, cap, rfl⟩
theorem piece_strs {w : World} {base : Nat} {g c : Nat} {l : List Str} (h : Own w base 9 (.slice (some ⟨g, 0, none⟩) (l.map strV).length c) (l.map strV)) : Piece w 0 9 (SlP.v ⟨some (g, 0), l.length, c⟩) (l.map strV) := by
 have h2 := h.piece.lower (Nat.zero_le _)
 rw [List.length_map] at h2
 exact h2
theorem addA_form {t : TabP} {name : Str} {tos : List Str} (h : (nameB name && namesB tos) = false) : addA t name tos = (t, 0, 3) := by
 unfold addA
 rw [if_pos]
 cases h1 : nameB name
 ·exact .inl rfl
 ·rw [h1] at h; exact .inr (by simpa using h)
theorem addA_large {t : TabP} {name : Str} {tos : List Str} (h : (nameB name && namesB tos) = true) (h2 : 8 < tos.length) : addA t name tos = (t, 0, 4) := by
 simp only [Bool.and_eq_true] at h
 unfold addA
 rw [if_neg (by simp [h.1, h.2]), if_pos h2]
theorem addA_there {t : TabP} {name : Str} {tos : List Str} (h : (nameB name && namesB tos) = true) (h2 : ¬ 8 < tos.length) (h3 : decide (name ∈ namesU t) = true) : addA t name tos = (t, 0, 8) := by
 simp only [Bool.and_eq_true] at h
 unfold addA
 rw [if_neg (by simp [h.1, h.2]), if_neg h2, if_pos (of_decide_eq_true h3)]
theorem addA_full {t : TabP} {name : Str} {tos : List Str} (h : (nameB name && namesB tos) = true) (h2 : ¬ 8 < tos.length) (h3 : decide (name ∈ namesU t) = false) (h4 : decide (name ∈ namesA t) = false) (h5 : t.al.length = 16) : addA t name tos = (t, 0, 6) := by
 simp only [Bool.and_eq_true] at h
 unfold addA
 rw [if_neg (by simp [h.1, h.2]), if_neg h2, if_neg (of_decide_eq_false h3), if_pos ⟨of_decide_eq_false h4, h5⟩]
theorem addA_ok {t : TabP} {name : Str} {tos : List Str} (h : (nameB name && namesB tos) = true) (h2 : ¬ 8 < tos.length) (h3 : decide (name ∈ namesU t) = false) (h4 : decide (name ∈ namesA t) = true ∨ t.al.length ≠ 16) : addA t name tos = ({ t with al := insA ⟨name, tos⟩ (t.al.filter fun a => decide (a.name ≠ name)) }, 0, 0) := by
 simp only [Bool.and_eq_true] at h
 unfold addA
 rw [if_neg (by simp [h.1, h.2]), if_neg h2, if_neg (of_decide_eq_false h3), if_neg]
 rintro ⟨h5, h6⟩
 rcases h4 with h4 | h4
 ·exact h5 (of_decide_eq_true h4)
 ·exact h4 h6
theorem namesB_pos {l : List Str} (h : namesB l = true) : 0 < l.length := by
 unfold namesB at h
 simp only [Bool.and_eq_true, decide_eq_true_eq] at h
 exact List.length_pos_iff.2 h.2
set_option maxRecDepth 100000 in
set_option maxHeartbeats 4000000 in
theorem addAlias_any (w : World) (g b1 b2 n : Nat) (t : TabP) (h : TabAt w g b1 b2 n t) (hn : n < 1000000) (name : Str) (hl : name.length ≤ 1000000) (v : Value) (tos : List Str) (hr : Row w v (tos.map strV)) (hls : ∀ s ∈ tos, s.length ≤ 1000000) (hln0 : tos.length ≤ 100000) : Calls Tryz.prog 34 #[.pointer (some ⟨g, 0, none⟩), .string (bstr name), v] w (ActedE w g b1 b2 n (addA t name tos)) := by
 obtain ⟨p, cap, hv, -, -⟩ := hr.form
 rw [List.length_map] at hv
 subst hv
 have HT := Lib.hid h
 have HR := Lib.hid hr
 have hlm : name.length ≤ maxLen := by unfold maxLen; omega
 have HFO := Lib.hid (@addA_form t name tos)
 have HLA := Lib.hid (@addA_large t name tos)
 have HTH := Lib.hid (@addA_there t name tos)
 have HFU := Lib.hid (@addA_full t name tos)
 have HOK := Lib.hid (@addA_ok t name tos)
 have HPO := Lib.hid (@namesB_pos tos)
 have CN := Lib.hid (fun w => isName_any name (by omega) w)
 have CM := Lib.hid (fun (w' : World) (k : Keeps w w') => areNames_any w' (.slice p tos.length cap) tos (by have := hr.keeps k; exact this) hls hln0)
 have CC := Lib.hid (fun (w' : World) (k : Keeps w w') => clone_any w' (.slice p tos.length cap) tos (by have := hr.keeps k; exact this) hln0)
 obtain ⟨un, us, ub, uc, hlk, -⟩ := look_forms h hlm
 obtain ⟨iu, hiu⟩ : ∃ z, decide (name ∈ namesU t) = z := ⟨_, rfl⟩
 obtain ⟨ia, hia⟩ : ∃ z, decide (name ∈ namesA t) = z := ⟨_, rfl⟩
 have HIA := Lib.hid hia
 rw [hiu] at hlk HTH HFU HOK
 rw [hia] at HFU HOK
 obtain ⟨-, -, c2, -⟩ := h.cells
 generalize addA t name tos = r at *
 clear h hr hls hiu hia
 go_enter Tryz.func34, Tryz.ntmps34
 go_upto_region 2 with fail
 generalize hW : World.alloc w _ = w1
 have HK1 := Lib.hid (show Keeps w w1 from by rw [← hW]; exact (Keeps.refl _).alloc _)
 clear hW hlk c2
 have HT1 := Lib.hid (HT.out.keeps HK1.out)
 obtain ⟨sa, pa, na, ca, hla⟩ := lookA_forms HT1.out hlm
 rw [HIA.out] at hla
 obtain ⟨-, -, -, c3⟩ := HT1.out.cells
 go_upto_region 3 with fail
 generalize hW : World.alloc w1 _ = w2
 have HK2 := Lib.hid (show Keeps w w2 from by rw [← hW]; exact HK1.out.alloc _)
 clear hW hla c3 HT1 HK1
 go_wp2_with fail
 refine (CN.out _).mono ?_
 rintro e w3 ⟨rfl, hk⟩
 have HK3 := Lib.hid (HK2.out.trans hk)
 clear hk HK2 CN
 generalize nameB name = nb at *
 generalize hmb : namesB tos = mb at *
 cases nb with
 |false =>
  have HRX := Lib.hid (HFO.out (by simp))
  go_wp2_with fail
  go_ret
  rw [HRX.out]
  exact actedE_same HT.out HK3.out
 |true =>
 go_wp2_with fail
 refine (CM.out _ HK3.out).mono ?_
 rintro e w4 ⟨rfl, hk⟩
 have HK4 := Lib.hid (HK3.out.trans hk)
 clear hk HK3 CM hmb
 cases mb with
 |false =>
  have HRX := Lib.hid (HFO.out (by simp))
  go_wp2_with fail
  go_ret
  rw [HRX.out]
  exact actedE_same HT.out HK4.out
 |true =>
 have hpos := HPO.out (by simp)
 by_cases h8 : 8 < tos.length
 ·have HRX := Lib.hid (HLA.out (by simp) h8)
  have e8 : decide ((8 : Int) < (tos.length : Int)) = true := decide_eq_true (by omega)
  go_wp2_with fail
  go_ret
  rw [HRX.out]
  exact actedE_same HT.out HK4.out
 have e8 : decide ((8 : Int) < (tos.length : Int)) = false := decide_eq_false (by omega)
 cases iu with
 |true =>
  have HRX := Lib.hid (HTH.out (by simp) h8 (by simp))
  go_wp2_with fail
  go_ret
  rw [HRX.out]
  exact actedE_same HT.out HK4.out
 |false =>
 have HT4 := Lib.hid (HT.out.keeps HK4.out)
 have hln := HT4.out.lenA
 obtain ⟨-, -, -, c3⟩ := HT4.out.cells
 obtain ⟨m, hm⟩ : ∃ z, t.al.length = z := ⟨_, rfl⟩
 rw [hm] at hln
 have HM := Lib.hid hm
 have H8 := Lib.hid h8
 clear hm h8
 have hgo : (ia = false ∧ m = 16) ∨ (ia = true ∨ m ≠ 16) := by
  cases ia
  ·by_cases h : m = 16
   ·exact .inl ⟨rfl, h⟩
   ·exact .inr (.inr h)
  ·exact .inr (.inl rfl)
 rcases hgo with ⟨rfl, h16⟩ | hgo
 ·have HRX := Lib.hid (HFU.out (by simp) H8.out (by simp) (by simp) (by rw [HM.out]; exact h16))
  have e16 : ((m : Int) == 16) = true := by simp [h16]
  clear h16
  go_wp2_with fail
  go_ret
  rw [HRX.out]
  exact actedE_same HT.out HK4.out
 ·have HRX := Lib.hid (HOK.out (by simp) H8.out (by simp) (by rw [HM.out]; exact hgo))
  clear HFO HLA HTH HFU HOK HPO
  have h16 : ia = true ∨ ((m : Int) == 16) = false := by
   rcases hgo with h | h
   ·exact .inl h
   ·right; simp; omega
  have HGB := Lib.hid (show ¬ g = b2 from fun e => HT4.out.ne2 e.symm)
  obtain ⟨es, cl, hmap⟩ : ∃ es cl, w4.heap[b2]? = some (.map es cl) := by
   obtain ⟨E, av, k1, -⟩ := HT4.out.al
   exact map_obj k1
  have HMP := Lib.hid hmap
  have HR4 := Lib.hid (HR.out.keeps HK4.out)
  have HT4d := Lib.hid (HT4.out.keeps (Keeps.refl w4).drew)
  clear hmap hgo
  have hgo2 : (ia = true ∨ (ia = false ∧ ((m : Int) == 16) = false)) := by
   cases ia
   ·rcases h16 with h | h
    ·cases h
    ·exact .inr ⟨rfl, h⟩
   ·left; rfl
  clear h16
  have HCC := Lib.hid (fun (wx : World) (k : Mods (· = b2) w4 wx) => clone_any wx (.slice p tos.length cap) tos (row_map HR4.out k HMP.out) hln0)
  clear CC
  rcases hgo2 with rfl | ⟨rfl, h16⟩
  all_goals
   go_upto_region 11 with fail
   refine wp_region_noPanic ?_
   refine wp_region_held_drew (S := fun w' => Mods (· = b2) w4 w') (by kernel_rfl) ((Mods.refl (· = b2) w4).drew) (fun _ => ?_)
   have hHeld : Mods (· = b2) w4 (w4).drew := (Mods.refl (· = b2) w4).drew
   generalize World.drew w4 = xs at *
   refine tq 0 55 ?_
   refine tq 1 56 ?_
   refine tq 2 57 ?_
   refine tq 3 58 ?_ (hy := fun w' hSw => by
    have hSw : Mods (· = b2) w4 w' := hSw
    have h0 := hSw.cell c3 HGB.out
    clear hSw
    go_simp
    try with_reducible rfl)
   refine tq 4 59 ?_
   refine tq 5 60 ?_
   refine tq 6 61 ?_
   refine rd1 7 (fun K hK => ?_)
   go_simp
   refine (HCC.out _ hHeld).mono ?_
   rintro e yA ⟨v, rfl, ho, hk⟩
   obtain ⟨q, cq, rfl⟩ := own_form ho (by simpa using hpos)
   have hb := hHeld.trans (Mods.of_keeps hk) (fun x h _ => h)
   have HOA := Lib.hid ho
   have HT4d := Lib.hid (HT4d.out.keeps hk)
   clear ho hk
   go_wp2_with fail
   refine bkm hK hb ?_
   clear hK K hHeld
   have hHeld : Mods (· = b2) w4 yA := hb
   clear hb
   refine tq 8 63 ?_
   refine rd1 9 (fun K hK => ?_)
   obtain ⟨yF, hrun, hbox, hM⟩ := HT4d.out.putA hn (a := ⟨name, tos⟩) (s := ⟨some (q, 0), tos.length, cq⟩) hlm (piece_strs HOA.out)
   have hrun : (Instr.mapUpdate 82 (.map (some b2)) (.string (bstr name)) (.agg #[.string (bstr name), .slice (some ⟨q, 0, none⟩) tos.length cq])).run Tryz.prog yA = .ok () yF := hrun
   go_simp
   have hb := hHeld.trans hM (fun x h _ => h)
   have HBd := Lib.hid hbox
   clear hrun hbox hM
   refine bkm hK hb ?_
   clear hK K hHeld
   have hHeld : Mods (· = b2) w4 yF := hb
   clear hb
   refine wpAnyH_done (by kernel_rfl) ?_ _
   refine NoPanic.normal ?_
   go_wp2_with fail
   go_ret
   rw [HRX.out]
   exact ⟨rfl, HBd.out, (Mods.of_keeps (S := TFr g b1 b2) HK4.out).trans hHeld (fun y hy _ => .inr (.inr hy))⟩
end Usr
end Go.Proofs.YtklbemkafdccgaaGreat

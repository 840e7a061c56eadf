/- Several texts in one: UsRefAdd, UsCatch. -/
import Derived.Test.YtklbemkafdccgaaGreatUsRefDrop
import Derived.Test.YtklbemkafdccgaaGreatK09
import Derived.Test.YtklbemkafdccgaaGreatK44
import Derived.Defers
import Derived.Recover
import Derived.Laws.Pointers
/- ref13: AddUser. (Printed by gen_usradd.py.) -/
namespace Go.Proofs.YtklbemkafdccgaaGreat
open Go.RowKit
namespace Usr
open Adr (Str)
open Mp Go.Maps
open Frm (ownsRow_keeps ownsRow_mods ownsRow_ne ownsRow_form ownsRow_base)
theorem Own0.lt {w : World} {base C n g c : Nat} {e : TypeId} {xs : List Value} (h : w.ownsRow base e C (.slice (some ⟨g, 0, none⟩) n c) n xs) : g < w.heap.size := by
 obtain ⟨cs, hh⟩ := owns_obj h (y := g) rfl
 exact (Array.getElem?_eq_some_iff.1 hh).1
theorem limM : Mids Tryz.prog 36 2 := ⟨⟨_, Tryz.underlying36, rfl⟩, by kernel_rfl⟩
theorem rowS_blk {w : World} {b C : Nat} {cs : Array Value} {e : TypeId} {l : List Value} (h : Blk w b e cs) (hl : cs.toList = l) (hC : l.length = C) : RowS w C (.slice (some ⟨b, 0, none⟩) 1 1) 1 l := by
 subst hl
 exact ⟨by simpa using hC, .inr ⟨b, 0, 1, rfl, Nat.le_refl _, by simp [maxLen], fun i x hx => by rw [Nat.zero_add, h.cell]; simpa using hx⟩⟩
set_option maxRecDepth 100000 in
set_option maxHeartbeats 4000000 in
theorem rAddUser_any (w : World) (uv av : Value) (t : TabP) (L : List (AlP × Value)) (h : RT w uv av t L) (hR : Right t) (name : Str) (hn : name.length ≤ 1000000) (b c : Int) : Calls Tryz.prog 38 #[rtV uv av t, .string (bstr name), .agg #[.int .i64 b, .int .i64 c]] w (RGot w (addU t name b c)) := by
 have HUL := Lib.hid hR.ul
 have HAL := Lib.hid (show L.length ≤ 1000000 from by have h1 := hR.all; rw [← h.alm, List.length_map] at h1; omega)
 obtain ⟨pu, cu, pa, ca, rfl, rfl, -, -⟩ := h.forms
 have HR := Lib.hid h
 have HNX := Lib.hid hR.nx
 have CN := Lib.hid (fun w' => rName_any name (by omega) w')
 have CG := Lib.hid (fun w' => Quota.rGood_any b c w')
 rw [limB_eq] at CG
 have CU := Lib.hid (fun (w' : World) (k : Keeps w w') => rUser_any w' _ _ t L (h.keeps k).tab (by have := HUL.out; omega) name)
 have CA := Lib.hid (fun (w' : World) (k : Keeps w w') => rAlias_any w' _ _ t L (h.keeps k).tab HAL.out name)
 have XF := Lib.hid (@addU_form t name b c)
 have XL := Lib.hid (@addU_lim t name b c)
 have XT := Lib.hid (@addU_there t name b c)
 have XU := Lib.hid (@addU_full t name b c)
 have XO := Lib.hid (@addU_ok t name b c)
 obtain ⟨nb, hnb⟩ : ∃ z, nameB name = z := ⟨_, rfl⟩
 obtain ⟨lb, hlb⟩ : ∃ z, limB b c = z := ⟨_, rfl⟩
 rw [hnb] at CN XF XL XT XU XO
 rw [hlb] at CG XL XT XU XO
 clear h hR hn hnb hlb
 unfold rtV at CU CA ⊢
 go_enter Tryz.func38, Tryz.ntmps38
 go_upto_region 1 with fail
 generalize hW : World.alloc (World.alloc (World.alloc w _) _) _ = w1
 have HK := Lib.hid (show Keeps w w1 from by rw [← hW]; exact (((Keeps.refl _).alloc _).alloc _).alloc _)
 have HB := Lib.hid (show Blk w1 w.heap.size 32 #[.string (bstr t.dom), .int .i64 t.next, .slice pu t.us.length cu, .slice pa L.length ca] from by rw [← hW]; exact (Blk.new _ _ _ rfl).keeps (((Keeps.refl _).alloc _).alloc _))
 have HL := Lib.hid (show Blk w1 (w.heap.size + 1) 36 #[.int .i64 b, .int .i64 c] from by rw [← hW]; exact (Blk.new _ _ _ (Frm.alloc_size _ _).symm).keeps ((Keeps.refl _).alloc _))
 have HG := Lib.hid (show Blk w1 (w.heap.size + 1 + 1) 86 #[.string ⟨#[]⟩, .int .i64 0, .slice none 0 0, .slice none 0 0, .int .i64 0, .int .i64 0] from by rw [← hW]; exact Blk.new _ _ _ (by rw [Frm.alloc_size, Frm.alloc_size]))
 clear hW
 obtain ⟨q, hq⟩ : ∃ z, w.heap.size = z := ⟨_, rfl⟩
 have HQ := Lib.hid hq
 rw [hq] at HB HG HL ⊢
 clear hq
 go_wp2_with fail
 refine (CN.out _).mono ?_
 rintro e w' ⟨rfl, rfl⟩
 cases nb with
 |false =>
  have HX := Lib.hid (XF.out (by trivial))
  generalize addU t name b c = r at *
  go_wp2_with (first
   |refine wpList_ld rfl rtM HB.out _ rfl rfl ?_
   |(refine wpList_st (ds := #[.string (bstr t.dom), .int .i64 t.next, .slice pu t.us.length cu, .slice pa L.length ca, .int .i64 0, .int .i64 3]) rfl gotM HG.out rfl (by simp [Value.oneCell']) _ _ rfl rfl rfl rfl ?_; intro w9 hB9 hM9; have HLd := Lib.hid (ld_run (P := Tryz.prog) gotM hB9); have HM9 := Lib.hid hM9; clear hB9 hM9))
  refine bodyPost_ret (v := .agg #[.string (bstr t.dom), .int .i64 t.next, .slice pu t.us.length cu, .slice pa L.length ca, .int .i64 0, .int .i64 3]) (by simp [results, Tryz.results38, Sem.run_bind, Sem.run_pure, Result.andThen_ok, Act.put, asAddr, HLd.out]) rfl ?_
  have hk9 : Keeps w w9 := HM9.out.keeps HK.out (fun x hx => by rw [hx, ← HQ.out]; omega)
  rw [HX.out]
  exact ⟨_, _, L, rfl, HR.out.keeps hk9, hk9⟩
 |true =>
 go_wp2_with (refine wpList_ld rfl limM HL.out _ rfl rfl ?_)
 refine (CG.out _).mono ?_
 rintro e w2 ⟨rfl, hk⟩
 have HK := Lib.hid (HK.out.trans hk)
 have HB := Lib.hid (HB.out.keeps hk)
 have HL := Lib.hid (HL.out.keeps hk)
 have HG := Lib.hid (HG.out.keeps hk)
 clear hk CN CG XF
 cases lb with
 |false =>
  have HX := Lib.hid (XL.out (by trivial) (by trivial))
  generalize addU t name b c = r at *
  go_wp2_with (first
   |refine wpList_ld rfl rtM HB.out _ rfl rfl ?_
   |(refine wpList_st (ds := #[.string (bstr t.dom), .int .i64 t.next, .slice pu t.us.length cu, .slice pa L.length ca, .int .i64 0, .int .i64 1]) rfl gotM HG.out rfl (by simp [Value.oneCell']) _ _ rfl rfl rfl rfl ?_; intro w9 hB9 hM9; have HLd := Lib.hid (ld_run (P := Tryz.prog) gotM hB9); have HM9 := Lib.hid hM9; clear hB9 hM9))
  refine bodyPost_ret (v := .agg #[.string (bstr t.dom), .int .i64 t.next, .slice pu t.us.length cu, .slice pa L.length ca, .int .i64 0, .int .i64 1]) (by simp [results, Tryz.results38, Sem.run_bind, Sem.run_pure, Result.andThen_ok, Act.put, asAddr, HLd.out]) rfl ?_
  have hk9 : Keeps w w9 := HM9.out.keeps HK.out (fun x hx => by rw [hx, ← HQ.out]; omega)
  rw [HX.out]
  exact ⟨_, _, L, rfl, HR.out.keeps hk9, hk9⟩
 |true =>
 clear XL
 go_wp2_with (refine wpList_ld rfl rtM HB.out _ rfl rfl ?_)
 refine (CU.out _ HK.out).mono ?_
 rintro e w3 ⟨rfl, hk⟩
 have HK := Lib.hid (HK.out.trans hk)
 have HB := Lib.hid (HB.out.keeps hk)
 have HL := Lib.hid (HL.out.keeps hk)
 have HG := Lib.hid (HG.out.keeps hk)
 clear hk CU
 rcases posL_cases (namesU t) name with ⟨hu, hp⟩ | ⟨i, hi, hni, hp⟩
 rotate_left
 ·have HME := Lib.hid (show name ∈ namesU t from hni ▸ List.getElem_mem hi)
  rw [hp]
  clear hp hni hi
  have hge : decide ((0 : Int) ≤ (i : Int)) = true := decide_eq_true (by omega)
  have HX := Lib.hid (XT.out (by trivial) (by trivial) (by simp [HME.out]))
  generalize addU t name b c = r at *
  go_wp2_with (first
   |refine wpList_ld rfl rtM HB.out _ rfl rfl ?_
   |(refine wpList_st (ds := #[.string (bstr t.dom), .int .i64 t.next, .slice pu t.us.length cu, .slice pa L.length ca, .int .i64 0, .int .i64 8]) rfl gotM HG.out rfl (by simp [Value.oneCell']) _ _ rfl rfl rfl rfl ?_; intro w9 hB9 hM9; have HLd := Lib.hid (ld_run (P := Tryz.prog) gotM hB9); have HM9 := Lib.hid hM9; clear hB9 hM9))
  refine bodyPost_ret (v := .agg #[.string (bstr t.dom), .int .i64 t.next, .slice pu t.us.length cu, .slice pa L.length ca, .int .i64 0, .int .i64 8]) (by simp [results, Tryz.results38, Sem.run_bind, Sem.run_pure, Result.andThen_ok, Act.put, asAddr, HLd.out]) rfl ?_
  have hk9 : Keeps w w9 := HM9.out.keeps HK.out (fun x hx => by rw [hx, ← HQ.out]; omega)
  rw [HX.out]
  exact ⟨_, _, L, rfl, HR.out.keeps hk9, hk9⟩
 have HNU := Lib.hid hu
 rw [hp]
 clear hu hp
 have q0 : w3.cell? ⟨q, 0, none⟩ = some (.string (bstr t.dom)) := by rw [HB.out.cell]; rfl
 have q1 : w3.cell? ⟨q, 1, none⟩ = some (.int .i64 t.next) := by rw [HB.out.cell]; rfl
 have q2 : w3.cell? ⟨q, 2, none⟩ = some (.slice pu t.us.length cu) := by rw [HB.out.cell]; rfl
 have q3 : w3.cell? ⟨q, 3, none⟩ = some (.slice pa L.length ca) := by rw [HB.out.cell]; rfl
 go_wp2_with fail
 clear q0 q1 q2 q3
 refine (CA.out _ HK.out).mono ?_
 rintro e w4 ⟨rfl, hk⟩
 have HK := Lib.hid (HK.out.trans hk)
 have HB := Lib.hid (HB.out.keeps hk)
 have HL := Lib.hid (HL.out.keeps hk)
 have HG := Lib.hid (HG.out.keeps hk)
 clear hk CA
 rcases posL_cases (namesA t) name with ⟨hu, hp⟩ | ⟨i, hi, hni, hp⟩
 rotate_left
 ·have HME := Lib.hid (show name ∈ namesA t from hni ▸ List.getElem_mem hi)
  rw [hp]
  clear hp hni hi
  have hge : decide ((0 : Int) ≤ (i : Int)) = true := decide_eq_true (by omega)
  have HX := Lib.hid (XT.out (by trivial) (by trivial) (by simp [HME.out]))
  generalize addU t name b c = r at *
  go_wp2_with (first
   |refine wpList_ld rfl rtM HB.out _ rfl rfl ?_
   |(refine wpList_st (ds := #[.string (bstr t.dom), .int .i64 t.next, .slice pu t.us.length cu, .slice pa L.length ca, .int .i64 0, .int .i64 8]) rfl gotM HG.out rfl (by simp [Value.oneCell']) _ _ rfl rfl rfl rfl ?_; intro w9 hB9 hM9; have HLd := Lib.hid (ld_run (P := Tryz.prog) gotM hB9); have HM9 := Lib.hid hM9; clear hB9 hM9))
  refine bodyPost_ret (v := .agg #[.string (bstr t.dom), .int .i64 t.next, .slice pu t.us.length cu, .slice pa L.length ca, .int .i64 0, .int .i64 8]) (by simp [results, Tryz.results38, Sem.run_bind, Sem.run_pure, Result.andThen_ok, Act.put, asAddr, HLd.out]) rfl ?_
  have hk9 : Keeps w w9 := HM9.out.keeps HK.out (fun x hx => by rw [hx, ← HQ.out]; omega)
  rw [HX.out]
  exact ⟨_, _, L, rfl, HR.out.keeps hk9, hk9⟩
 have HNA := Lib.hid hu
 rw [hp]
 clear hu hp
 obtain ⟨w2, rfl⟩ : ∃ z, z = w4 := ⟨_, rfl⟩
 have XU := Lib.hid (XU.out (by trivial) (by trivial) (by simp [HNU.out, HNA.out]))
 have q1 : w2.cell? ⟨q, 1, none⟩ = some (.int .i64 t.next) := by rw [HB.out.cell]; rfl
 have q2 : w2.cell? ⟨q, 2, none⟩ = some (.slice pu t.us.length cu) := by rw [HB.out.cell]; rfl
 by_cases h16 : t.us.length = 16
 ·have XQ := Lib.hid (XU.out (.inl h16))
  have e1 : ((t.us.length : Int) == 16) = true := by rw [h16]; rfl
  clear h16
  have HX := Lib.hid (XQ.out)
  generalize addU t name b c = r at *
  go_wp2_with (first
   |refine wpList_ld rfl rtM HB.out _ rfl rfl ?_
   |(refine wpList_st (ds := #[.string (bstr t.dom), .int .i64 t.next, .slice pu t.us.length cu, .slice pa L.length ca, .int .i64 0, .int .i64 6]) rfl gotM HG.out rfl (by simp [Value.oneCell']) _ _ rfl rfl rfl rfl ?_; intro w9 hB9 hM9; have HLd := Lib.hid (ld_run (P := Tryz.prog) gotM hB9); have HM9 := Lib.hid hM9; clear hB9 hM9))
  refine bodyPost_ret (v := .agg #[.string (bstr t.dom), .int .i64 t.next, .slice pu t.us.length cu, .slice pa L.length ca, .int .i64 0, .int .i64 6]) (by simp [results, Tryz.results38, Sem.run_bind, Sem.run_pure, Result.andThen_ok, Act.put, asAddr, HLd.out]) rfl ?_
  have hk9 : Keeps w w9 := HM9.out.keeps HK.out (fun x hx => by rw [hx, ← HQ.out]; omega)
  rw [HX.out]
  exact ⟨_, _, L, rfl, HR.out.keeps hk9, hk9⟩
 have e1 : ((t.us.length : Int) == 16) = false := by simp; omega
 have H16 := Lib.hid h16
 clear h16
 by_cases h99 : 999 < t.next
 ·have XQ := Lib.hid (XU.out (.inr h99))
  have e2 : decide (999 < t.next) = true := decide_eq_true h99
  clear h99
  have HX := Lib.hid (XQ.out)
  generalize addU t name b c = r at *
  go_wp2_with (first
   |refine wpList_ld rfl rtM HB.out _ rfl rfl ?_
   |(refine wpList_st (ds := #[.string (bstr t.dom), .int .i64 t.next, .slice pu t.us.length cu, .slice pa L.length ca, .int .i64 0, .int .i64 6]) rfl gotM HG.out rfl (by simp [Value.oneCell']) _ _ rfl rfl rfl rfl ?_; intro w9 hB9 hM9; have HLd := Lib.hid (ld_run (P := Tryz.prog) gotM hB9); have HM9 := Lib.hid hM9; clear hB9 hM9))
  refine bodyPost_ret (v := .agg #[.string (bstr t.dom), .int .i64 t.next, .slice pu t.us.length cu, .slice pa L.length ca, .int .i64 0, .int .i64 6]) (by simp [results, Tryz.results38, Sem.run_bind, Sem.run_pure, Result.andThen_ok, Act.put, asAddr, HLd.out]) rfl ?_
  have hk9 : Keeps w w9 := HM9.out.keeps HK.out (fun x hx => by rw [hx, ← HQ.out]; omega)
  rw [HX.out]
  exact ⟨_, _, L, rfl, HR.out.keeps hk9, hk9⟩
 have e2 : decide (999 < t.next) = false := decide_eq_false h99
 have HX := Lib.hid (XO.out (by trivial) (by trivial) HNU.out HNA.out H16.out (by omega))
 have HN9 := Lib.hid (show t.next ≤ 999 by omega)
 have hwn : IntKind.i64.wrap (t.next + 1) = t.next + 1 := IntWalk.i64_in _ (by have := HNX.out; omega)
 generalize addU t name b c = r at *
 clear h99 XU XO XT
 go_upto_region 10 with fail
 clear q1 q2 e1 e2
 have HT2 := Lib.hid (HR.out.keeps HK.out)
 have HP1 := Lib.hid (show ∀ x, Mods (· = q) w2 x → RowS x 4 (.slice pu t.us.length cu) t.us.length (t.us.flatMap usC) from fun x k => (HT2.out.blk k HB.out (by decide)).tab.us)
 have HLq := Lib.hid (show ∀ x, Mods (· = q) w2 x → Blk x (q + 1) 36 #[.int .i64 b, .int .i64 c] from fun x k => HL.out.mods k (fun e => by omega))
 go_cut [] (fun wx => Hid (∃ pz cz, Blk wx q 32 #[.string (bstr t.dom), .int .i64 t.next, .slice pz (t.us.length + 1) cz, .slice pa L.length ca] ∧ wx.ownsRow w2.heap.size 42 4 (.slice pz (t.us.length + 1) cz) (t.us.length + 1) (t.us.flatMap usC ++ [.int .i64 t.next, .string (bstr name), .int .i64 b, .int .i64 c]) ∧ Mods (· = q) w2 wx))
 case first =>
  have HX2 := Lib.hid HB.out.drew
  refine wp_region_noPanic ?_
  refine wp_region_held_drew (S := fun w' => Mods (· = q) w2 w') (by kernel_rfl) ((Mods.refl (· = q) w2).drew) (fun _ => ?_)
  have hHeld : Mods (· = q) w2 (w2).drew := (Mods.refl (· = q) w2).drew
  generalize World.drew w2 = xs at *
  refine tq 1 44 ?_
  refine tq 4 47 ?_
  refine tq 5 48 ?_
  refine wpAnyH_take (i := 6) (by rfl) (by kernel_rfl) (by kernel_rfl) (by kernel_rfl) (by intro _ _ _ h; exact h) (yieldsIf_ld (by kernel_rfl) limM (fun x hS => HLq.out x hS) _ rfl rfl) (by assumption) ?rest4
  change wpAnyH _ _ _ _ _ _ _ (Act.put _ (some 49) _) _
  try simp only [Act.put, List.setIfInBounds_toArray, List.set_cons_zero, List.set_cons_succ]
  refine tq 7 50 ?_
  refine wpAnyH_ready (rs := [0, 2, 8]) (by kernel_rfl) (by simp) ?_
  refine AllReadyH.cons (o := _) rfl (fun K hK => ?_) ?_
  ·go_simp
   obtain ⟨g0, hg0⟩ : ∃ z, z = (World.heap xs).size := ⟨_, rfl⟩
   have H0 := Lib.hid (ownsZ (w := xs) (e := 42) (C := 4) hg0 (show w2.heap.size ≤ g0 from by rw [hg0]; exact hHeld.size))
   have HX2 := Lib.hid (HX2.out.alloc (.cells #[] 42))
   have hb := hHeld.alloc (.cells #[] 42)
   rw [← hg0]
   clear hg0
   generalize World.alloc xs (.cells #[] 42) = x0 at *
   refine bkm hK hb ?_
   clear hK K hHeld
   have hHeld : Mods (· = q) w2 x0 := hb
   clear hb
   refine wpAnyH_ready (rs := [2, 8]) (by kernel_rfl) (by simp) ?_
   refine AllReadyH.cons (o := _) rfl (fun K hK => ?_) ?_
   ·have hx : World.cell? x0 ⟨q, 2, none⟩ = some (.slice pu t.us.length cu) := by rw [HX2.out.cell]; rfl
    go_simp
    clear hx
    have hb := hHeld
    refine bkm hK hb ?_
    clear hK K hHeld
    have hHeld : Mods (· = q) w2 x0 := hb
    clear hb
    refine wpAnyH_ready (rs := [3, 8]) (by kernel_rfl) (by simp) ?_
    refine AllReadyH.cons (o := _) rfl (fun K hK => ?_) ?_
    ·refine step_apps (base := w2.heap.size) usOk (by decide) rfl _ _ rfl (.slice (some ⟨g0, 0, none⟩) 0 0) (.slice pu t.us.length cu) 0 t.us.length [] (t.us.flatMap usC) rfl rfl H0.out (HP1.out _ hHeld) (us_one _) (by have := HUL.out; omega) (by decide) hHeld.size ?_
     intro v5 x3 ho5 hg5
     rw [Nat.zero_add, List.nil_append] at ho5
     obtain ⟨p5, c5, rfl, -, -⟩ := ownsRow_form ho5
     have HX2 := Lib.hid (HX2.out.grown hg5 (ownsRow_ne H0.out HX2.out (by decide)))
     have hb := hHeld.grown hg5 (fun k hk hl => by have := ownsRow_base H0.out k hk; omega)
     have H5 := Lib.hid ho5
     clear ho5 hg5 H0
     show K (Act.put _ (some 46) _) x3
     refine bkm hK hb ?_
     clear hK K hHeld
     have hHeld : Mods (· = q) w2 x3 := hb
     clear hb
     refine rd1 8 (fun K hK => ?_)
     go_simp
     obtain ⟨g8, hg8⟩ : ∃ z, z = (World.heap x3).size := ⟨_, rfl⟩
     have H5 := Lib.hid (ownsRow_keeps H5.out ((Keeps.refl _).alloc (.cells #[.int .i64 t.next, .string (bstr name), .int .i64 b, .int .i64 c] 42)))
     have HN := Lib.hid (Blk.new x3 42 #[.int .i64 t.next, .string (bstr name), .int .i64 b, .int .i64 c] hg8)
     have HX2 := Lib.hid (HX2.out.alloc (.cells #[.int .i64 t.next, .string (bstr name), .int .i64 b, .int .i64 c] 42))
     have hb := hHeld.alloc (.cells #[.int .i64 t.next, .string (bstr name), .int .i64 b, .int .i64 c] 42)
     rw [← hg8]
     clear hg8
     generalize World.alloc x3 (.cells #[.int .i64 t.next, .string (bstr name), .int .i64 b, .int .i64 c] 42) = x8 at *
     refine bkm hK hb ?_
     clear hK K hHeld
     have hHeld : Mods (· = q) w2 x8 := hb
     clear hb
     refine rd1 9 (fun K hK => ?_)
     refine step_apps (base := w2.heap.size) usOk (by decide) rfl _ _ rfl (.slice p5 t.us.length c5) (.slice (some ⟨g8, 0, none⟩) 1 1) t.us.length 1 (t.us.flatMap usC) [.int .i64 t.next, .string (bstr name), .int .i64 b, .int .i64 c] rfl rfl H5.out (rowS_blk HN.out rfl rfl) (by simp [Value.oneCell']) (by have := HUL.out; omega) (by decide) hHeld.size ?_
     intro v6 x9 ho6 hg6
     obtain ⟨p6, c6, rfl, -, -⟩ := ownsRow_form ho6
     have HX2 := Lib.hid (HX2.out.grown hg6 (ownsRow_ne H5.out HX2.out (by decide)))
     have hb := hHeld.grown hg6 (fun k hk hl => by have := ownsRow_base H5.out k hk; omega)
     have H6 := Lib.hid ho6
     clear ho6 hg6 H5
     show K (Act.put _ (some 52) _) x9
     refine bkm hK hb ?_
     clear hK K hHeld
     have hHeld : Mods (· = q) w2 x9 := hb
     clear hb
     refine tq 10 53 ?_
     refine rd1 11 (fun K hK => ?_)
     have hx : World.cell? x9 ⟨q, 2, none⟩ = some (.slice pu t.us.length cu) := by rw [HX2.out.cell]; rfl
     have hz : World.frozen? x9 ⟨q, 2, none⟩ = false := HX2.out.frozen 2
     go_simp
     have HX3 := Lib.hid (HX2.out.set_ 2 (.slice p6 (t.us.length + 1) c6))
     have H6s := Lib.hid (ownsRow_mods (S := fun x => x = q) H6.out ((Mods.refl (fun x => x = q) _).setCell (p := ⟨q, 2, none⟩) (fun _ => rfl) (.slice p6 (t.us.length + 1) c6)) (fun x hx e => ownsRow_ne H6.out HX2.out (by decide) (by rw [hx, e])))
     have hb := hHeld.setCell (p := ⟨q, 2, none⟩) (fun _ => rfl) (.slice p6 (t.us.length + 1) c6)
     clear hx hz HX2 H6
     generalize World.setCell x9 ⟨q, 2, none⟩ (.slice p6 (t.us.length + 1) c6) = xF at *
     refine bkm hK hb ?_
     clear hK K hHeld
     have hHeld : Mods (· = q) w2 xF := hb
     clear hb
     refine wpAnyH_done (by kernel_rfl) ?_ _
     refine NoPanic.normal ?_
     go_wp2_with fail
     go_meet
     exact Lib.hid ⟨p6, c6, HX3.out, H6s.out, hHeld⟩
    refine AllReadyH.cons (o := _) rfl (fun K hK => ?_) ?_
    ·go_simp
     obtain ⟨g8, hg8⟩ : ∃ z, z = (World.heap x0).size := ⟨_, rfl⟩
     have HNE := Lib.hid (show g0 ≠ g8 from fun e => by have := Own0.lt H0.out; omega)
     have H0 := Lib.hid (ownsRow_keeps H0.out ((Keeps.refl _).alloc (.cells #[.int .i64 t.next, .string (bstr name), .int .i64 b, .int .i64 c] 42)))
     have HN := Lib.hid (Blk.new x0 42 #[.int .i64 t.next, .string (bstr name), .int .i64 b, .int .i64 c] hg8)
     have HX2 := Lib.hid (HX2.out.alloc (.cells #[.int .i64 t.next, .string (bstr name), .int .i64 b, .int .i64 c] 42))
     have hb := hHeld.alloc (.cells #[.int .i64 t.next, .string (bstr name), .int .i64 b, .int .i64 c] 42)
     rw [← hg8]
     clear hg8
     generalize World.alloc x0 (.cells #[.int .i64 t.next, .string (bstr name), .int .i64 b, .int .i64 c] 42) = x8 at *
     refine bkm hK hb ?_
     clear hK K hHeld
     have hHeld : Mods (· = q) w2 x8 := hb
     clear hb
     refine rd1 3 (fun K hK => ?_)
     refine step_apps (base := w2.heap.size) usOk (by decide) rfl _ _ rfl (.slice (some ⟨g0, 0, none⟩) 0 0) (.slice pu t.us.length cu) 0 t.us.length [] (t.us.flatMap usC) rfl rfl H0.out (HP1.out _ hHeld) (us_one _) (by have := HUL.out; omega) (by decide) hHeld.size ?_
     intro v5 x3 ho5 hg5
     rw [Nat.zero_add, List.nil_append] at ho5
     obtain ⟨p5, c5, rfl, -, -⟩ := ownsRow_form ho5
     have HX2 := Lib.hid (HX2.out.grown hg5 (ownsRow_ne H0.out HX2.out (by decide)))
     have hb := hHeld.grown hg5 (fun k hk hl => by have := ownsRow_base H0.out k hk; omega)
     have HN := Lib.hid (HN.out.grown hg5 (fun e => HNE.out (by simpa [Value.ownBlock] using e)))
     have H5 := Lib.hid ho5
     clear ho5 hg5 H0
     show K (Act.put _ (some 46) _) x3
     refine bkm hK hb ?_
     clear hK K hHeld
     have hHeld : Mods (· = q) w2 x3 := hb
     clear hb
     refine rd1 9 (fun K hK => ?_)
     refine step_apps (base := w2.heap.size) usOk (by decide) rfl _ _ rfl (.slice p5 t.us.length c5) (.slice (some ⟨g8, 0, none⟩) 1 1) t.us.length 1 (t.us.flatMap usC) [.int .i64 t.next, .string (bstr name), .int .i64 b, .int .i64 c] rfl rfl H5.out (rowS_blk HN.out rfl rfl) (by simp [Value.oneCell']) (by have := HUL.out; omega) (by decide) hHeld.size ?_
     intro v6 x9 ho6 hg6
     obtain ⟨p6, c6, rfl, -, -⟩ := ownsRow_form ho6
     have HX2 := Lib.hid (HX2.out.grown hg6 (ownsRow_ne H5.out HX2.out (by decide)))
     have hb := hHeld.grown hg6 (fun k hk hl => by have := ownsRow_base H5.out k hk; omega)
     have H6 := Lib.hid ho6
     clear ho6 hg6 H5
     show K (Act.put _ (some 52) _) x9
     refine bkm hK hb ?_
     clear hK K hHeld
     have hHeld : Mods (· = q) w2 x9 := hb
     clear hb
     refine tq 10 53 ?_
     refine rd1 11 (fun K hK => ?_)
     have hx : World.cell? x9 ⟨q, 2, none⟩ = some (.slice pu t.us.length cu) := by rw [HX2.out.cell]; rfl
     have hz : World.frozen? x9 ⟨q, 2, none⟩ = false := HX2.out.frozen 2
     go_simp
     have HX3 := Lib.hid (HX2.out.set_ 2 (.slice p6 (t.us.length + 1) c6))
     have H6s := Lib.hid (ownsRow_mods (S := fun x => x = q) H6.out ((Mods.refl (fun x => x = q) _).setCell (p := ⟨q, 2, none⟩) (fun _ => rfl) (.slice p6 (t.us.length + 1) c6)) (fun x hx e => ownsRow_ne H6.out HX2.out (by decide) (by rw [hx, e])))
     have hb := hHeld.setCell (p := ⟨q, 2, none⟩) (fun _ => rfl) (.slice p6 (t.us.length + 1) c6)
     clear hx hz HX2 H6
     generalize World.setCell x9 ⟨q, 2, none⟩ (.slice p6 (t.us.length + 1) c6) = xF at *
     refine bkm hK hb ?_
     clear hK K hHeld
     have hHeld : Mods (· = q) w2 xF := hb
     clear hb
     refine wpAnyH_done (by kernel_rfl) ?_ _
     refine NoPanic.normal ?_
     go_wp2_with fail
     go_meet
     exact Lib.hid ⟨p6, c6, HX3.out, H6s.out, hHeld⟩
    exact AllReadyH.nil
   refine AllReadyH.cons (o := _) rfl (fun K hK => ?_) ?_
   ·go_simp
    obtain ⟨g8, hg8⟩ : ∃ z, z = (World.heap x0).size := ⟨_, rfl⟩
    have HNE := Lib.hid (show g0 ≠ g8 from fun e => by have := Own0.lt H0.out; omega)
    have H0 := Lib.hid (ownsRow_keeps H0.out ((Keeps.refl _).alloc (.cells #[.int .i64 t.next, .string (bstr name), .int .i64 b, .int .i64 c] 42)))
    have HN := Lib.hid (Blk.new x0 42 #[.int .i64 t.next, .string (bstr name), .int .i64 b, .int .i64 c] hg8)
    have HX2 := Lib.hid (HX2.out.alloc (.cells #[.int .i64 t.next, .string (bstr name), .int .i64 b, .int .i64 c] 42))
    have hb := hHeld.alloc (.cells #[.int .i64 t.next, .string (bstr name), .int .i64 b, .int .i64 c] 42)
    rw [← hg8]
    clear hg8
    generalize World.alloc x0 (.cells #[.int .i64 t.next, .string (bstr name), .int .i64 b, .int .i64 c] 42) = x8 at *
    refine bkm hK hb ?_
    clear hK K hHeld
    have hHeld : Mods (· = q) w2 x8 := hb
    clear hb
    refine rd1 2 (fun K hK => ?_)
    have hx : World.cell? x8 ⟨q, 2, none⟩ = some (.slice pu t.us.length cu) := by rw [HX2.out.cell]; rfl
    go_simp
    clear hx
    have hb := hHeld
    refine bkm hK hb ?_
    clear hK K hHeld
    have hHeld : Mods (· = q) w2 x8 := hb
    clear hb
    refine rd1 3 (fun K hK => ?_)
    refine step_apps (base := w2.heap.size) usOk (by decide) rfl _ _ rfl (.slice (some ⟨g0, 0, none⟩) 0 0) (.slice pu t.us.length cu) 0 t.us.length [] (t.us.flatMap usC) rfl rfl H0.out (HP1.out _ hHeld) (us_one _) (by have := HUL.out; omega) (by decide) hHeld.size ?_
    intro v5 x3 ho5 hg5
    rw [Nat.zero_add, List.nil_append] at ho5
    obtain ⟨p5, c5, rfl, -, -⟩ := ownsRow_form ho5
    have HX2 := Lib.hid (HX2.out.grown hg5 (ownsRow_ne H0.out HX2.out (by decide)))
    have hb := hHeld.grown hg5 (fun k hk hl => by have := ownsRow_base H0.out k hk; omega)
    have HN := Lib.hid (HN.out.grown hg5 (fun e => HNE.out (by simpa [Value.ownBlock] using e)))
    have H5 := Lib.hid ho5
    clear ho5 hg5 H0
    show K (Act.put _ (some 46) _) x3
    refine bkm hK hb ?_
    clear hK K hHeld
    have hHeld : Mods (· = q) w2 x3 := hb
    clear hb
    refine rd1 9 (fun K hK => ?_)
    refine step_apps (base := w2.heap.size) usOk (by decide) rfl _ _ rfl (.slice p5 t.us.length c5) (.slice (some ⟨g8, 0, none⟩) 1 1) t.us.length 1 (t.us.flatMap usC) [.int .i64 t.next, .string (bstr name), .int .i64 b, .int .i64 c] rfl rfl H5.out (rowS_blk HN.out rfl rfl) (by simp [Value.oneCell']) (by have := HUL.out; omega) (by decide) hHeld.size ?_
    intro v6 x9 ho6 hg6
    obtain ⟨p6, c6, rfl, -, -⟩ := ownsRow_form ho6
    have HX2 := Lib.hid (HX2.out.grown hg6 (ownsRow_ne H5.out HX2.out (by decide)))
    have hb := hHeld.grown hg6 (fun k hk hl => by have := ownsRow_base H5.out k hk; omega)
    have H6 := Lib.hid ho6
    clear ho6 hg6 H5
    show K (Act.put _ (some 52) _) x9
    refine bkm hK hb ?_
    clear hK K hHeld
    have hHeld : Mods (· = q) w2 x9 := hb
    clear hb
    refine tq 10 53 ?_
    refine rd1 11 (fun K hK => ?_)
    have hx : World.cell? x9 ⟨q, 2, none⟩ = some (.slice pu t.us.length cu) := by rw [HX2.out.cell]; rfl
    have hz : World.frozen? x9 ⟨q, 2, none⟩ = false := HX2.out.frozen 2
    go_simp
    have HX3 := Lib.hid (HX2.out.set_ 2 (.slice p6 (t.us.length + 1) c6))
    have H6s := Lib.hid (ownsRow_mods (S := fun x => x = q) H6.out ((Mods.refl (fun x => x = q) _).setCell (p := ⟨q, 2, none⟩) (fun _ => rfl) (.slice p6 (t.us.length + 1) c6)) (fun x hx e => ownsRow_ne H6.out HX2.out (by decide) (by rw [hx, e])))
    have hb := hHeld.setCell (p := ⟨q, 2, none⟩) (fun _ => rfl) (.slice p6 (t.us.length + 1) c6)
    clear hx hz HX2 H6
    generalize World.setCell x9 ⟨q, 2, none⟩ (.slice p6 (t.us.length + 1) c6) = xF at *
    refine bkm hK hb ?_
    clear hK K hHeld
    have hHeld : Mods (· = q) w2 xF := hb
    clear hb
    refine wpAnyH_done (by kernel_rfl) ?_ _
    refine NoPanic.normal ?_
    go_wp2_with fail
    go_meet
    exact Lib.hid ⟨p6, c6, HX3.out, H6s.out, hHeld⟩
   exact AllReadyH.nil
  refine AllReadyH.cons (o := _) rfl (fun K hK => ?_) ?_
  ·have hx : World.cell? xs ⟨q, 2, none⟩ = some (.slice pu t.us.length cu) := by rw [HX2.out.cell]; rfl
   go_simp
   clear hx
   have hb := hHeld
   refine bkm hK hb ?_
   clear hK K hHeld
   have hHeld : Mods (· = q) w2 xs := hb
   clear hb
   refine wpAnyH_ready (rs := [0, 8]) (by kernel_rfl) (by simp) ?_
   refine AllReadyH.cons (o := _) rfl (fun K hK => ?_) ?_
   ·go_simp
    obtain ⟨g0, hg0⟩ : ∃ z, z = (World.heap xs).size := ⟨_, rfl⟩
    have H0 := Lib.hid (ownsZ (w := xs) (e := 42) (C := 4) hg0 (show w2.heap.size ≤ g0 from by rw [hg0]; exact hHeld.size))
    have HX2 := Lib.hid (HX2.out.alloc (.cells #[] 42))
    have hb := hHeld.alloc (.cells #[] 42)
    rw [← hg0]
    clear hg0
    generalize World.alloc xs (.cells #[] 42) = x0 at *
    refine bkm hK hb ?_
    clear hK K hHeld
    have hHeld : Mods (· = q) w2 x0 := hb
    clear hb
    refine wpAnyH_ready (rs := [3, 8]) (by kernel_rfl) (by simp) ?_
    refine AllReadyH.cons (o := _) rfl (fun K hK => ?_) ?_
    ·refine step_apps (base := w2.heap.size) usOk (by decide) rfl _ _ rfl (.slice (some ⟨g0, 0, none⟩) 0 0) (.slice pu t.us.length cu) 0 t.us.length [] (t.us.flatMap usC) rfl rfl H0.out (HP1.out _ hHeld) (us_one _) (by have := HUL.out; omega) (by decide) hHeld.size ?_
     intro v5 x3 ho5 hg5
     rw [Nat.zero_add, List.nil_append] at ho5
     obtain ⟨p5, c5, rfl, -, -⟩ := ownsRow_form ho5
     have HX2 := Lib.hid (HX2.out.grown hg5 (ownsRow_ne H0.out HX2.out (by decide)))
     have hb := hHeld.grown hg5 (fun k hk hl => by have := ownsRow_base H0.out k hk; omega)
     have H5 := Lib.hid ho5
     clear ho5 hg5 H0
     show K (Act.put _ (some 46) _) x3
     refine bkm hK hb ?_
     clear hK K hHeld
     have hHeld : Mods (· = q) w2 x3 := hb
     clear hb
     refine rd1 8 (fun K hK => ?_)
     go_simp
     obtain ⟨g8, hg8⟩ : ∃ z, z = (World.heap x3).size := ⟨_, rfl⟩
     have H5 := Lib.hid (ownsRow_keeps H5.out ((Keeps.refl _).alloc (.cells #[.int .i64 t.next, .string (bstr name), .int .i64 b, .int .i64 c] 42)))
     have HN := Lib.hid (Blk.new x3 42 #[.int .i64 t.next, .string (bstr name), .int .i64 b, .int .i64 c] hg8)
     have HX2 := Lib.hid (HX2.out.alloc (.cells #[.int .i64 t.next, .string (bstr name), .int .i64 b, .int .i64 c] 42))
     have hb := hHeld.alloc (.cells #[.int .i64 t.next, .string (bstr name), .int .i64 b, .int .i64 c] 42)
     rw [← hg8]
     clear hg8
     generalize World.alloc x3 (.cells #[.int .i64 t.next, .string (bstr name), .int .i64 b, .int .i64 c] 42) = x8 at *
     refine bkm hK hb ?_
     clear hK K hHeld
     have hHeld : Mods (· = q) w2 x8 := hb
     clear hb
     refine rd1 9 (fun K hK => ?_)
     refine step_apps (base := w2.heap.size) usOk (by decide) rfl _ _ rfl (.slice p5 t.us.length c5) (.slice (some ⟨g8, 0, none⟩) 1 1) t.us.length 1 (t.us.flatMap usC) [.int .i64 t.next, .string (bstr name), .int .i64 b, .int .i64 c] rfl rfl H5.out (rowS_blk HN.out rfl rfl) (by simp [Value.oneCell']) (by have := HUL.out; omega) (by decide) hHeld.size ?_
     intro v6 x9 ho6 hg6
     obtain ⟨p6, c6, rfl, -, -⟩ := ownsRow_form ho6
     have HX2 := Lib.hid (HX2.out.grown hg6 (ownsRow_ne H5.out HX2.out (by decide)))
     have hb := hHeld.grown hg6 (fun k hk hl => by have := ownsRow_base H5.out k hk; omega)
     have H6 := Lib.hid ho6
     clear ho6 hg6 H5
     show K (Act.put _ (some 52) _) x9
     refine bkm hK hb ?_
     clear hK K hHeld
     have hHeld : Mods (· = q) w2 x9 := hb
     clear hb
     refine tq 10 53 ?_
     refine rd1 11 (fun K hK => ?_)
     have hx : World.cell? x9 ⟨q, 2, none⟩ = some (.slice pu t.us.length cu) := by rw [HX2.out.cell]; rfl
     have hz : World.frozen? x9 ⟨q, 2, none⟩ = false := HX2.out.frozen 2
     go_simp
     have HX3 := Lib.hid (HX2.out.set_ 2 (.slice p6 (t.us.length + 1) c6))
     have H6s := Lib.hid (ownsRow_mods (S := fun x => x = q) H6.out ((Mods.refl (fun x => x = q) _).setCell (p := ⟨q, 2, none⟩) (fun _ => rfl) (.slice p6 (t.us.length + 1) c6)) (fun x hx e => ownsRow_ne H6.out HX2.out (by decide) (by rw [hx, e])))
     have hb := hHeld.setCell (p := ⟨q, 2, none⟩) (fun _ => rfl) (.slice p6 (t.us.length + 1) c6)
     clear hx hz HX2 H6
     generalize World.setCell x9 ⟨q, 2, none⟩ (.slice p6 (t.us.length + 1) c6) = xF at *
     refine bkm hK hb ?_
     clear hK K hHeld
     have hHeld : Mods (· = q) w2 xF := hb
     clear hb
     refine wpAnyH_done (by kernel_rfl) ?_ _
     refine NoPanic.normal ?_
     go_wp2_with fail
     go_meet
     exact Lib.hid ⟨p6, c6, HX3.out, H6s.out, hHeld⟩
    refine AllReadyH.cons (o := _) rfl (fun K hK => ?_) ?_
    ·go_simp
     obtain ⟨g8, hg8⟩ : ∃ z, z = (World.heap x0).size := ⟨_, rfl⟩
     have HNE := Lib.hid (show g0 ≠ g8 from fun e => by have := Own0.lt H0.out; omega)
     have H0 := Lib.hid (ownsRow_keeps H0.out ((Keeps.refl _).alloc (.cells #[.int .i64 t.next, .string (bstr name), .int .i64 b, .int .i64 c] 42)))
     have HN := Lib.hid (Blk.new x0 42 #[.int .i64 t.next, .string (bstr name), .int .i64 b, .int .i64 c] hg8)
     have HX2 := Lib.hid (HX2.out.alloc (.cells #[.int .i64 t.next, .string (bstr name), .int .i64 b, .int .i64 c] 42))
     have hb := hHeld.alloc (.cells #[.int .i64 t.next, .string (bstr name), .int .i64 b, .int .i64 c] 42)
     rw [← hg8]
     clear hg8
     generalize World.alloc x0 (.cells #[.int .i64 t.next, .string (bstr name), .int .i64 b, .int .i64 c] 42) = x8 at *
     refine bkm hK hb ?_
     clear hK K hHeld
     have hHeld : Mods (· = q) w2 x8 := hb
     clear hb
     refine rd1 3 (fun K hK => ?_)
     refine step_apps (base := w2.heap.size) usOk (by decide) rfl _ _ rfl (.slice (some ⟨g0, 0, none⟩) 0 0) (.slice pu t.us.length cu) 0 t.us.length [] (t.us.flatMap usC) rfl rfl H0.out (HP1.out _ hHeld) (us_one _) (by have := HUL.out; omega) (by decide) hHeld.size ?_
     intro v5 x3 ho5 hg5
     rw [Nat.zero_add, List.nil_append] at ho5
     obtain ⟨p5, c5, rfl, -, -⟩ := ownsRow_form ho5
     have HX2 := Lib.hid (HX2.out.grown hg5 (ownsRow_ne H0.out HX2.out (by decide)))
     have hb := hHeld.grown hg5 (fun k hk hl => by have := ownsRow_base H0.out k hk; omega)
     have HN := Lib.hid (HN.out.grown hg5 (fun e => HNE.out (by simpa [Value.ownBlock] using e)))
     have H5 := Lib.hid ho5
     clear ho5 hg5 H0
     show K (Act.put _ (some 46) _) x3
     refine bkm hK hb ?_
     clear hK K hHeld
     have hHeld : Mods (· = q) w2 x3 := hb
     clear hb
     refine rd1 9 (fun K hK => ?_)
     refine step_apps (base := w2.heap.size) usOk (by decide) rfl _ _ rfl (.slice p5 t.us.length c5) (.slice (some ⟨g8, 0, none⟩) 1 1) t.us.length 1 (t.us.flatMap usC) [.int .i64 t.next, .string (bstr name), .int .i64 b, .int .i64 c] rfl rfl H5.out (rowS_blk HN.out rfl rfl) (by simp [Value.oneCell']) (by have := HUL.out; omega) (by decide) hHeld.size ?_
     intro v6 x9 ho6 hg6
     obtain ⟨p6, c6, rfl, -, -⟩ := ownsRow_form ho6
     have HX2 := Lib.hid (HX2.out.grown hg6 (ownsRow_ne H5.out HX2.out (by decide)))
     have hb := hHeld.grown hg6 (fun k hk hl => by have := ownsRow_base H5.out k hk; omega)
     have H6 := Lib.hid ho6
     clear ho6 hg6 H5
     show K (Act.put _ (some 52) _) x9
     refine bkm hK hb ?_
     clear hK K hHeld
     have hHeld : Mods (· = q) w2 x9 := hb
     clear hb
     refine tq 10 53 ?_
     refine rd1 11 (fun K hK => ?_)
     have hx : World.cell? x9 ⟨q, 2, none⟩ = some (.slice pu t.us.length cu) := by rw [HX2.out.cell]; rfl
     have hz : World.frozen? x9 ⟨q, 2, none⟩ = false := HX2.out.frozen 2
     go_simp
     have HX3 := Lib.hid (HX2.out.set_ 2 (.slice p6 (t.us.length + 1) c6))
     have H6s := Lib.hid (ownsRow_mods (S := fun x => x = q) H6.out ((Mods.refl (fun x => x = q) _).setCell (p := ⟨q, 2, none⟩) (fun _ => rfl) (.slice p6 (t.us.length + 1) c6)) (fun x hx e => ownsRow_ne H6.out HX2.out (by decide) (by rw [hx, e])))
     have hb := hHeld.setCell (p := ⟨q, 2, none⟩) (fun _ => rfl) (.slice p6 (t.us.length + 1) c6)
     clear hx hz HX2 H6
     generalize World.setCell x9 ⟨q, 2, none⟩ (.slice p6 (t.us.length + 1) c6) = xF at *
     refine bkm hK hb ?_
     clear hK K hHeld
     have hHeld : Mods (· = q) w2 xF := hb
     clear hb
     refine wpAnyH_done (by kernel_rfl) ?_ _
     refine NoPanic.normal ?_
     go_wp2_with fail
     go_meet
     exact Lib.hid ⟨p6, c6, HX3.out, H6s.out, hHeld⟩
    exact AllReadyH.nil
   refine AllReadyH.cons (o := _) rfl (fun K hK => ?_) ?_
   ·go_simp
    obtain ⟨g8, hg8⟩ : ∃ z, z = (World.heap xs).size := ⟨_, rfl⟩
    have HN := Lib.hid (Blk.new xs 42 #[.int .i64 t.next, .string (bstr name), .int .i64 b, .int .i64 c] hg8)
    have HX2 := Lib.hid (HX2.out.alloc (.cells #[.int .i64 t.next, .string (bstr name), .int .i64 b, .int .i64 c] 42))
    have hb := hHeld.alloc (.cells #[.int .i64 t.next, .string (bstr name), .int .i64 b, .int .i64 c] 42)
    rw [← hg8]
    clear hg8
    generalize World.alloc xs (.cells #[.int .i64 t.next, .string (bstr name), .int .i64 b, .int .i64 c] 42) = x8 at *
    refine bkm hK hb ?_
    clear hK K hHeld
    have hHeld : Mods (· = q) w2 x8 := hb
    clear hb
    refine rd1 0 (fun K hK => ?_)
    go_simp
    obtain ⟨g0, hg0⟩ : ∃ z, z = (World.heap x8).size := ⟨_, rfl⟩
    have H0 := Lib.hid (ownsZ (w := x8) (e := 42) (C := 4) hg0 (show w2.heap.size ≤ g0 from by rw [hg0]; exact hHeld.size))
    have HX2 := Lib.hid (HX2.out.alloc (.cells #[] 42))
    have hb := hHeld.alloc (.cells #[] 42)
    have HNE := Lib.hid (show g0 ≠ g8 from fun e => by have := HN.out.lt; omega)
    have HN := Lib.hid (HN.out.alloc (.cells #[] 42))
    rw [← hg0]
    clear hg0
    generalize World.alloc x8 (.cells #[] 42) = x0 at *
    refine bkm hK hb ?_
    clear hK K hHeld
    have hHeld : Mods (· = q) w2 x0 := hb
    clear hb
    refine rd1 3 (fun K hK => ?_)
    refine step_apps (base := w2.heap.size) usOk (by decide) rfl _ _ rfl (.slice (some ⟨g0, 0, none⟩) 0 0) (.slice pu t.us.length cu) 0 t.us.length [] (t.us.flatMap usC) rfl rfl H0.out (HP1.out _ hHeld) (us_one _) (by have := HUL.out; omega) (by decide) hHeld.size ?_
    intro v5 x3 ho5 hg5
    rw [Nat.zero_add, List.nil_append] at ho5
    obtain ⟨p5, c5, rfl, -, -⟩ := ownsRow_form ho5
    have HX2 := Lib.hid (HX2.out.grown hg5 (ownsRow_ne H0.out HX2.out (by decide)))
    have hb := hHeld.grown hg5 (fun k hk hl => by have := ownsRow_base H0.out k hk; omega)
    have HN := Lib.hid (HN.out.grown hg5 (fun e => HNE.out (by simpa [Value.ownBlock] using e)))
    have H5 := Lib.hid ho5
    clear ho5 hg5 H0
    show K (Act.put _ (some 46) _) x3
    refine bkm hK hb ?_
    clear hK K hHeld
    have hHeld : Mods (· = q) w2 x3 := hb
    clear hb
    refine rd1 9 (fun K hK => ?_)
    refine step_apps (base := w2.heap.size) usOk (by decide) rfl _ _ rfl (.slice p5 t.us.length c5) (.slice (some ⟨g8, 0, none⟩) 1 1) t.us.length 1 (t.us.flatMap usC) [.int .i64 t.next, .string (bstr name), .int .i64 b, .int .i64 c] rfl rfl H5.out (rowS_blk HN.out rfl rfl) (by simp [Value.oneCell']) (by have := HUL.out; omega) (by decide) hHeld.size ?_
    intro v6 x9 ho6 hg6
    obtain ⟨p6, c6, rfl, -, -⟩ := ownsRow_form ho6
    have HX2 := Lib.hid (HX2.out.grown hg6 (ownsRow_ne H5.out HX2.out (by decide)))
    have hb := hHeld.grown hg6 (fun k hk hl => by have := ownsRow_base H5.out k hk; omega)
    have H6 := Lib.hid ho6
    clear ho6 hg6 H5
    show K (Act.put _ (some 52) _) x9
    refine bkm hK hb ?_
    clear hK K hHeld
    have hHeld : Mods (· = q) w2 x9 := hb
    clear hb
    refine tq 10 53 ?_
    refine rd1 11 (fun K hK => ?_)
    have hx : World.cell? x9 ⟨q, 2, none⟩ = some (.slice pu t.us.length cu) := by rw [HX2.out.cell]; rfl
    have hz : World.frozen? x9 ⟨q, 2, none⟩ = false := HX2.out.frozen 2
    go_simp
    have HX3 := Lib.hid (HX2.out.set_ 2 (.slice p6 (t.us.length + 1) c6))
    have H6s := Lib.hid (ownsRow_mods (S := fun x => x = q) H6.out ((Mods.refl (fun x => x = q) _).setCell (p := ⟨q, 2, none⟩) (fun _ => rfl) (.slice p6 (t.us.length + 1) c6)) (fun x hx e => ownsRow_ne H6.out HX2.out (by decide) (by rw [hx, e])))
    have hb := hHeld.setCell (p := ⟨q, 2, none⟩) (fun _ => rfl) (.slice p6 (t.us.length + 1) c6)
    clear hx hz HX2 H6
    generalize World.setCell x9 ⟨q, 2, none⟩ (.slice p6 (t.us.length + 1) c6) = xF at *
    refine bkm hK hb ?_
    clear hK K hHeld
    have hHeld : Mods (· = q) w2 xF := hb
    clear hb
    refine wpAnyH_done (by kernel_rfl) ?_ _
    refine NoPanic.normal ?_
    go_wp2_with fail
    go_meet
    exact Lib.hid ⟨p6, c6, HX3.out, H6s.out, hHeld⟩
   exact AllReadyH.nil
  refine AllReadyH.cons (o := _) rfl (fun K hK => ?_) ?_
  ·go_simp
   obtain ⟨g8, hg8⟩ : ∃ z, z = (World.heap xs).size := ⟨_, rfl⟩
   have HN := Lib.hid (Blk.new xs 42 #[.int .i64 t.next, .string (bstr name), .int .i64 b, .int .i64 c] hg8)
   have HX2 := Lib.hid (HX2.out.alloc (.cells #[.int .i64 t.next, .string (bstr name), .int .i64 b, .int .i64 c] 42))
   have hb := hHeld.alloc (.cells #[.int .i64 t.next, .string (bstr name), .int .i64 b, .int .i64 c] 42)
   rw [← hg8]
   clear hg8
   generalize World.alloc xs (.cells #[.int .i64 t.next, .string (bstr name), .int .i64 b, .int .i64 c] 42) = x8 at *
   refine bkm hK hb ?_
   clear hK K hHeld
   have hHeld : Mods (· = q) w2 x8 := hb
   clear hb
   refine wpAnyH_ready (rs := [0, 2]) (by kernel_rfl) (by simp) ?_
   refine AllReadyH.cons (o := _) rfl (fun K hK => ?_) ?_
   ·go_simp
    obtain ⟨g0, hg0⟩ : ∃ z, z = (World.heap x8).size := ⟨_, rfl⟩
    have H0 := Lib.hid (ownsZ (w := x8) (e := 42) (C := 4) hg0 (show w2.heap.size ≤ g0 from by rw [hg0]; exact hHeld.size))
    have HX2 := Lib.hid (HX2.out.alloc (.cells #[] 42))
    have hb := hHeld.alloc (.cells #[] 42)
    have HNE := Lib.hid (show g0 ≠ g8 from fun e => by have := HN.out.lt; omega)
    have HN := Lib.hid (HN.out.alloc (.cells #[] 42))
    rw [← hg0]
    clear hg0
    generalize World.alloc x8 (.cells #[] 42) = x0 at *
    refine bkm hK hb ?_
    clear hK K hHeld
    have hHeld : Mods (· = q) w2 x0 := hb
    clear hb
    refine rd1 2 (fun K hK => ?_)
    have hx : World.cell? x0 ⟨q, 2, none⟩ = some (.slice pu t.us.length cu) := by rw [HX2.out.cell]; rfl
    go_simp
    clear hx
    have hb := hHeld
    refine bkm hK hb ?_
    clear hK K hHeld
    have hHeld : Mods (· = q) w2 x0 := hb
    clear hb
    refine rd1 3 (fun K hK => ?_)
    refine step_apps (base := w2.heap.size) usOk (by decide) rfl _ _ rfl (.slice (some ⟨g0, 0, none⟩) 0 0) (.slice pu t.us.length cu) 0 t.us.length [] (t.us.flatMap usC) rfl rfl H0.out (HP1.out _ hHeld) (us_one _) (by have := HUL.out; omega) (by decide) hHeld.size ?_
    intro v5 x3 ho5 hg5
    rw [Nat.zero_add, List.nil_append] at ho5
    obtain ⟨p5, c5, rfl, -, -⟩ := ownsRow_form ho5
    have HX2 := Lib.hid (HX2.out.grown hg5 (ownsRow_ne H0.out HX2.out (by decide)))
    have hb := hHeld.grown hg5 (fun k hk hl => by have := ownsRow_base H0.out k hk; omega)
    have HN := Lib.hid (HN.out.grown hg5 (fun e => HNE.out (by simpa [Value.ownBlock] using e)))
    have H5 := Lib.hid ho5
    clear ho5 hg5 H0
    show K (Act.put _ (some 46) _) x3
    refine bkm hK hb ?_
    clear hK K hHeld
    have hHeld : Mods (· = q) w2 x3 := hb
    clear hb
    refine rd1 9 (fun K hK => ?_)
    refine step_apps (base := w2.heap.size) usOk (by decide) rfl _ _ rfl (.slice p5 t.us.length c5) (.slice (some ⟨g8, 0, none⟩) 1 1) t.us.length 1 (t.us.flatMap usC) [.int .i64 t.next, .string (bstr name), .int .i64 b, .int .i64 c] rfl rfl H5.out (rowS_blk HN.out rfl rfl) (by simp [Value.oneCell']) (by have := HUL.out; omega) (by decide) hHeld.size ?_
    intro v6 x9 ho6 hg6
    obtain ⟨p6, c6, rfl, -, -⟩ := ownsRow_form ho6
    have HX2 := Lib.hid (HX2.out.grown hg6 (ownsRow_ne H5.out HX2.out (by decide)))
    have hb := hHeld.grown hg6 (fun k hk hl => by have := ownsRow_base H5.out k hk; omega)
    have H6 := Lib.hid ho6
    clear ho6 hg6 H5
    show K (Act.put _ (some 52) _) x9
    refine bkm hK hb ?_
    clear hK K hHeld
    have hHeld : Mods (· = q) w2 x9 := hb
    clear hb
    refine tq 10 53 ?_
    refine rd1 11 (fun K hK => ?_)
    have hx : World.cell? x9 ⟨q, 2, none⟩ = some (.slice pu t.us.length cu) := by rw [HX2.out.cell]; rfl
    have hz : World.frozen? x9 ⟨q, 2, none⟩ = false := HX2.out.frozen 2
    go_simp
    have HX3 := Lib.hid (HX2.out.set_ 2 (.slice p6 (t.us.length + 1) c6))
    have H6s := Lib.hid (ownsRow_mods (S := fun x => x = q) H6.out ((Mods.refl (fun x => x = q) _).setCell (p := ⟨q, 2, none⟩) (fun _ => rfl) (.slice p6 (t.us.length + 1) c6)) (fun x hx e => ownsRow_ne H6.out HX2.out (by decide) (by rw [hx, e])))
    have hb := hHeld.setCell (p := ⟨q, 2, none⟩) (fun _ => rfl) (.slice p6 (t.us.length + 1) c6)
    clear hx hz HX2 H6
    generalize World.setCell x9 ⟨q, 2, none⟩ (.slice p6 (t.us.length + 1) c6) = xF at *
    refine bkm hK hb ?_
    clear hK K hHeld
    have hHeld : Mods (· = q) w2 xF := hb
    clear hb
    refine wpAnyH_done (by kernel_rfl) ?_ _
    refine NoPanic.normal ?_
    go_wp2_with fail
    go_meet
    exact Lib.hid ⟨p6, c6, HX3.out, H6s.out, hHeld⟩
   refine AllReadyH.cons (o := _) rfl (fun K hK => ?_) ?_
   ·have hx : World.cell? x8 ⟨q, 2, none⟩ = some (.slice pu t.us.length cu) := by rw [HX2.out.cell]; rfl
    go_simp
    clear hx
    have hb := hHeld
    refine bkm hK hb ?_
    clear hK K hHeld
    have hHeld : Mods (· = q) w2 x8 := hb
    clear hb
    refine rd1 0 (fun K hK => ?_)
    go_simp
    obtain ⟨g0, hg0⟩ : ∃ z, z = (World.heap x8).size := ⟨_, rfl⟩
    have H0 := Lib.hid (ownsZ (w := x8) (e := 42) (C := 4) hg0 (show w2.heap.size ≤ g0 from by rw [hg0]; exact hHeld.size))
    have HX2 := Lib.hid (HX2.out.alloc (.cells #[] 42))
    have hb := hHeld.alloc (.cells #[] 42)
    have HNE := Lib.hid (show g0 ≠ g8 from fun e => by have := HN.out.lt; omega)
    have HN := Lib.hid (HN.out.alloc (.cells #[] 42))
    rw [← hg0]
    clear hg0
    generalize World.alloc x8 (.cells #[] 42) = x0 at *
    refine bkm hK hb ?_
    clear hK K hHeld
    have hHeld : Mods (· = q) w2 x0 := hb
    clear hb
    refine rd1 3 (fun K hK => ?_)
    refine step_apps (base := w2.heap.size) usOk (by decide) rfl _ _ rfl (.slice (some ⟨g0, 0, none⟩) 0 0) (.slice pu t.us.length cu) 0 t.us.length [] (t.us.flatMap usC) rfl rfl H0.out (HP1.out _ hHeld) (us_one _) (by have := HUL.out; omega) (by decide) hHeld.size ?_
    intro v5 x3 ho5 hg5
    rw [Nat.zero_add, List.nil_append] at ho5
    obtain ⟨p5, c5, rfl, -, -⟩ := ownsRow_form ho5
    have HX2 := Lib.hid (HX2.out.grown hg5 (ownsRow_ne H0.out HX2.out (by decide)))
    have hb := hHeld.grown hg5 (fun k hk hl => by have := ownsRow_base H0.out k hk; omega)
    have HN := Lib.hid (HN.out.grown hg5 (fun e => HNE.out (by simpa [Value.ownBlock] using e)))
    have H5 := Lib.hid ho5
    clear ho5 hg5 H0
    show K (Act.put _ (some 46) _) x3
    refine bkm hK hb ?_
    clear hK K hHeld
    have hHeld : Mods (· = q) w2 x3 := hb
    clear hb
    refine rd1 9 (fun K hK => ?_)
    refine step_apps (base := w2.heap.size) usOk (by decide) rfl _ _ rfl (.slice p5 t.us.length c5) (.slice (some ⟨g8, 0, none⟩) 1 1) t.us.length 1 (t.us.flatMap usC) [.int .i64 t.next, .string (bstr name), .int .i64 b, .int .i64 c] rfl rfl H5.out (rowS_blk HN.out rfl rfl) (by simp [Value.oneCell']) (by have := HUL.out; omega) (by decide) hHeld.size ?_
    intro v6 x9 ho6 hg6
    obtain ⟨p6, c6, rfl, -, -⟩ := ownsRow_form ho6
    have HX2 := Lib.hid (HX2.out.grown hg6 (ownsRow_ne H5.out HX2.out (by decide)))
    have hb := hHeld.grown hg6 (fun k hk hl => by have := ownsRow_base H5.out k hk; omega)
    have H6 := Lib.hid ho6
    clear ho6 hg6 H5
    show K (Act.put _ (some 52) _) x9
    refine bkm hK hb ?_
    clear hK K hHeld
    have hHeld : Mods (· = q) w2 x9 := hb
    clear hb
    refine tq 10 53 ?_
    refine rd1 11 (fun K hK => ?_)
    have hx : World.cell? x9 ⟨q, 2, none⟩ = some (.slice pu t.us.length cu) := by rw [HX2.out.cell]; rfl
    have hz : World.frozen? x9 ⟨q, 2, none⟩ = false := HX2.out.frozen 2
    go_simp
    have HX3 := Lib.hid (HX2.out.set_ 2 (.slice p6 (t.us.length + 1) c6))
    have H6s := Lib.hid (ownsRow_mods (S := fun x => x = q) H6.out ((Mods.refl (fun x => x = q) _).setCell (p := ⟨q, 2, none⟩) (fun _ => rfl) (.slice p6 (t.us.length + 1) c6)) (fun x hx e => ownsRow_ne H6.out HX2.out (by decide) (by rw [hx, e])))
    have hb := hHeld.setCell (p := ⟨q, 2, none⟩) (fun _ => rfl) (.slice p6 (t.us.length + 1) c6)
    clear hx hz HX2 H6
    generalize World.setCell x9 ⟨q, 2, none⟩ (.slice p6 (t.us.length + 1) c6) = xF at *
    refine bkm hK hb ?_
    clear hK K hHeld
    have hHeld : Mods (· = q) w2 xF := hb
    clear hb
    refine wpAnyH_done (by kernel_rfl) ?_ _
    refine NoPanic.normal ?_
    go_wp2_with fail
    go_meet
    exact Lib.hid ⟨p6, c6, HX3.out, H6s.out, hHeld⟩
   exact AllReadyH.nil
  exact AllReadyH.nil
 case rest =>
 obtain ⟨pz, cz, hb3, ho3, hm3⟩ := hcut.out
 obtain ⟨w3, rfl⟩ : ∃ z : World, z = wc := ⟨_, rfl⟩
 have HT3 := Lib.hid (HT2.out.blk hm3 HB.out (by decide))
 have HG3 := Lib.hid (HG.out.mods hm3 (fun e => by omega))
 have HB3 := Lib.hid hb3
 have HO3 := Lib.hid ho3
 have HK3 := Lib.hid (hm3.keeps HK.out (fun x hx => by rw [hx, ← HQ.out]; omega))
 clear hcut hb3 ho3 hm3 HB HG HT2 HP1 HLq HL HK
 obtain ⟨nz, hnz⟩ : ∃ z, z = t.us.length + 1 := ⟨_, rfl⟩
 rw [← hnz] at HB3 HO3
 have HNZ := Lib.hid hnz
 clear hnz
 have q1 : w3.cell? ⟨q, 1, none⟩ = some (.int .i64 t.next) := by rw [HB3.out.cell]; rfl
 have z1 : w3.frozen? ⟨q, 1, none⟩ = false := HB3.out.frozen 1
 go_upto_region 12 with fail
 have HB4 := Lib.hid (HB3.out.set_ 1 (.int .i64 (t.next + 1)))
 have hm4 : Mods (· = q) w3 (w3.setCell ⟨q, 1, none⟩ (.int .i64 (t.next + 1))) := (Mods.refl (· = q) w3).setCell (p := ⟨q, 1, none⟩) (fun _ => rfl) _
 have HT4 := Lib.hid (HT3.out.blk hm4 HB3.out (by decide))
 have HG4 := Lib.hid (HG3.out.mods hm4 (fun e => by omega))
 have HO4 := Lib.hid (ownsRow_mods HO3.out hm4 (fun x hx e => ownsRow_ne HO3.out HB3.out (by decide) (by rw [hx, e])))
 have HK4 := Lib.hid (hm4.keeps HK3.out (fun x hx => by rw [hx, ← HQ.out]; omega))
 clear q1 z1 hm4 HB3 HT3 HG3 HO3 HK3
 generalize w3.setCell _ _ = w4 at *
 have HB4 := Lib.hid (show Blk w4 q 32 #[.string (bstr t.dom), .int .i64 (t.next + 1), .slice pz nz cz, .slice pa L.length ca] from HB4.out)
 go_wp2_with (first
  |refine wpList_ld rfl rtM HB4.out _ rfl rfl ?_
  |(refine wpList_st (ds := #[.string (bstr t.dom), .int .i64 (t.next + 1), .slice pz nz cz, .slice pa L.length ca, .int .i64 t.next, .int .i64 0]) rfl gotM HG4.out rfl (by simp [Value.oneCell']) _ _ rfl rfl rfl rfl ?_; intro w9 hB9 hM9; have HLd := Lib.hid (ld_run (P := Tryz.prog) gotM hB9); have HM9 := Lib.hid hM9; clear hB9 hM9))
 refine bodyPost_ret (v := .agg #[.string (bstr t.dom), .int .i64 (t.next + 1), .slice pz nz cz, .slice pa L.length ca, .int .i64 t.next, .int .i64 0]) (by simp [results, Tryz.results38, Sem.run_bind, Sem.run_pure, Result.andThen_ok, Act.put, asAddr, HLd.out]) rfl ?_
 have hk9 : Keeps w w9 := HM9.out.keeps HK4.out (fun x hx => by rw [hx, ← HQ.out]; omega)
 have ho9 : w9.ownsRow w2.heap.size 42 4 (.slice pz nz cz) nz (t.us.flatMap usC ++ [.int .i64 t.next, .string (bstr name), .int .i64 b, .int .i64 c]) := ownsRow_mods HO4.out HM9.out (fun x hx e => ownsRow_ne HO4.out HG4.out (by decide) (by rw [hx, e]))
 have hT9 := HT4.out.blk HM9.out HG4.out (by decide)
 rw [HX.out]
 refine ⟨_, _, L, rfl, ⟨?_, hT9.al, hT9.alm, hT9.pay⟩, hk9⟩
 have e1 : (t.us ++ [(⟨t.next, name, b, c⟩ : UsrP)]).length = nz := by rw [HNZ.out]; simp
 show w9.ownsRow 0 42 4 _ (t.us ++ [(⟨t.next, name, b, c⟩ : UsrP)]).length ((t.us ++ [(⟨t.next, name, b, c⟩ : UsrP)]).flatMap usC)
 rw [e1, List.flatMap_append]
 exact ownsRow_low ho9
end Usr
end Go.Proofs.YtklbemkafdccgaaGreat

/- users: what Read defers: the table and the error behind a panic. -/
namespace Go.Proofs.YtklbemkafdccgaaGreat
open Go.RowKit
namespace Usr
open Adr (Str)
open Oct (SrcAt)
theorem catch_idle (p q r : Value) (w : World) : CallsD Tryz.prog 59 #[p, q, r] .returning w fun e u' w' => e = .returned (.tuple #[]) ∧ u' = .returning ∧ w' = w := by
 refine callsD_of_wpS Tryz.func59 rfl fun c₀ cs hu => ?_
 apply wpS_seq
 apply wpS_region
 simp [wpOpsS, go_sem, recoverD, hu, Tryz.ntmps59, Exit.thenS]
 refine wpS_cond (t := false) (by simp [Act.eval, Array.replicate]) ?_
 simp only [Bool.false_eq_true, if_false]
 refine wpS_of_wp (wp_skip ?_)
 cases c₀
 simp_all [bodyPostS, results, Tryz.results59]
theorem catch_panic (b4 b2 b3 gs : Nat) (v : Value) (l : Str) (a : Nat) (er : Int) (u : TypeId) (pv t0 : Value) (e0 : Int) (older : List PanicEntry) (w : World) (h4 : Blk w b4 110 #[.pointer (some ⟨gs, 0, none⟩)]) (h2 : Blk w b2 25 #[t0]) (h3 : Blk w b3 54 #[.int .i64 e0]) (hs : SrcAt w gs v l a er) :
  CallsD Tryz.prog 59 #[.pointer (some ⟨b4, 0, none⟩), .pointer (some ⟨b2, 0, none⟩), .pointer (some ⟨b3, 0, none⟩)] (.panicking ({ v := .iface u pv, recovered := false } :: older)) w fun e u' w' =>
   e = .returned (.tuple #[]) ∧ u' = .panicking ({ v := .iface u pv, recovered := true } :: older) ∧ w' = (w.setCell ⟨b2, 0, none⟩ (.pointer none)).setCell ⟨b3, 0, none⟩ (.int .i64 (if er = 2 then 2 else 3)) := by
 have c4 : w.cell? ⟨b4, 0, none⟩ = some (.pointer (some ⟨gs, 0, none⟩)) := by rw [h4.cell]; rfl
 have c2 : w.cell? ⟨b2, 0, none⟩ = some t0 := by rw [h2.cell]; rfl
 have c3 : w.cell? ⟨b3, 0, none⟩ = some (.int .i64 e0) := by rw [h3.cell]; rfl
 have f2 : w.frozen? ⟨b2, 0, none⟩ = false := h2.frozen 0
 have f3 : w.frozen? ⟨b3, 0, none⟩ = false := h3.frozen 0
 have CC := Lib.hid (cause_any w gs v l a er hs)
 have hne : b3 ≠ b2 := Frm.blk_tyne h3 h2 (by decide)
 clear hs
 refine callsD_of_wpS Tryz.func59 rfl fun c₀ cs hu => ?_
 apply wpS_seq
 apply wpS_region
 simp [wpOpsS, go_sem, recoverD, hu, Tryz.ntmps59, Exit.thenS]
 refine wpS_cond (t := true) (by simp [Act.eval, Array.replicate]) ?_
 simp only [if_true]
 refine wpS_of_wp ?_
 go_wp2_with fail
 refine CC.out.mono ?_
 rintro e w1 ⟨rfl, rfl⟩
 go_wp2_with fail
 all_goals simp [bodyPostS, results, Tryz.results59]
end Usr
end Go.Proofs.YtklbemkafdccgaaGreat

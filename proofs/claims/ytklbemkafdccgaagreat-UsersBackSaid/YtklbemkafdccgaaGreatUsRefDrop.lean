/- ref13: DropAlias, DropUser. (Printed by gen_usdrop.py.) -/
import Derived.Test.YtklbemkafdccgaaGreatK44
namespace Go.Proofs.YtklbemkafdccgaaGreat
open Go.RowKit
namespace Usr
open Adr (Str)
open Mp Go.Maps
open Frm (ownsRow_keeps ownsRow_mods ownsRow_ne ownsRow_form ownsRow_base)
theorem ownsRow_low {w : World} {base C n : Nat} {e : TypeId} {v : Value} {xs : List Value} (h : w.ownsRow base e C v n xs) : w.ownsRow 0 e C v n xs :=
 ⟨h.1, h.2.elim Or.inl (fun ⟨g, cap, cur, hv, _, r⟩ => Or.inr ⟨g, cap, cur, hv, Nat.zero_le _, r⟩)⟩
set_option maxRecDepth 100000 in
set_option maxHeartbeats 4000000 in
theorem rDropAlias_any (w : World) (uv av : Value) (t : TabP) (L : List (AlP × Value)) (h : RT w uv av t L) (hR : Right t) (name : Str) : Calls Tryz.prog 44 #[rtV uv av t, .string (bstr name)] w (RGot w (dropA t name)) := by
 have HLA := Lib.hid (show L.length = t.al.length from by rw [← h.alm, List.length_map])
 have hLl : L.length ≤ 1000000 := by have h1 := hR.all; have := HLA.out; omega
 have hUl : t.us.length ≤ 1000000 := by have h1 := hR.ul; omega
 obtain ⟨pu, cu, pa, ca, rfl, rfl, hcu, hca⟩ := h.forms
 have HCC := Lib.hid (And.intro hcu hca)
 have HR := Lib.hid h
 have CP := Lib.hid (fun (w' : World) (k : Keeps w w') => rAlias_any w' _ _ t L (h.keeps k).tab hLl name)
 have HRt := Lib.hid hR
 have HLL := Lib.hid (And.intro hLl hUl)
 clear h hR hcu hca hLl hUl
 unfold rtV at CP ⊢
 go_enter Tryz.func44, Tryz.ntmps44
 go_upto_region 1 with fail
 generalize hW : World.alloc (World.alloc w _) _ = w1
 have HK := Lib.hid (show Keeps w w1 from by rw [← hW]; exact ((Keeps.refl _).alloc _).alloc _)
 have HB := Lib.hid (show Blk w1 w.heap.size 32 #[.string (bstr t.dom), .int .i64 t.next, .slice pu t.us.length cu, .slice pa L.length ca] from by rw [← hW]; exact (Blk.new _ _ _ rfl).keeps ((Keeps.refl _).alloc _))
 have HG := Lib.hid (show Blk w1 (w.heap.size + 1) 86 #[.string ⟨#[]⟩, .int .i64 0, .slice none 0 0, .slice none 0 0, .int .i64 0, .int .i64 0] from by rw [← hW]; exact Blk.new _ _ _ (Frm.alloc_size _ _).symm)
 clear hW
 obtain ⟨q, hq⟩ : ∃ z, w.heap.size = z := ⟨_, rfl⟩
 have HQ := Lib.hid hq
 rw [hq] at HB HG ⊢
 clear hq
 go_wp2_with (refine wpList_ld rfl rtM HB.out _ rfl rfl ?_)
 refine (CP.out _ HK.out).mono ?_
 rintro e w2 ⟨rfl, hk⟩
 have HK2 := Lib.hid (HK.out.trans hk)
 have HB2 := Lib.hid (HB.out.keeps hk)
 have HG2 := Lib.hid (HG.out.keeps hk)
 clear HB HG HK hk CP
 rcases posL_cases (namesA t) name with ⟨hn, hp⟩ | ⟨i, hi, hni, hp⟩
 ·have HX := Lib.hid (show dropA t name = (t, 0, 7) from by unfold dropA; rw [if_pos hn])
  rw [hp]
  generalize dropA t name = r at *
  clear hn hp
  go_wp2_with (first
   |refine wpList_ld rfl rtM HB2.out _ rfl rfl ?_
   |(refine wpList_st (ds := #[.string (bstr t.dom), .int .i64 t.next, .slice pu t.us.length cu, .slice pa L.length ca, .int .i64 0, .int .i64 7]) rfl gotM HG2.out rfl (by simp [Value.oneCell']) _ _ rfl rfl rfl rfl ?_; intro w3 hB3 hM3; have HLd := Lib.hid (ld_run (P := Tryz.prog) gotM hB3); have HM3 := Lib.hid hM3; clear hB3 hM3))
  refine bodyPost_ret (v := .agg #[.string (bstr t.dom), .int .i64 t.next, .slice pu t.us.length cu, .slice pa L.length ca, .int .i64 0, .int .i64 7]) (by simp [results, Tryz.results44, Sem.run_bind, Sem.run_pure, Result.andThen_ok, Act.put, asAddr, HLd.out]) rfl ?_
  have hk3 : Keeps w w3 := HM3.out.keeps HK2.out (fun x hx => by rw [hx, ← HQ.out]; omega)
  rw [HX.out]
  exact ⟨_, _, L, rfl, HR.out.keeps hk3, hk3⟩
 ·have hLa := HLA.out
  have hcu := HCC.out.1
  have hca := HCC.out.2
  have hLl := HLL.out.1
  have hUl := HLL.out.2
  have hil : i < L.length := by rw [hLa]; simpa [namesA] using hi
  have HX := Lib.hid (show dropA t name = ({ t with al := t.al.take i ++ t.al.drop (i + 1) }, 0, 0) from by
   have e : name = (t.al[i]'(by omega)).name := hni.symm.trans (by simp [namesA])
   have e2 := dropA_at HRt.out (i := i) (by omega)
   rw [← e] at e2
   exact e2)
  rw [hp]
  generalize dropA t name = r at *
  obtain ⟨i1, hi1⟩ : ∃ z, z = i + 1 := ⟨_, rfl⟩
  have hw1 : IntKind.i64.wrap ((i : Int) + 1) = (i1 : Int) := by rw [hi1]; exact (IntWalk.i64_in _ (by omega)).trans (by omega)
  have HI := Lib.hid hi1
  have HT2 := Lib.hid (HR.out.keeps HK2.out)
  have HP1 := Lib.hid (show ∀ x, Mods (· = q) w2 x → RowS x 2 (cutS 2 pa 0 i ca) i ((L.take i).flatMap alC) from fun x k => by
   have := (HT2.out.blk k HB2.out (by decide)).tab.al.part alC_len (lo := 0) (hi := i) (Nat.zero_le _) (by omega)
   simpa using this)
  have HP2 := Lib.hid (show ∀ x, Mods (· = q) w2 x → RowS x 2 (cutS 2 pa i1 L.length ca) (L.length - i1) ((L.drop i1).flatMap alC) from fun x k => by
   have := (HT2.out.blk k HB2.out (by decide)).tab.al.part alC_len (lo := i1) (hi := L.length) (by omega) (Nat.le_refl _)
   rwa [List.take_of_length_le (by simp)] at this)
  have HP := Lib.hid HT2.out.pay
  have HSUB := Lib.hid (show ∀ x, x ∈ L.take i ∨ x ∈ L.drop i1 → x ∈ L from fun x hx => hx.elim List.mem_of_mem_take List.mem_of_mem_drop)
  go_upto_region 4 with fail
  skip
  clear hp hni hi hLa hi1
  go_cut [] (fun wx => Hid (∃ pz cz, Blk wx q 32 #[.string (bstr t.dom), .int .i64 t.next, .slice pu t.us.length cu, .slice pz (i + (L.length - i1)) cz] ∧ wx.ownsRow w2.heap.size 108 2 (.slice pz (i + (L.length - i1)) cz) (i + (L.length - i1)) ((L.take i).flatMap alC ++ (L.drop i1).flatMap alC) ∧ Mods (· = q) w2 wx))
  case first =>
   have HX2 := Lib.hid HB2.out.drew
   refine wp_region_noPanic ?_
   refine wp_region_held_drew (S := fun w' => Mods (· = q) w2 w') (by kernel_rfl) ((Mods.refl (· = q) w2).drew) (fun _ => ?_)
   have hHeld : Mods (· = q) w2 (w2).drew := (Mods.refl (· = q) w2).drew
   generalize World.drew w2 = xs at *
   refine tq 1 14 ?_
   refine tq 3 16 ?_
   refine tq 6 19 ?_
   refine tq 8 21 ?_
   refine tq 9 22 ?_
   refine wpAnyH_ready (rs := [0, 2, 7]) (by kernel_rfl) (by simp) ?_
   refine AllReadyH.cons (o := _) rfl (fun K hK => ?_) ?_
   ·go_simp
    obtain ⟨g0, hg0⟩ : ∃ z, z = (World.heap xs).size := ⟨_, rfl⟩
    have H0 := Lib.hid (ownsZ (w := xs) (e := 108) (C := 2) hg0 (show w2.heap.size ≤ g0 from by rw [hg0]; exact hHeld.size))
    have HX2 := Lib.hid (HX2.out.alloc (.cells #[] 108))
    have hb := hHeld.alloc (.cells #[] 108)
    rw [← hg0]
    clear hg0
    generalize World.alloc xs (.cells #[] 108) = x0 at *
    refine bkm hK hb ?_
    clear hK K hHeld
    have hHeld : Mods (· = q) w2 x0 := hb
    clear hb
    refine wpAnyH_ready (rs := [2, 7]) (by kernel_rfl) (by simp) ?_
    refine AllReadyH.cons (o := _) rfl (fun K hK => ?_) ?_
    ·have hx : World.cell? x0 ⟨q, 3, none⟩ = some (.slice pa L.length ca) := by rw [HX2.out.cell]; rfl
     go_simp
     clear hx
     have hb := hHeld
     refine bkm hK hb ?_
     clear hK K hHeld
     have hHeld : Mods (· = q) w2 x0 := hb
     clear hb
     refine tq 4 17 ?_ (hy := fun w' hSw => by
      have hSw : Mods (· = q) w2 w' := hSw
      have hc := run_cutS_h (P := Tryz.prog) w' Tryz.underlying30 szA pa L.length ca (kh := .i64) i (by omega)
      clear hSw
      go_simp
      try with_reducible rfl)
     refine wpAnyH_ready (rs := [5, 7]) (by kernel_rfl) (by simp) ?_
     refine AllReadyH.cons (o := _) rfl (fun K hK => ?_) ?_
     ·refine step_apps (base := w2.heap.size) alOk (by decide) rfl _ _ rfl (.slice (some ⟨g0, 0, none⟩) 0 0) (cutS 2 pa 0 i ca) 0 i [] ((L.take i).flatMap alC) rfl rfl H0.out (HP1.out _ hHeld) (al_one (fun x hx => HP.out x (HSUB.out x (.inl hx)))) (by omega) (by decide) hHeld.size ?_
      intro v5 x5 ho5 hg5
      rw [Nat.zero_add, List.nil_append] at ho5
      obtain ⟨p5, c5, rfl, -, -⟩ := ownsRow_form ho5
      have HX2 := Lib.hid (HX2.out.grown hg5 (ownsRow_ne H0.out HX2.out (by decide)))
      have hb := hHeld.grown hg5 (fun k hk hl => by have := ownsRow_base H0.out k hk; omega)
      have H5 := Lib.hid ho5
      clear ho5 hg5 H0
      show K (Act.put _ (some 18) _) x5
      refine bkm hK hb ?_
      clear hK K hHeld
      have hHeld : Mods (· = q) w2 x5 := hb
      clear hb
      refine rd1 7 (fun K hK => ?_)
      have hx : World.cell? x5 ⟨q, 3, none⟩ = some (.slice pa L.length ca) := by rw [HX2.out.cell]; rfl
      go_simp
      clear hx
      have hb := hHeld
      refine bkm hK hb ?_
      clear hK K hHeld
      have hHeld : Mods (· = q) w2 x5 := hb
      clear hb
      refine tq 10 23 ?_ (hy := fun w' hSw => by
       have hSw : Mods (· = q) w2 w' := hSw
       have hc := run_cutS_l (P := Tryz.prog) w' Tryz.underlying30 szA pa L.length ca (kl := .i64) i1 (by have := HI.out; omega)
       clear hSw
       go_simp
       try with_reducible rfl)
      refine rd1 11 (fun K hK => ?_)
      refine step_apps (base := w2.heap.size) alOk (by decide) rfl _ _ rfl (.slice p5 i c5) (cutS 2 pa i1 L.length ca) i (L.length - i1) ((L.take i).flatMap alC) ((L.drop i1).flatMap alC) rfl rfl H5.out (HP2.out _ hHeld) (al_one (fun x hx => HP.out x (HSUB.out x (.inr hx)))) (by omega) (by decide) hHeld.size ?_
      intro v6 x11 ho6 hg6
      obtain ⟨p6, c6, rfl, -, -⟩ := ownsRow_form ho6
      have HX2 := Lib.hid (HX2.out.grown hg6 (ownsRow_ne H5.out HX2.out (by decide)))
      have hb := hHeld.grown hg6 (fun k hk hl => by have := ownsRow_base H5.out k hk; omega)
      have H6 := Lib.hid ho6
      clear ho6 hg6 H5
      show K (Act.put _ (some 24) _) x11
      refine bkm hK hb ?_
      clear hK K hHeld
      have hHeld : Mods (· = q) w2 x11 := hb
      clear hb
      refine tq 12 25 ?_
      refine rd1 13 (fun K hK => ?_)
      have hx : World.cell? x11 ⟨q, 3, none⟩ = some (.slice pa L.length ca) := by rw [HX2.out.cell]; rfl
      have hz : World.frozen? x11 ⟨q, 3, none⟩ = false := HX2.out.frozen 3
      go_simp
      have HX3 := Lib.hid (HX2.out.set_ 3 (.slice p6 (i + (L.length - i1)) c6))
      have H6s := Lib.hid (ownsRow_mods (S := fun x => x = q) H6.out ((Mods.refl (fun x => x = q) _).setCell (p := ⟨q, 3, none⟩) (fun _ => rfl) (.slice p6 (i + (L.length - i1)) c6)) (fun x hx e => ownsRow_ne H6.out HX2.out (by decide) (by rw [hx, e])))
      have hb := hHeld.setCell (p := ⟨q, 3, none⟩) (fun _ => rfl) (.slice p6 (i + (L.length - i1)) c6)
      clear hx hz HX2 H6
      generalize World.setCell x11 ⟨q, 3, none⟩ (.slice p6 (i + (L.length - i1)) c6) = xF at *
      refine bkm hK hb ?_
      clear hK K hHeld
      have hHeld : Mods (· = q) w2 xF := hb
      clear hb
      refine wpAnyH_done (by kernel_rfl) ?_ _
      refine NoPanic.normal ?_
      go_wp2_with fail
      go_meet
      exact Lib.hid ⟨p6, c6, HX3.out, H6s.out, hHeld⟩
     refine AllReadyH.cons (o := _) rfl (fun K hK => ?_) ?_
     ·have hx : World.cell? x0 ⟨q, 3, none⟩ = some (.slice pa L.length ca) := by rw [HX2.out.cell]; rfl
      go_simp
      clear hx
      have hb := hHeld
      refine bkm hK hb ?_
      clear hK K hHeld
      have hHeld : Mods (· = q) w2 x0 := hb
      clear hb
      refine tq 10 23 ?_ (hy := fun w' hSw => by
       have hSw : Mods (· = q) w2 w' := hSw
       have hc := run_cutS_l (P := Tryz.prog) w' Tryz.underlying30 szA pa L.length ca (kl := .i64) i1 (by have := HI.out; omega)
       clear hSw
       go_simp
       try with_reducible rfl)
      refine rd1 5 (fun K hK => ?_)
      refine step_apps (base := w2.heap.size) alOk (by decide) rfl _ _ rfl (.slice (some ⟨g0, 0, none⟩) 0 0) (cutS 2 pa 0 i ca) 0 i [] ((L.take i).flatMap alC) rfl rfl H0.out (HP1.out _ hHeld) (al_one (fun x hx => HP.out x (HSUB.out x (.inl hx)))) (by omega) (by decide) hHeld.size ?_
      intro v5 x5 ho5 hg5
      rw [Nat.zero_add, List.nil_append] at ho5
      obtain ⟨p5, c5, rfl, -, -⟩ := ownsRow_form ho5
      have HX2 := Lib.hid (HX2.out.grown hg5 (ownsRow_ne H0.out HX2.out (by decide)))
      have hb := hHeld.grown hg5 (fun k hk hl => by have := ownsRow_base H0.out k hk; omega)
      have H5 := Lib.hid ho5
      clear ho5 hg5 H0
      show K (Act.put _ (some 18) _) x5
      refine bkm hK hb ?_
      clear hK K hHeld
      have hHeld : Mods (· = q) w2 x5 := hb
      clear hb
      refine rd1 11 (fun K hK => ?_)
      refine step_apps (base := w2.heap.size) alOk (by decide) rfl _ _ rfl (.slice p5 i c5) (cutS 2 pa i1 L.length ca) i (L.length - i1) ((L.take i).flatMap alC) ((L.drop i1).flatMap alC) rfl rfl H5.out (HP2.out _ hHeld) (al_one (fun x hx => HP.out x (HSUB.out x (.inr hx)))) (by omega) (by decide) hHeld.size ?_
      intro v6 x11 ho6 hg6
      obtain ⟨p6, c6, rfl, -, -⟩ := ownsRow_form ho6
      have HX2 := Lib.hid (HX2.out.grown hg6 (ownsRow_ne H5.out HX2.out (by decide)))
      have hb := hHeld.grown hg6 (fun k hk hl => by have := ownsRow_base H5.out k hk; omega)
      have H6 := Lib.hid ho6
      clear ho6 hg6 H5
      show K (Act.put _ (some 24) _) x11
      refine bkm hK hb ?_
      clear hK K hHeld
      have hHeld : Mods (· = q) w2 x11 := hb
      clear hb
      refine tq 12 25 ?_
      refine rd1 13 (fun K hK => ?_)
      have hx : World.cell? x11 ⟨q, 3, none⟩ = some (.slice pa L.length ca) := by rw [HX2.out.cell]; rfl
      have hz : World.frozen? x11 ⟨q, 3, none⟩ = false := HX2.out.frozen 3
      go_simp
      have HX3 := Lib.hid (HX2.out.set_ 3 (.slice p6 (i + (L.length - i1)) c6))
      have H6s := Lib.hid (ownsRow_mods (S := fun x => x = q) H6.out ((Mods.refl (fun x => x = q) _).setCell (p := ⟨q, 3, none⟩) (fun _ => rfl) (.slice p6 (i + (L.length - i1)) c6)) (fun x hx e => ownsRow_ne H6.out HX2.out (by decide) (by rw [hx, e])))
      have hb := hHeld.setCell (p := ⟨q, 3, none⟩) (fun _ => rfl) (.slice p6 (i + (L.length - i1)) c6)
      clear hx hz HX2 H6
      generalize World.setCell x11 ⟨q, 3, none⟩ (.slice p6 (i + (L.length - i1)) c6) = xF at *
      refine bkm hK hb ?_
      clear hK K hHeld
      have hHeld : Mods (· = q) w2 xF := hb
      clear hb
      refine wpAnyH_done (by kernel_rfl) ?_ _
      refine NoPanic.normal ?_
      go_wp2_with fail
      go_meet
      exact Lib.hid ⟨p6, c6, HX3.out, H6s.out, hHeld⟩
     exact AllReadyH.nil
    refine AllReadyH.cons (o := _) rfl (fun K hK => ?_) ?_
    ·have hx : World.cell? x0 ⟨q, 3, none⟩ = some (.slice pa L.length ca) := by rw [HX2.out.cell]; rfl
     go_simp
     clear hx
     have hb := hHeld
     refine bkm hK hb ?_
     clear hK K hHeld
     have hHeld : Mods (· = q) w2 x0 := hb
     clear hb
     refine tq 10 23 ?_ (hy := fun w' hSw => by
      have hSw : Mods (· = q) w2 w' := hSw
      have hc := run_cutS_l (P := Tryz.prog) w' Tryz.underlying30 szA pa L.length ca (kl := .i64) i1 (by have := HI.out; omega)
      clear hSw
      go_simp
      try with_reducible rfl)
     refine rd1 2 (fun K hK => ?_)
     have hx : World.cell? x0 ⟨q, 3, none⟩ = some (.slice pa L.length ca) := by rw [HX2.out.cell]; rfl
     go_simp
     clear hx
     have hb := hHeld
     refine bkm hK hb ?_
     clear hK K hHeld
     have hHeld : Mods (· = q) w2 x0 := hb
     clear hb
     refine tq 4 17 ?_ (hy := fun w' hSw => by
      have hSw : Mods (· = q) w2 w' := hSw
      have hc := run_cutS_h (P := Tryz.prog) w' Tryz.underlying30 szA pa L.length ca (kh := .i64) i (by omega)
      clear hSw
      go_simp
      try with_reducible rfl)
     refine rd1 5 (fun K hK => ?_)
     refine step_apps (base := w2.heap.size) alOk (by decide) rfl _ _ rfl (.slice (some ⟨g0, 0, none⟩) 0 0) (cutS 2 pa 0 i ca) 0 i [] ((L.take i).flatMap alC) rfl rfl H0.out (HP1.out _ hHeld) (al_one (fun x hx => HP.out x (HSUB.out x (.inl hx)))) (by omega) (by decide) hHeld.size ?_
     intro v5 x5 ho5 hg5
     rw [Nat.zero_add, List.nil_append] at ho5
     obtain ⟨p5, c5, rfl, -, -⟩ := ownsRow_form ho5
     have HX2 := Lib.hid (HX2.out.grown hg5 (ownsRow_ne H0.out HX2.out (by decide)))
     have hb := hHeld.grown hg5 (fun k hk hl => by have := ownsRow_base H0.out k hk; omega)
     have H5 := Lib.hid ho5
     clear ho5 hg5 H0
     show K (Act.put _ (some 18) _) x5
     refine bkm hK hb ?_
     clear hK K hHeld
     have hHeld : Mods (· = q) w2 x5 := hb
     clear hb
     refine rd1 11 (fun K hK => ?_)
     refine step_apps (base := w2.heap.size) alOk (by decide) rfl _ _ rfl (.slice p5 i c5) (cutS 2 pa i1 L.length ca) i (L.length - i1) ((L.take i).flatMap alC) ((L.drop i1).flatMap alC) rfl rfl H5.out (HP2.out _ hHeld) (al_one (fun x hx => HP.out x (HSUB.out x (.inr hx)))) (by omega) (by decide) hHeld.size ?_
     intro v6 x11 ho6 hg6
     obtain ⟨p6, c6, rfl, -, -⟩ := ownsRow_form ho6
     have HX2 := Lib.hid (HX2.out.grown hg6 (ownsRow_ne H5.out HX2.out (by decide)))
     have hb := hHeld.grown hg6 (fun k hk hl => by have := ownsRow_base H5.out k hk; omega)
     have H6 := Lib.hid ho6
     clear ho6 hg6 H5
     show K (Act.put _ (some 24) _) x11
     refine bkm hK hb ?_
     clear hK K hHeld
     have hHeld : Mods (· = q) w2 x11 := hb
     clear hb
     refine tq 12 25 ?_
     refine rd1 13 (fun K hK => ?_)
     have hx : World.cell? x11 ⟨q, 3, none⟩ = some (.slice pa L.length ca) := by rw [HX2.out.cell]; rfl
     have hz : World.frozen? x11 ⟨q, 3, none⟩ = false := HX2.out.frozen 3
     go_simp
     have HX3 := Lib.hid (HX2.out.set_ 3 (.slice p6 (i + (L.length - i1)) c6))
     have H6s := Lib.hid (ownsRow_mods (S := fun x => x = q) H6.out ((Mods.refl (fun x => x = q) _).setCell (p := ⟨q, 3, none⟩) (fun _ => rfl) (.slice p6 (i + (L.length - i1)) c6)) (fun x hx e => ownsRow_ne H6.out HX2.out (by decide) (by rw [hx, e])))
     have hb := hHeld.setCell (p := ⟨q, 3, none⟩) (fun _ => rfl) (.slice p6 (i + (L.length - i1)) c6)
     clear hx hz HX2 H6
     generalize World.setCell x11 ⟨q, 3, none⟩ (.slice p6 (i + (L.length - i1)) c6) = xF at *
     refine bkm hK hb ?_
     clear hK K hHeld
     have hHeld : Mods (· = q) w2 xF := hb
     clear hb
     refine wpAnyH_done (by kernel_rfl) ?_ _
     refine NoPanic.normal ?_
     go_wp2_with fail
     go_meet
     exact Lib.hid ⟨p6, c6, HX3.out, H6s.out, hHeld⟩
    exact AllReadyH.nil
   refine AllReadyH.cons (o := _) rfl (fun K hK => ?_) ?_
   ·have hx : World.cell? xs ⟨q, 3, none⟩ = some (.slice pa L.length ca) := by rw [HX2.out.cell]; rfl
    go_simp
    clear hx
    have hb := hHeld
    refine bkm hK hb ?_
    clear hK K hHeld
    have hHeld : Mods (· = q) w2 xs := hb
    clear hb
    refine tq 4 17 ?_ (hy := fun w' hSw => by
     have hSw : Mods (· = q) w2 w' := hSw
     have hc := run_cutS_h (P := Tryz.prog) w' Tryz.underlying30 szA pa L.length ca (kh := .i64) i (by omega)
     clear hSw
     go_simp
     try with_reducible rfl)
    refine wpAnyH_ready (rs := [0, 7]) (by kernel_rfl) (by simp) ?_
    refine AllReadyH.cons (o := _) rfl (fun K hK => ?_) ?_
    ·go_simp
     obtain ⟨g0, hg0⟩ : ∃ z, z = (World.heap xs).size := ⟨_, rfl⟩
     have H0 := Lib.hid (ownsZ (w := xs) (e := 108) (C := 2) hg0 (show w2.heap.size ≤ g0 from by rw [hg0]; exact hHeld.size))
     have HX2 := Lib.hid (HX2.out.alloc (.cells #[] 108))
     have hb := hHeld.alloc (.cells #[] 108)
     rw [← hg0]
     clear hg0
     generalize World.alloc xs (.cells #[] 108) = x0 at *
     refine bkm hK hb ?_
     clear hK K hHeld
     have hHeld : Mods (· = q) w2 x0 := hb
     clear hb
     refine wpAnyH_ready (rs := [5, 7]) (by kernel_rfl) (by simp) ?_
     refine AllReadyH.cons (o := _) rfl (fun K hK => ?_) ?_
     ·refine step_apps (base := w2.heap.size) alOk (by decide) rfl _ _ rfl (.slice (some ⟨g0, 0, none⟩) 0 0) (cutS 2 pa 0 i ca) 0 i [] ((L.take i).flatMap alC) rfl rfl H0.out (HP1.out _ hHeld) (al_one (fun x hx => HP.out x (HSUB.out x (.inl hx)))) (by omega) (by decide) hHeld.size ?_
      intro v5 x5 ho5 hg5
      rw [Nat.zero_add, List.nil_append] at ho5
      obtain ⟨p5, c5, rfl, -, -⟩ := ownsRow_form ho5
      have HX2 := Lib.hid (HX2.out.grown hg5 (ownsRow_ne H0.out HX2.out (by decide)))
      have hb := hHeld.grown hg5 (fun k hk hl => by have := ownsRow_base H0.out k hk; omega)
      have H5 := Lib.hid ho5
      clear ho5 hg5 H0
      show K (Act.put _ (some 18) _) x5
      refine bkm hK hb ?_
      clear hK K hHeld
      have hHeld : Mods (· = q) w2 x5 := hb
      clear hb
      refine rd1 7 (fun K hK => ?_)
      have hx : World.cell? x5 ⟨q, 3, none⟩ = some (.slice pa L.length ca) := by rw [HX2.out.cell]; rfl
      go_simp
      clear hx
      have hb := hHeld
      refine bkm hK hb ?_
      clear hK K hHeld
      have hHeld : Mods (· = q) w2 x5 := hb
      clear hb
      refine tq 10 23 ?_ (hy := fun w' hSw => by
       have hSw : Mods (· = q) w2 w' := hSw
       have hc := run_cutS_l (P := Tryz.prog) w' Tryz.underlying30 szA pa L.length ca (kl := .i64) i1 (by have := HI.out; omega)
       clear hSw
       go_simp
       try with_reducible rfl)
      refine rd1 11 (fun K hK => ?_)
      refine step_apps (base := w2.heap.size) alOk (by decide) rfl _ _ rfl (.slice p5 i c5) (cutS 2 pa i1 L.length ca) i (L.length - i1) ((L.take i).flatMap alC) ((L.drop i1).flatMap alC) rfl rfl H5.out (HP2.out _ hHeld) (al_one (fun x hx => HP.out x (HSUB.out x (.inr hx)))) (by omega) (by decide) hHeld.size ?_
      intro v6 x11 ho6 hg6
      obtain ⟨p6, c6, rfl, -, -⟩ := ownsRow_form ho6
      have HX2 := Lib.hid (HX2.out.grown hg6 (ownsRow_ne H5.out HX2.out (by decide)))
      have hb := hHeld.grown hg6 (fun k hk hl => by have := ownsRow_base H5.out k hk; omega)
      have H6 := Lib.hid ho6
      clear ho6 hg6 H5
      show K (Act.put _ (some 24) _) x11
      refine bkm hK hb ?_
      clear hK K hHeld
      have hHeld : Mods (· = q) w2 x11 := hb
      clear hb
      refine tq 12 25 ?_
      refine rd1 13 (fun K hK => ?_)
      have hx : World.cell? x11 ⟨q, 3, none⟩ = some (.slice pa L.length ca) := by rw [HX2.out.cell]; rfl
      have hz : World.frozen? x11 ⟨q, 3, none⟩ = false := HX2.out.frozen 3
      go_simp
      have HX3 := Lib.hid (HX2.out.set_ 3 (.slice p6 (i + (L.length - i1)) c6))
      have H6s := Lib.hid (ownsRow_mods (S := fun x => x = q) H6.out ((Mods.refl (fun x => x = q) _).setCell (p := ⟨q, 3, none⟩) (fun _ => rfl) (.slice p6 (i + (L.length - i1)) c6)) (fun x hx e => ownsRow_ne H6.out HX2.out (by decide) (by rw [hx, e])))
      have hb := hHeld.setCell (p := ⟨q, 3, none⟩) (fun _ => rfl) (.slice p6 (i + (L.length - i1)) c6)
      clear hx hz HX2 H6
      generalize World.setCell x11 ⟨q, 3, none⟩ (.slice p6 (i + (L.length - i1)) c6) = xF at *
      refine bkm hK hb ?_
      clear hK K hHeld
      have hHeld : Mods (· = q) w2 xF := hb
      clear hb
      refine wpAnyH_done (by kernel_rfl) ?_ _
      refine NoPanic.normal ?_
      go_wp2_with fail
      go_meet
      exact Lib.hid ⟨p6, c6, HX3.out, H6s.out, hHeld⟩
     refine AllReadyH.cons (o := _) rfl (fun K hK => ?_) ?_
     ·have hx : World.cell? x0 ⟨q, 3, none⟩ = some (.slice pa L.length ca) := by rw [HX2.out.cell]; rfl
      go_simp
      clear hx
      have hb := hHeld
      refine bkm hK hb ?_
      clear hK K hHeld
      have hHeld : Mods (· = q) w2 x0 := hb
      clear hb
      refine tq 10 23 ?_ (hy := fun w' hSw => by
       have hSw : Mods (· = q) w2 w' := hSw
       have hc := run_cutS_l (P := Tryz.prog) w' Tryz.underlying30 szA pa L.length ca (kl := .i64) i1 (by have := HI.out; omega)
       clear hSw
       go_simp
       try with_reducible rfl)
      refine rd1 5 (fun K hK => ?_)
      refine step_apps (base := w2.heap.size) alOk (by decide) rfl _ _ rfl (.slice (some ⟨g0, 0, none⟩) 0 0) (cutS 2 pa 0 i ca) 0 i [] ((L.take i).flatMap alC) rfl rfl H0.out (HP1.out _ hHeld) (al_one (fun x hx => HP.out x (HSUB.out x (.inl hx)))) (by omega) (by decide) hHeld.size ?_
      intro v5 x5 ho5 hg5
      rw [Nat.zero_add, List.nil_append] at ho5
      obtain ⟨p5, c5, rfl, -, -⟩ := ownsRow_form ho5
      have HX2 := Lib.hid (HX2.out.grown hg5 (ownsRow_ne H0.out HX2.out (by decide)))
      have hb := hHeld.grown hg5 (fun k hk hl => by have := ownsRow_base H0.out k hk; omega)
      have H5 := Lib.hid ho5
      clear ho5 hg5 H0
      show K (Act.put _ (some 18) _) x5
      refine bkm hK hb ?_
      clear hK K hHeld
      have hHeld : Mods (· = q) w2 x5 := hb
      clear hb
      refine rd1 11 (fun K hK => ?_)
      refine step_apps (base := w2.heap.size) alOk (by decide) rfl _ _ rfl (.slice p5 i c5) (cutS 2 pa i1 L.length ca) i (L.length - i1) ((L.take i).flatMap alC) ((L.drop i1).flatMap alC) rfl rfl H5.out (HP2.out _ hHeld) (al_one (fun x hx => HP.out x (HSUB.out x (.inr hx)))) (by omega) (by decide) hHeld.size ?_
      intro v6 x11 ho6 hg6
      obtain ⟨p6, c6, rfl, -, -⟩ := ownsRow_form ho6
      have HX2 := Lib.hid (HX2.out.grown hg6 (ownsRow_ne H5.out HX2.out (by decide)))
      have hb := hHeld.grown hg6 (fun k hk hl => by have := ownsRow_base H5.out k hk; omega)
      have H6 := Lib.hid ho6
      clear ho6 hg6 H5
      show K (Act.put _ (some 24) _) x11
      refine bkm hK hb ?_
      clear hK K hHeld
      have hHeld : Mods (· = q) w2 x11 := hb
      clear hb
      refine tq 12 25 ?_
      refine rd1 13 (fun K hK => ?_)
      have hx : World.cell? x11 ⟨q, 3, none⟩ = some (.slice pa L.length ca) := by rw [HX2.out.cell]; rfl
      have hz : World.frozen? x11 ⟨q, 3, none⟩ = false := HX2.out.frozen 3
      go_simp
      have HX3 := Lib.hid (HX2.out.set_ 3 (.slice p6 (i + (L.length - i1)) c6))
      have H6s := Lib.hid (ownsRow_mods (S := fun x => x = q) H6.out ((Mods.refl (fun x => x = q) _).setCell (p := ⟨q, 3, none⟩) (fun _ => rfl) (.slice p6 (i + (L.length - i1)) c6)) (fun x hx e => ownsRow_ne H6.out HX2.out (by decide) (by rw [hx, e])))
      have hb := hHeld.setCell (p := ⟨q, 3, none⟩) (fun _ => rfl) (.slice p6 (i + (L.length - i1)) c6)
      clear hx hz HX2 H6
      generalize World.setCell x11 ⟨q, 3, none⟩ (.slice p6 (i + (L.length - i1)) c6) = xF at *
      refine bkm hK hb ?_
      clear hK K hHeld
      have hHeld : Mods (· = q) w2 xF := hb
      clear hb
      refine wpAnyH_done (by kernel_rfl) ?_ _
      refine NoPanic.normal ?_
      go_wp2_with fail
      go_meet
      exact Lib.hid ⟨p6, c6, HX3.out, H6s.out, hHeld⟩
     exact AllReadyH.nil
    refine AllReadyH.cons (o := _) rfl (fun K hK => ?_) ?_
    ·have hx : World.cell? xs ⟨q, 3, none⟩ = some (.slice pa L.length ca) := by rw [HX2.out.cell]; rfl
     go_simp
     clear hx
     have hb := hHeld
     refine bkm hK hb ?_
     clear hK K hHeld
     have hHeld : Mods (· = q) w2 xs := hb
     clear hb
     refine tq 10 23 ?_ (hy := fun w' hSw => by
      have hSw : Mods (· = q) w2 w' := hSw
      have hc := run_cutS_l (P := Tryz.prog) w' Tryz.underlying30 szA pa L.length ca (kl := .i64) i1 (by have := HI.out; omega)
      clear hSw
      go_simp
      try with_reducible rfl)
     refine rd1 0 (fun K hK => ?_)
     go_simp
     obtain ⟨g0, hg0⟩ : ∃ z, z = (World.heap xs).size := ⟨_, rfl⟩
     have H0 := Lib.hid (ownsZ (w := xs) (e := 108) (C := 2) hg0 (show w2.heap.size ≤ g0 from by rw [hg0]; exact hHeld.size))
     have HX2 := Lib.hid (HX2.out.alloc (.cells #[] 108))
     have hb := hHeld.alloc (.cells #[] 108)
     rw [← hg0]
     clear hg0
     generalize World.alloc xs (.cells #[] 108) = x0 at *
     refine bkm hK hb ?_
     clear hK K hHeld
     have hHeld : Mods (· = q) w2 x0 := hb
     clear hb
     refine rd1 5 (fun K hK => ?_)
     refine step_apps (base := w2.heap.size) alOk (by decide) rfl _ _ rfl (.slice (some ⟨g0, 0, none⟩) 0 0) (cutS 2 pa 0 i ca) 0 i [] ((L.take i).flatMap alC) rfl rfl H0.out (HP1.out _ hHeld) (al_one (fun x hx => HP.out x (HSUB.out x (.inl hx)))) (by omega) (by decide) hHeld.size ?_
     intro v5 x5 ho5 hg5
     rw [Nat.zero_add, List.nil_append] at ho5
     obtain ⟨p5, c5, rfl, -, -⟩ := ownsRow_form ho5
     have HX2 := Lib.hid (HX2.out.grown hg5 (ownsRow_ne H0.out HX2.out (by decide)))
     have hb := hHeld.grown hg5 (fun k hk hl => by have := ownsRow_base H0.out k hk; omega)
     have H5 := Lib.hid ho5
     clear ho5 hg5 H0
     show K (Act.put _ (some 18) _) x5
     refine bkm hK hb ?_
     clear hK K hHeld
     have hHeld : Mods (· = q) w2 x5 := hb
     clear hb
     refine rd1 11 (fun K hK => ?_)
     refine step_apps (base := w2.heap.size) alOk (by decide) rfl _ _ rfl (.slice p5 i c5) (cutS 2 pa i1 L.length ca) i (L.length - i1) ((L.take i).flatMap alC) ((L.drop i1).flatMap alC) rfl rfl H5.out (HP2.out _ hHeld) (al_one (fun x hx => HP.out x (HSUB.out x (.inr hx)))) (by omega) (by decide) hHeld.size ?_
     intro v6 x11 ho6 hg6
     obtain ⟨p6, c6, rfl, -, -⟩ := ownsRow_form ho6
     have HX2 := Lib.hid (HX2.out.grown hg6 (ownsRow_ne H5.out HX2.out (by decide)))
     have hb := hHeld.grown hg6 (fun k hk hl => by have := ownsRow_base H5.out k hk; omega)
     have H6 := Lib.hid ho6
     clear ho6 hg6 H5
     show K (Act.put _ (some 24) _) x11
     refine bkm hK hb ?_
     clear hK K hHeld
     have hHeld : Mods (· = q) w2 x11 := hb
     clear hb
     refine tq 12 25 ?_
     refine rd1 13 (fun K hK => ?_)
     have hx : World.cell? x11 ⟨q, 3, none⟩ = some (.slice pa L.length ca) := by rw [HX2.out.cell]; rfl
     have hz : World.frozen? x11 ⟨q, 3, none⟩ = false := HX2.out.frozen 3
     go_simp
     have HX3 := Lib.hid (HX2.out.set_ 3 (.slice p6 (i + (L.length - i1)) c6))
     have H6s := Lib.hid (ownsRow_mods (S := fun x => x = q) H6.out ((Mods.refl (fun x => x = q) _).setCell (p := ⟨q, 3, none⟩) (fun _ => rfl) (.slice p6 (i + (L.length - i1)) c6)) (fun x hx e => ownsRow_ne H6.out HX2.out (by decide) (by rw [hx, e])))
     have hb := hHeld.setCell (p := ⟨q, 3, none⟩) (fun _ => rfl) (.slice p6 (i + (L.length - i1)) c6)
     clear hx hz HX2 H6
     generalize World.setCell x11 ⟨q, 3, none⟩ (.slice p6 (i + (L.length - i1)) c6) = xF at *
     refine bkm hK hb ?_
     clear hK K hHeld
     have hHeld : Mods (· = q) w2 xF := hb
     clear hb
     refine wpAnyH_done (by kernel_rfl) ?_ _
     refine NoPanic.normal ?_
     go_wp2_with fail
     go_meet
     exact Lib.hid ⟨p6, c6, HX3.out, H6s.out, hHeld⟩
    exact AllReadyH.nil
   refine AllReadyH.cons (o := _) rfl (fun K hK => ?_) ?_
   ·have hx : World.cell? xs ⟨q, 3, none⟩ = some (.slice pa L.length ca) := by rw [HX2.out.cell]; rfl
    go_simp
    clear hx
    have hb := hHeld
    refine bkm hK hb ?_
    clear hK K hHeld
    have hHeld : Mods (· = q) w2 xs := hb
    clear hb
    refine tq 10 23 ?_ (hy := fun w' hSw => by
     have hSw : Mods (· = q) w2 w' := hSw
     have hc := run_cutS_l (P := Tryz.prog) w' Tryz.underlying30 szA pa L.length ca (kl := .i64) i1 (by have := HI.out; omega)
     clear hSw
     go_simp
     try with_reducible rfl)
    refine wpAnyH_ready (rs := [0, 2]) (by kernel_rfl) (by simp) ?_
    refine AllReadyH.cons (o := _) rfl (fun K hK => ?_) ?_
    ·go_simp
     obtain ⟨g0, hg0⟩ : ∃ z, z = (World.heap xs).size := ⟨_, rfl⟩
     have H0 := Lib.hid (ownsZ (w := xs) (e := 108) (C := 2) hg0 (show w2.heap.size ≤ g0 from by rw [hg0]; exact hHeld.size))
     have HX2 := Lib.hid (HX2.out.alloc (.cells #[] 108))
     have hb := hHeld.alloc (.cells #[] 108)
     rw [← hg0]
     clear hg0
     generalize World.alloc xs (.cells #[] 108) = x0 at *
     refine bkm hK hb ?_
     clear hK K hHeld
     have hHeld : Mods (· = q) w2 x0 := hb
     clear hb
     refine rd1 2 (fun K hK => ?_)
     have hx : World.cell? x0 ⟨q, 3, none⟩ = some (.slice pa L.length ca) := by rw [HX2.out.cell]; rfl
     go_simp
     clear hx
     have hb := hHeld
     refine bkm hK hb ?_
     clear hK K hHeld
     have hHeld : Mods (· = q) w2 x0 := hb
     clear hb
     refine tq 4 17 ?_ (hy := fun w' hSw => by
      have hSw : Mods (· = q) w2 w' := hSw
      have hc := run_cutS_h (P := Tryz.prog) w' Tryz.underlying30 szA pa L.length ca (kh := .i64) i (by omega)
      clear hSw
      go_simp
      try with_reducible rfl)
     refine rd1 5 (fun K hK => ?_)
     refine step_apps (base := w2.heap.size) alOk (by decide) rfl _ _ rfl (.slice (some ⟨g0, 0, none⟩) 0 0) (cutS 2 pa 0 i ca) 0 i [] ((L.take i).flatMap alC) rfl rfl H0.out (HP1.out _ hHeld) (al_one (fun x hx => HP.out x (HSUB.out x (.inl hx)))) (by omega) (by decide) hHeld.size ?_
     intro v5 x5 ho5 hg5
     rw [Nat.zero_add, List.nil_append] at ho5
     obtain ⟨p5, c5, rfl, -, -⟩ := ownsRow_form ho5
     have HX2 := Lib.hid (HX2.out.grown hg5 (ownsRow_ne H0.out HX2.out (by decide)))
     have hb := hHeld.grown hg5 (fun k hk hl => by have := ownsRow_base H0.out k hk; omega)
     have H5 := Lib.hid ho5
     clear ho5 hg5 H0
     show K (Act.put _ (some 18) _) x5
     refine bkm hK hb ?_
     clear hK K hHeld
     have hHeld : Mods (· = q) w2 x5 := hb
     clear hb
     refine rd1 11 (fun K hK => ?_)
     refine step_apps (base := w2.heap.size) alOk (by decide) rfl _ _ rfl (.slice p5 i c5) (cutS 2 pa i1 L.length ca) i (L.length - i1) ((L.take i).flatMap alC) ((L.drop i1).flatMap alC) rfl rfl H5.out (HP2.out _ hHeld) (al_one (fun x hx => HP.out x (HSUB.out x (.inr hx)))) (by omega) (by decide) hHeld.size ?_
     intro v6 x11 ho6 hg6
     obtain ⟨p6, c6, rfl, -, -⟩ := ownsRow_form ho6
     have HX2 := Lib.hid (HX2.out.grown hg6 (ownsRow_ne H5.out HX2.out (by decide)))
     have hb := hHeld.grown hg6 (fun k hk hl => by have := ownsRow_base H5.out k hk; omega)
     have H6 := Lib.hid ho6
     clear ho6 hg6 H5
     show K (Act.put _ (some 24) _) x11
     refine bkm hK hb ?_
     clear hK K hHeld
     have hHeld : Mods (· = q) w2 x11 := hb
     clear hb
     refine tq 12 25 ?_
     refine rd1 13 (fun K hK => ?_)
     have hx : World.cell? x11 ⟨q, 3, none⟩ = some (.slice pa L.length ca) := by rw [HX2.out.cell]; rfl
     have hz : World.frozen? x11 ⟨q, 3, none⟩ = false := HX2.out.frozen 3
     go_simp
     have HX3 := Lib.hid (HX2.out.set_ 3 (.slice p6 (i + (L.length - i1)) c6))
     have H6s := Lib.hid (ownsRow_mods (S := fun x => x = q) H6.out ((Mods.refl (fun x => x = q) _).setCell (p := ⟨q, 3, none⟩) (fun _ => rfl) (.slice p6 (i + (L.length - i1)) c6)) (fun x hx e => ownsRow_ne H6.out HX2.out (by decide) (by rw [hx, e])))
     have hb := hHeld.setCell (p := ⟨q, 3, none⟩) (fun _ => rfl) (.slice p6 (i + (L.length - i1)) c6)
     clear hx hz HX2 H6
     generalize World.setCell x11 ⟨q, 3, none⟩ (.slice p6 (i + (L.length - i1)) c6) = xF at *
     refine bkm hK hb ?_
     clear hK K hHeld
     have hHeld : Mods (· = q) w2 xF := hb
     clear hb
     refine wpAnyH_done (by kernel_rfl) ?_ _
     refine NoPanic.normal ?_
     go_wp2_with fail
     go_meet
     exact Lib.hid ⟨p6, c6, HX3.out, H6s.out, hHeld⟩
    refine AllReadyH.cons (o := _) rfl (fun K hK => ?_) ?_
    ·have hx : World.cell? xs ⟨q, 3, none⟩ = some (.slice pa L.length ca) := by rw [HX2.out.cell]; rfl
     go_simp
     clear hx
     have hb := hHeld
     refine bkm hK hb ?_
     clear hK K hHeld
     have hHeld : Mods (· = q) w2 xs := hb
     clear hb
     refine tq 4 17 ?_ (hy := fun w' hSw => by
      have hSw : Mods (· = q) w2 w' := hSw
      have hc := run_cutS_h (P := Tryz.prog) w' Tryz.underlying30 szA pa L.length ca (kh := .i64) i (by omega)
      clear hSw
      go_simp
      try with_reducible rfl)
     refine rd1 0 (fun K hK => ?_)
     go_simp
     obtain ⟨g0, hg0⟩ : ∃ z, z = (World.heap xs).size := ⟨_, rfl⟩
     have H0 := Lib.hid (ownsZ (w := xs) (e := 108) (C := 2) hg0 (show w2.heap.size ≤ g0 from by rw [hg0]; exact hHeld.size))
     have HX2 := Lib.hid (HX2.out.alloc (.cells #[] 108))
     have hb := hHeld.alloc (.cells #[] 108)
     rw [← hg0]
     clear hg0
     generalize World.alloc xs (.cells #[] 108) = x0 at *
     refine bkm hK hb ?_
     clear hK K hHeld
     have hHeld : Mods (· = q) w2 x0 := hb
     clear hb
     refine rd1 5 (fun K hK => ?_)
     refine step_apps (base := w2.heap.size) alOk (by decide) rfl _ _ rfl (.slice (some ⟨g0, 0, none⟩) 0 0) (cutS 2 pa 0 i ca) 0 i [] ((L.take i).flatMap alC) rfl rfl H0.out (HP1.out _ hHeld) (al_one (fun x hx => HP.out x (HSUB.out x (.inl hx)))) (by omega) (by decide) hHeld.size ?_
     intro v5 x5 ho5 hg5
     rw [Nat.zero_add, List.nil_append] at ho5
     obtain ⟨p5, c5, rfl, -, -⟩ := ownsRow_form ho5
     have HX2 := Lib.hid (HX2.out.grown hg5 (ownsRow_ne H0.out HX2.out (by decide)))
     have hb := hHeld.grown hg5 (fun k hk hl => by have := ownsRow_base H0.out k hk; omega)
     have H5 := Lib.hid ho5
     clear ho5 hg5 H0
     show K (Act.put _ (some 18) _) x5
     refine bkm hK hb ?_
     clear hK K hHeld
     have hHeld : Mods (· = q) w2 x5 := hb
     clear hb
     refine rd1 11 (fun K hK => ?_)
     refine step_apps (base := w2.heap.size) alOk (by decide) rfl _ _ rfl (.slice p5 i c5) (cutS 2 pa i1 L.length ca) i (L.length - i1) ((L.take i).flatMap alC) ((L.drop i1).flatMap alC) rfl rfl H5.out (HP2.out _ hHeld) (al_one (fun x hx => HP.out x (HSUB.out x (.inr hx)))) (by omega) (by decide) hHeld.size ?_
     intro v6 x11 ho6 hg6
     obtain ⟨p6, c6, rfl, -, -⟩ := ownsRow_form ho6
     have HX2 := Lib.hid (HX2.out.grown hg6 (ownsRow_ne H5.out HX2.out (by decide)))
     have hb := hHeld.grown hg6 (fun k hk hl => by have := ownsRow_base H5.out k hk; omega)
     have H6 := Lib.hid ho6
     clear ho6 hg6 H5
     show K (Act.put _ (some 24) _) x11
     refine bkm hK hb ?_
     clear hK K hHeld
     have hHeld : Mods (· = q) w2 x11 := hb
     clear hb
     refine tq 12 25 ?_
     refine rd1 13 (fun K hK => ?_)
     have hx : World.cell? x11 ⟨q, 3, none⟩ = some (.slice pa L.length ca) := by rw [HX2.out.cell]; rfl
     have hz : World.frozen? x11 ⟨q, 3, none⟩ = false := HX2.out.frozen 3
     go_simp
     have HX3 := Lib.hid (HX2.out.set_ 3 (.slice p6 (i + (L.length - i1)) c6))
     have H6s := Lib.hid (ownsRow_mods (S := fun x => x = q) H6.out ((Mods.refl (fun x => x = q) _).setCell (p := ⟨q, 3, none⟩) (fun _ => rfl) (.slice p6 (i + (L.length - i1)) c6)) (fun x hx e => ownsRow_ne H6.out HX2.out (by decide) (by rw [hx, e])))
     have hb := hHeld.setCell (p := ⟨q, 3, none⟩) (fun _ => rfl) (.slice p6 (i + (L.length - i1)) c6)
     clear hx hz HX2 H6
     generalize World.setCell x11 ⟨q, 3, none⟩ (.slice p6 (i + (L.length - i1)) c6) = xF at *
     refine bkm hK hb ?_
     clear hK K hHeld
     have hHeld : Mods (· = q) w2 xF := hb
     clear hb
     refine wpAnyH_done (by kernel_rfl) ?_ _
     refine NoPanic.normal ?_
     go_wp2_with fail
     go_meet
     exact Lib.hid ⟨p6, c6, HX3.out, H6s.out, hHeld⟩
    exact AllReadyH.nil
   exact AllReadyH.nil
  case rest =>
  obtain ⟨pz, cz, hb3, ho3, hm3⟩ := hcut.out
  obtain ⟨w3, rfl⟩ : ∃ z : World, z = wc := ⟨_, rfl⟩
  have HT3 := Lib.hid (HT2.out.blk hm3 HB2.out (by decide))
  have HG3 := Lib.hid (HG2.out.mods hm3 (fun e => by omega))
  have HB3 := Lib.hid hb3
  have HO3 := Lib.hid ho3
  have HK3 := Lib.hid (hm3.keeps HK2.out (fun x hx => by rw [hx, ← HQ.out]; omega))
  clear hcut hb3 ho3 hm3 HB2 HG2 HT2 HP1 HP2
  obtain ⟨nz, hnz⟩ : ∃ z, z = i + (L.length - i1) := ⟨_, rfl⟩
  rw [← hnz] at HB3 HO3
  have HNZ := Lib.hid hnz
  clear hnz hw1
  go_wp2_with (first
   |refine wpList_ld rfl rtM HB3.out _ rfl rfl ?_
   |(refine wpList_st (ds := #[.string (bstr t.dom), .int .i64 t.next, .slice pu t.us.length cu, .slice pz nz cz, .int .i64 0, .int .i64 0]) rfl gotM HG3.out rfl (by simp [Value.oneCell']) _ _ rfl rfl rfl rfl ?_; intro w4 hB4 hM4; have HLd := Lib.hid (ld_run (P := Tryz.prog) gotM hB4); have HM4 := Lib.hid hM4; clear hB4 hM4))
  refine bodyPost_ret (v := .agg #[.string (bstr t.dom), .int .i64 t.next, .slice pu t.us.length cu, .slice pz nz cz, .int .i64 0, .int .i64 0]) (by simp [results, Tryz.results44, Sem.run_bind, Sem.run_pure, Result.andThen_ok, Act.put, asAddr, HLd.out]) rfl ?_
  have hk4 : Keeps w w4 := HM4.out.keeps HK3.out (fun x hx => by rw [hx, ← HQ.out]; omega)
  have ho4 : w4.ownsRow w2.heap.size 108 2 (.slice pz nz cz) nz ((L.take i).flatMap alC ++ (L.drop i1).flatMap alC) := ownsRow_mods HO3.out HM4.out (fun x hx e => ownsRow_ne HO3.out HG3.out (by decide) (by rw [hx, e]))
  have hT4 := HT3.out.blk HM4.out HG3.out (by decide)
  rw [HX.out]
  refine ⟨_, _, L.take i ++ L.drop i1, rfl, ⟨hT4.us, ?_, ?_, fun x hx => hT4.pay x (HSUB.out x (List.mem_append.1 hx))⟩, hk4⟩
  ·have e1 : (L.take i ++ L.drop i1).length = nz := by rw [HNZ.out, HI.out]; simp; omega
   rw [e1, List.flatMap_append]
   exact ownsRow_low ho4
  ·show (L.take i ++ L.drop i1).map (·.1) = t.al.take i ++ t.al.drop (i + 1)
   rw [List.map_append, List.map_take, List.map_drop, hT4.alm, HI.out]
set_option maxRecDepth 100000 in
set_option maxHeartbeats 4000000 in
theorem rDropUser_any (w : World) (uv av : Value) (t : TabP) (L : List (AlP × Value)) (h : RT w uv av t L) (hR : Right t) (name : Str) : Calls Tryz.prog 41 #[rtV uv av t, .string (bstr name)] w (RGot w (dropU t name)) := by
 have HLA := Lib.hid (show L.length = t.al.length from by rw [← h.alm, List.length_map])
 have hLl : L.length ≤ 1000000 := by have h1 := hR.all; have := HLA.out; omega
 have hUl : t.us.length ≤ 1000000 := by have h1 := hR.ul; omega
 obtain ⟨pu, cu, pa, ca, rfl, rfl, hcu, hca⟩ := h.forms
 have HCC := Lib.hid (And.intro hcu hca)
 have HR := Lib.hid h
 have CP := Lib.hid (fun (w' : World) (k : Keeps w w') => rUser_any w' _ _ t L (h.keeps k).tab hUl name)
 have HRt := Lib.hid hR
 have HLL := Lib.hid (And.intro hLl hUl)
 clear h hR hcu hca hLl hUl
 unfold rtV at CP ⊢
 go_enter Tryz.func41, Tryz.ntmps41
 go_upto_region 1 with fail
 generalize hW : World.alloc (World.alloc w _) _ = w1
 have HK := Lib.hid (show Keeps w w1 from by rw [← hW]; exact ((Keeps.refl _).alloc _).alloc _)
 have HB := Lib.hid (show Blk w1 w.heap.size 32 #[.string (bstr t.dom), .int .i64 t.next, .slice pu t.us.length cu, .slice pa L.length ca] from by rw [← hW]; exact (Blk.new _ _ _ rfl).keeps ((Keeps.refl _).alloc _))
 have HG := Lib.hid (show Blk w1 (w.heap.size + 1) 86 #[.string ⟨#[]⟩, .int .i64 0, .slice none 0 0, .slice none 0 0, .int .i64 0, .int .i64 0] from by rw [← hW]; exact Blk.new _ _ _ (Frm.alloc_size _ _).symm)
 clear hW
 obtain ⟨q, hq⟩ : ∃ z, w.heap.size = z := ⟨_, rfl⟩
 have HQ := Lib.hid hq
 rw [hq] at HB HG ⊢
 clear hq
 go_wp2_with (refine wpList_ld rfl rtM HB.out _ rfl rfl ?_)
 refine (CP.out _ HK.out).mono ?_
 rintro e w2 ⟨rfl, hk⟩
 have HK2 := Lib.hid (HK.out.trans hk)
 have HB2 := Lib.hid (HB.out.keeps hk)
 have HG2 := Lib.hid (HG.out.keeps hk)
 clear HB HG HK hk CP
 rcases posL_cases (namesU t) name with ⟨hn, hp⟩ | ⟨i, hi, hni, hp⟩
 ·have HX := Lib.hid (show dropU t name = (t, 0, 7) from by have : t.us.find? (fun u => decide (u.name = name)) = none := List.find?_eq_none.2 (fun u hu => by simp only [decide_eq_true_eq]; exact fun e => hn (List.mem_map.2 ⟨u, hu, e⟩)); unfold dropU; rw [this])
  rw [hp]
  generalize dropU t name = r at *
  clear hn hp
  go_wp2_with (first
   |refine wpList_ld rfl rtM HB2.out _ rfl rfl ?_
   |(refine wpList_st (ds := #[.string (bstr t.dom), .int .i64 t.next, .slice pu t.us.length cu, .slice pa L.length ca, .int .i64 0, .int .i64 7]) rfl gotM HG2.out rfl (by simp [Value.oneCell']) _ _ rfl rfl rfl rfl ?_; intro w3 hB3 hM3; have HLd := Lib.hid (ld_run (P := Tryz.prog) gotM hB3); have HM3 := Lib.hid hM3; clear hB3 hM3))
  refine bodyPost_ret (v := .agg #[.string (bstr t.dom), .int .i64 t.next, .slice pu t.us.length cu, .slice pa L.length ca, .int .i64 0, .int .i64 7]) (by simp [results, Tryz.results41, Sem.run_bind, Sem.run_pure, Result.andThen_ok, Act.put, asAddr, HLd.out]) rfl ?_
  have hk3 : Keeps w w3 := HM3.out.keeps HK2.out (fun x hx => by rw [hx, ← HQ.out]; omega)
  rw [HX.out]
  exact ⟨_, _, L, rfl, HR.out.keeps hk3, hk3⟩
 ·have hLa := HLA.out
  have hcu := HCC.out.1
  have hca := HCC.out.2
  have hLl := HLL.out.1
  have hUl := HLL.out.2
  have hil : i < t.us.length := by simpa [namesU] using hi
  have HX := Lib.hid (show dropU t name = ({ t with us := t.us.take i ++ t.us.drop (i + 1) }, t.us[i].n, 0) from by
   have e : name = t.us[i].name := hni.symm.trans (by simp [namesU])
   have e2 := dropU_at HRt.out hil
   rw [← e] at e2
   exact e2)
  rw [hp]
  generalize dropU t name = r at *
  obtain ⟨i1, hi1⟩ : ∃ z, z = i + 1 := ⟨_, rfl⟩
  have hw1 : IntKind.i64.wrap ((i : Int) + 1) = (i1 : Int) := by rw [hi1]; exact (IntWalk.i64_in _ (by omega)).trans (by omega)
  have HI := Lib.hid hi1
  have HT2 := Lib.hid (HR.out.keeps HK2.out)
  have HP1 := Lib.hid (show ∀ x, Mods (· = q) w2 x → RowS x 4 (cutS 4 pu 0 i cu) i ((t.us.take i).flatMap usC) from fun x k => by
   have := (HT2.out.blk k HB2.out (by decide)).tab.us.part usC_len (lo := 0) (hi := i) (Nat.zero_le _) (by omega)
   simpa using this)
  have HP2 := Lib.hid (show ∀ x, Mods (· = q) w2 x → RowS x 4 (cutS 4 pu i1 t.us.length cu) (t.us.length - i1) ((t.us.drop i1).flatMap usC) from fun x k => by
   have := (HT2.out.blk k HB2.out (by decide)).tab.us.part usC_len (lo := i1) (hi := t.us.length) (by omega) (Nat.le_refl _)
   rwa [List.take_of_length_le (by simp)] at this)
  have hcl : ∃ bs o, pu = some ⟨bs, o, none⟩ ∧ w2.cell? ⟨bs, o + i * 4, none⟩ = some (.int .i64 t.us[i].n) := by
   rcases HT2.out.tab.us.2 with ⟨a0, cap, hv, h0, -⟩ | ⟨b, off, cap, hv, -, -, hc⟩
   ·omega
   ·simp only [Value.slice.injEq] at hv
    exact ⟨b, off, hv.1, hc (i * 4 + 0) _ (by rw [us_at hil (show 0 < 4 by decide)]; rfl)⟩
  obtain ⟨bs, o, rfl, hcell⟩ := hcl
  have q2 : w2.cell? ⟨q, 2, none⟩ = some (.slice (some ⟨bs, o, none⟩) t.us.length cu) := by rw [HB2.out.cell]; rfl
  have hN := Lib.hid (rfl : t.us[i].n = t.us[i].n)
  generalize t.us[i].n = un at *
  go_upto_region 5 with fail
  clear q2 hcell
  clear hp hni hi hLa hi1
  go_cut [] (fun wx => Hid (∃ pz cz, Blk wx q 32 #[.string (bstr t.dom), .int .i64 t.next, .slice pz (i + (t.us.length - i1)) cz, .slice pa L.length ca] ∧ wx.ownsRow w2.heap.size 42 4 (.slice pz (i + (t.us.length - i1)) cz) (i + (t.us.length - i1)) ((t.us.take i).flatMap usC ++ (t.us.drop i1).flatMap usC) ∧ Mods (· = q) w2 wx))
  case first =>
   have HX2 := Lib.hid HB2.out.drew
   refine wp_region_noPanic ?_
   refine wp_region_held_drew (S := fun w' => Mods (· = q) w2 w') (by kernel_rfl) ((Mods.refl (· = q) w2).drew) (fun _ => ?_)
   have hHeld : Mods (· = q) w2 (w2).drew := (Mods.refl (· = q) w2).drew
   generalize World.drew w2 = xs at *
   refine tq 1 21 ?_
   refine tq 3 23 ?_
   refine tq 6 26 ?_
   refine tq 8 28 ?_
   refine tq 9 29 ?_
   refine wpAnyH_ready (rs := [0, 2, 7]) (by kernel_rfl) (by simp) ?_
   refine AllReadyH.cons (o := _) rfl (fun K hK => ?_) ?_
   ·go_simp
    obtain ⟨g0, hg0⟩ : ∃ z, z = (World.heap xs).size := ⟨_, rfl⟩
    have H0 := Lib.hid (ownsZ (w := xs) (e := 42) (C := 4) hg0 (show w2.heap.size ≤ g0 from by rw [hg0]; exact hHeld.size))
    have HX2 := Lib.hid (HX2.out.alloc (.cells #[] 42))
    have hb := hHeld.alloc (.cells #[] 42)
    rw [← hg0]
    clear hg0
    generalize World.alloc xs (.cells #[] 42) = x0 at *
    refine bkm hK hb ?_
    clear hK K hHeld
    have hHeld : Mods (· = q) w2 x0 := hb
    clear hb
    refine wpAnyH_ready (rs := [2, 7]) (by kernel_rfl) (by simp) ?_
    refine AllReadyH.cons (o := _) rfl (fun K hK => ?_) ?_
    ·have hx : World.cell? x0 ⟨q, 2, none⟩ = some (.slice (some ⟨bs, o, none⟩) t.us.length cu) := by rw [HX2.out.cell]; rfl
     go_simp
     clear hx
     have hb := hHeld
     refine bkm hK hb ?_
     clear hK K hHeld
     have hHeld : Mods (· = q) w2 x0 := hb
     clear hb
     refine tq 4 24 ?_ (hy := fun w' hSw => by
      have hSw : Mods (· = q) w2 w' := hSw
      have hc := run_cutS_h (P := Tryz.prog) w' Tryz.underlying29 szU (some ⟨bs, o, none⟩) t.us.length cu (kh := .i64) i (by omega)
      clear hSw
      go_simp
      try with_reducible rfl)
     refine wpAnyH_ready (rs := [5, 7]) (by kernel_rfl) (by simp) ?_
     refine AllReadyH.cons (o := _) rfl (fun K hK => ?_) ?_
     ·refine step_apps (base := w2.heap.size) usOk (by decide) rfl _ _ rfl (.slice (some ⟨g0, 0, none⟩) 0 0) (cutS 4 (some ⟨bs, o, none⟩) 0 i cu) 0 i [] ((t.us.take i).flatMap usC) rfl rfl H0.out (HP1.out _ hHeld) (us_one _) (by omega) (by decide) hHeld.size ?_
      intro v5 x5 ho5 hg5
      rw [Nat.zero_add, List.nil_append] at ho5
      obtain ⟨p5, c5, rfl, -, -⟩ := ownsRow_form ho5
      have HX2 := Lib.hid (HX2.out.grown hg5 (ownsRow_ne H0.out HX2.out (by decide)))
      have hb := hHeld.grown hg5 (fun k hk hl => by have := ownsRow_base H0.out k hk; omega)
      have H5 := Lib.hid ho5
      clear ho5 hg5 H0
      show K (Act.put _ (some 25) _) x5
      refine bkm hK hb ?_
      clear hK K hHeld
      have hHeld : Mods (· = q) w2 x5 := hb
      clear hb
      refine rd1 7 (fun K hK => ?_)
      have hx : World.cell? x5 ⟨q, 2, none⟩ = some (.slice (some ⟨bs, o, none⟩) t.us.length cu) := by rw [HX2.out.cell]; rfl
      go_simp
      clear hx
      have hb := hHeld
      refine bkm hK hb ?_
      clear hK K hHeld
      have hHeld : Mods (· = q) w2 x5 := hb
      clear hb
      refine tq 10 30 ?_ (hy := fun w' hSw => by
       have hSw : Mods (· = q) w2 w' := hSw
       have hc := run_cutS_l (P := Tryz.prog) w' Tryz.underlying29 szU (some ⟨bs, o, none⟩) t.us.length cu (kl := .i64) i1 (by have := HI.out; omega)
       clear hSw
       go_simp
       try with_reducible rfl)
      refine rd1 11 (fun K hK => ?_)
      refine step_apps (base := w2.heap.size) usOk (by decide) rfl _ _ rfl (.slice p5 i c5) (cutS 4 (some ⟨bs, o, none⟩) i1 t.us.length cu) i (t.us.length - i1) ((t.us.take i).flatMap usC) ((t.us.drop i1).flatMap usC) rfl rfl H5.out (HP2.out _ hHeld) (us_one _) (by omega) (by decide) hHeld.size ?_
      intro v6 x11 ho6 hg6
      obtain ⟨p6, c6, rfl, -, -⟩ := ownsRow_form ho6
      have HX2 := Lib.hid (HX2.out.grown hg6 (ownsRow_ne H5.out HX2.out (by decide)))
      have hb := hHeld.grown hg6 (fun k hk hl => by have := ownsRow_base H5.out k hk; omega)
      have H6 := Lib.hid ho6
      clear ho6 hg6 H5
      show K (Act.put _ (some 31) _) x11
      refine bkm hK hb ?_
      clear hK K hHeld
      have hHeld : Mods (· = q) w2 x11 := hb
      clear hb
      refine tq 12 32 ?_
      refine rd1 13 (fun K hK => ?_)
      have hx : World.cell? x11 ⟨q, 2, none⟩ = some (.slice (some ⟨bs, o, none⟩) t.us.length cu) := by rw [HX2.out.cell]; rfl
      have hz : World.frozen? x11 ⟨q, 2, none⟩ = false := HX2.out.frozen 2
      go_simp
      have HX3 := Lib.hid (HX2.out.set_ 2 (.slice p6 (i + (t.us.length - i1)) c6))
      have H6s := Lib.hid (ownsRow_mods (S := fun x => x = q) H6.out ((Mods.refl (fun x => x = q) _).setCell (p := ⟨q, 2, none⟩) (fun _ => rfl) (.slice p6 (i + (t.us.length - i1)) c6)) (fun x hx e => ownsRow_ne H6.out HX2.out (by decide) (by rw [hx, e])))
      have hb := hHeld.setCell (p := ⟨q, 2, none⟩) (fun _ => rfl) (.slice p6 (i + (t.us.length - i1)) c6)
      clear hx hz HX2 H6
      generalize World.setCell x11 ⟨q, 2, none⟩ (.slice p6 (i + (t.us.length - i1)) c6) = xF at *
      refine bkm hK hb ?_
      clear hK K hHeld
      have hHeld : Mods (· = q) w2 xF := hb
      clear hb
      refine wpAnyH_done (by kernel_rfl) ?_ _
      refine NoPanic.normal ?_
      go_wp2_with fail
      go_meet
      exact Lib.hid ⟨p6, c6, HX3.out, H6s.out, hHeld⟩
     refine AllReadyH.cons (o := _) rfl (fun K hK => ?_) ?_
     ·have hx : World.cell? x0 ⟨q, 2, none⟩ = some (.slice (some ⟨bs, o, none⟩) t.us.length cu) := by rw [HX2.out.cell]; rfl
      go_simp
      clear hx
      have hb := hHeld
      refine bkm hK hb ?_
      clear hK K hHeld
      have hHeld : Mods (· = q) w2 x0 := hb
      clear hb
      refine tq 10 30 ?_ (hy := fun w' hSw => by
       have hSw : Mods (· = q) w2 w' := hSw
       have hc := run_cutS_l (P := Tryz.prog) w' Tryz.underlying29 szU (some ⟨bs, o, none⟩) t.us.length cu (kl := .i64) i1 (by have := HI.out; omega)
       clear hSw
       go_simp
       try with_reducible rfl)
      refine rd1 5 (fun K hK => ?_)
      refine step_apps (base := w2.heap.size) usOk (by decide) rfl _ _ rfl (.slice (some ⟨g0, 0, none⟩) 0 0) (cutS 4 (some ⟨bs, o, none⟩) 0 i cu) 0 i [] ((t.us.take i).flatMap usC) rfl rfl H0.out (HP1.out _ hHeld) (us_one _) (by omega) (by decide) hHeld.size ?_
      intro v5 x5 ho5 hg5
      rw [Nat.zero_add, List.nil_append] at ho5
      obtain ⟨p5, c5, rfl, -, -⟩ := ownsRow_form ho5
      have HX2 := Lib.hid (HX2.out.grown hg5 (ownsRow_ne H0.out HX2.out (by decide)))
      have hb := hHeld.grown hg5 (fun k hk hl => by have := ownsRow_base H0.out k hk; omega)
      have H5 := Lib.hid ho5
      clear ho5 hg5 H0
      show K (Act.put _ (some 25) _) x5
      refine bkm hK hb ?_
      clear hK K hHeld
      have hHeld : Mods (· = q) w2 x5 := hb
      clear hb
      refine rd1 11 (fun K hK => ?_)
      refine step_apps (base := w2.heap.size) usOk (by decide) rfl _ _ rfl (.slice p5 i c5) (cutS 4 (some ⟨bs, o, none⟩) i1 t.us.length cu) i (t.us.length - i1) ((t.us.take i).flatMap usC) ((t.us.drop i1).flatMap usC) rfl rfl H5.out (HP2.out _ hHeld) (us_one _) (by omega) (by decide) hHeld.size ?_
      intro v6 x11 ho6 hg6
      obtain ⟨p6, c6, rfl, -, -⟩ := ownsRow_form ho6
      have HX2 := Lib.hid (HX2.out.grown hg6 (ownsRow_ne H5.out HX2.out (by decide)))
      have hb := hHeld.grown hg6 (fun k hk hl => by have := ownsRow_base H5.out k hk; omega)
      have H6 := Lib.hid ho6
      clear ho6 hg6 H5
      show K (Act.put _ (some 31) _) x11
      refine bkm hK hb ?_
      clear hK K hHeld
      have hHeld : Mods (· = q) w2 x11 := hb
      clear hb
      refine tq 12 32 ?_
      refine rd1 13 (fun K hK => ?_)
      have hx : World.cell? x11 ⟨q, 2, none⟩ = some (.slice (some ⟨bs, o, none⟩) t.us.length cu) := by rw [HX2.out.cell]; rfl
      have hz : World.frozen? x11 ⟨q, 2, none⟩ = false := HX2.out.frozen 2
      go_simp
      have HX3 := Lib.hid (HX2.out.set_ 2 (.slice p6 (i + (t.us.length - i1)) c6))
      have H6s := Lib.hid (ownsRow_mods (S := fun x => x = q) H6.out ((Mods.refl (fun x => x = q) _).setCell (p := ⟨q, 2, none⟩) (fun _ => rfl) (.slice p6 (i + (t.us.length - i1)) c6)) (fun x hx e => ownsRow_ne H6.out HX2.out (by decide) (by rw [hx, e])))
      have hb := hHeld.setCell (p := ⟨q, 2, none⟩) (fun _ => rfl) (.slice p6 (i + (t.us.length - i1)) c6)
      clear hx hz HX2 H6
      generalize World.setCell x11 ⟨q, 2, none⟩ (.slice p6 (i + (t.us.length - i1)) c6) = xF at *
      refine bkm hK hb ?_
      clear hK K hHeld
      have hHeld : Mods (· = q) w2 xF := hb
      clear hb
      refine wpAnyH_done (by kernel_rfl) ?_ _
      refine NoPanic.normal ?_
      go_wp2_with fail
      go_meet
      exact Lib.hid ⟨p6, c6, HX3.out, H6s.out, hHeld⟩
     exact AllReadyH.nil
    refine AllReadyH.cons (o := _) rfl (fun K hK => ?_) ?_
    ·have hx : World.cell? x0 ⟨q, 2, none⟩ = some (.slice (some ⟨bs, o, none⟩) t.us.length cu) := by rw [HX2.out.cell]; rfl
     go_simp
     clear hx
     have hb := hHeld
     refine bkm hK hb ?_
     clear hK K hHeld
     have hHeld : Mods (· = q) w2 x0 := hb
     clear hb
     refine tq 10 30 ?_ (hy := fun w' hSw => by
      have hSw : Mods (· = q) w2 w' := hSw
      have hc := run_cutS_l (P := Tryz.prog) w' Tryz.underlying29 szU (some ⟨bs, o, none⟩) t.us.length cu (kl := .i64) i1 (by have := HI.out; omega)
      clear hSw
      go_simp
      try with_reducible rfl)
     refine rd1 2 (fun K hK => ?_)
     have hx : World.cell? x0 ⟨q, 2, none⟩ = some (.slice (some ⟨bs, o, none⟩) t.us.length cu) := by rw [HX2.out.cell]; rfl
     go_simp
     clear hx
     have hb := hHeld
     refine bkm hK hb ?_
     clear hK K hHeld
     have hHeld : Mods (· = q) w2 x0 := hb
     clear hb
     refine tq 4 24 ?_ (hy := fun w' hSw => by
      have hSw : Mods (· = q) w2 w' := hSw
      have hc := run_cutS_h (P := Tryz.prog) w' Tryz.underlying29 szU (some ⟨bs, o, none⟩) t.us.length cu (kh := .i64) i (by omega)
      clear hSw
      go_simp
      try with_reducible rfl)
     refine rd1 5 (fun K hK => ?_)
     refine step_apps (base := w2.heap.size) usOk (by decide) rfl _ _ rfl (.slice (some ⟨g0, 0, none⟩) 0 0) (cutS 4 (some ⟨bs, o, none⟩) 0 i cu) 0 i [] ((t.us.take i).flatMap usC) rfl rfl H0.out (HP1.out _ hHeld) (us_one _) (by omega) (by decide) hHeld.size ?_
     intro v5 x5 ho5 hg5
     rw [Nat.zero_add, List.nil_append] at ho5
     obtain ⟨p5, c5, rfl, -, -⟩ := ownsRow_form ho5
     have HX2 := Lib.hid (HX2.out.grown hg5 (ownsRow_ne H0.out HX2.out (by decide)))
     have hb := hHeld.grown hg5 (fun k hk hl => by have := ownsRow_base H0.out k hk; omega)
     have H5 := Lib.hid ho5
     clear ho5 hg5 H0
     show K (Act.put _ (some 25) _) x5
     refine bkm hK hb ?_
     clear hK K hHeld
     have hHeld : Mods (· = q) w2 x5 := hb
     clear hb
     refine rd1 11 (fun K hK => ?_)
     refine step_apps (base := w2.heap.size) usOk (by decide) rfl _ _ rfl (.slice p5 i c5) (cutS 4 (some ⟨bs, o, none⟩) i1 t.us.length cu) i (t.us.length - i1) ((t.us.take i).flatMap usC) ((t.us.drop i1).flatMap usC) rfl rfl H5.out (HP2.out _ hHeld) (us_one _) (by omega) (by decide) hHeld.size ?_
     intro v6 x11 ho6 hg6
     obtain ⟨p6, c6, rfl, -, -⟩ := ownsRow_form ho6
     have HX2 := Lib.hid (HX2.out.grown hg6 (ownsRow_ne H5.out HX2.out (by decide)))
     have hb := hHeld.grown hg6 (fun k hk hl => by have := ownsRow_base H5.out k hk; omega)
     have H6 := Lib.hid ho6
     clear ho6 hg6 H5
     show K (Act.put _ (some 31) _) x11
     refine bkm hK hb ?_
     clear hK K hHeld
     have hHeld : Mods (· = q) w2 x11 := hb
     clear hb
     refine tq 12 32 ?_
     refine rd1 13 (fun K hK => ?_)
     have hx : World.cell? x11 ⟨q, 2, none⟩ = some (.slice (some ⟨bs, o, none⟩) t.us.length cu) := by rw [HX2.out.cell]; rfl
     have hz : World.frozen? x11 ⟨q, 2, none⟩ = false := HX2.out.frozen 2
     go_simp
     have HX3 := Lib.hid (HX2.out.set_ 2 (.slice p6 (i + (t.us.length - i1)) c6))
     have H6s := Lib.hid (ownsRow_mods (S := fun x => x = q) H6.out ((Mods.refl (fun x => x = q) _).setCell (p := ⟨q, 2, none⟩) (fun _ => rfl) (.slice p6 (i + (t.us.length - i1)) c6)) (fun x hx e => ownsRow_ne H6.out HX2.out (by decide) (by rw [hx, e])))
     have hb := hHeld.setCell (p := ⟨q, 2, none⟩) (fun _ => rfl) (.slice p6 (i + (t.us.length - i1)) c6)
     clear hx hz HX2 H6
     generalize World.setCell x11 ⟨q, 2, none⟩ (.slice p6 (i + (t.us.length - i1)) c6) = xF at *
     refine bkm hK hb ?_
     clear hK K hHeld
     have hHeld : Mods (· = q) w2 xF := hb
     clear hb
     refine wpAnyH_done (by kernel_rfl) ?_ _
     refine NoPanic.normal ?_
     go_wp2_with fail
     go_meet
     exact Lib.hid ⟨p6, c6, HX3.out, H6s.out, hHeld⟩
    exact AllReadyH.nil
   refine AllReadyH.cons (o := _) rfl (fun K hK => ?_) ?_
   ·have hx : World.cell? xs ⟨q, 2, none⟩ = some (.slice (some ⟨bs, o, none⟩) t.us.length cu) := by rw [HX2.out.cell]; rfl
    go_simp
    clear hx
    have hb := hHeld
    refine bkm hK hb ?_
    clear hK K hHeld
    have hHeld : Mods (· = q) w2 xs := hb
    clear hb
    refine tq 4 24 ?_ (hy := fun w' hSw => by
     have hSw : Mods (· = q) w2 w' := hSw
     have hc := run_cutS_h (P := Tryz.prog) w' Tryz.underlying29 szU (some ⟨bs, o, none⟩) t.us.length cu (kh := .i64) i (by omega)
     clear hSw
     go_simp
     try with_reducible rfl)
    refine wpAnyH_ready (rs := [0, 7]) (by kernel_rfl) (by simp) ?_
    refine AllReadyH.cons (o := _) rfl (fun K hK => ?_) ?_
    ·go_simp
     obtain ⟨g0, hg0⟩ : ∃ z, z = (World.heap xs).size := ⟨_, rfl⟩
     have H0 := Lib.hid (ownsZ (w := xs) (e := 42) (C := 4) hg0 (show w2.heap.size ≤ g0 from by rw [hg0]; exact hHeld.size))
     have HX2 := Lib.hid (HX2.out.alloc (.cells #[] 42))
     have hb := hHeld.alloc (.cells #[] 42)
     rw [← hg0]
     clear hg0
     generalize World.alloc xs (.cells #[] 42) = x0 at *
     refine bkm hK hb ?_
     clear hK K hHeld
     have hHeld : Mods (· = q) w2 x0 := hb
     clear hb
     refine wpAnyH_ready (rs := [5, 7]) (by kernel_rfl) (by simp) ?_
     refine AllReadyH.cons (o := _) rfl (fun K hK => ?_) ?_
     ·refine step_apps (base := w2.heap.size) usOk (by decide) rfl _ _ rfl (.slice (some ⟨g0, 0, none⟩) 0 0) (cutS 4 (some ⟨bs, o, none⟩) 0 i cu) 0 i [] ((t.us.take i).flatMap usC) rfl rfl H0.out (HP1.out _ hHeld) (us_one _) (by omega) (by decide) hHeld.size ?_
      intro v5 x5 ho5 hg5
      rw [Nat.zero_add, List.nil_append] at ho5
      obtain ⟨p5, c5, rfl, -, -⟩ := ownsRow_form ho5
      have HX2 := Lib.hid (HX2.out.grown hg5 (ownsRow_ne H0.out HX2.out (by decide)))
      have hb := hHeld.grown hg5 (fun k hk hl => by have := ownsRow_base H0.out k hk; omega)
      have H5 := Lib.hid ho5
      clear ho5 hg5 H0
      show K (Act.put _ (some 25) _) x5
      refine bkm hK hb ?_
      clear hK K hHeld
      have hHeld : Mods (· = q) w2 x5 := hb
      clear hb
      refine rd1 7 (fun K hK => ?_)
      have hx : World.cell? x5 ⟨q, 2, none⟩ = some (.slice (some ⟨bs, o, none⟩) t.us.length cu) := by rw [HX2.out.cell]; rfl
      go_simp
      clear hx
      have hb := hHeld
      refine bkm hK hb ?_
      clear hK K hHeld
      have hHeld : Mods (· = q) w2 x5 := hb
      clear hb
      refine tq 10 30 ?_ (hy := fun w' hSw => by
       have hSw : Mods (· = q) w2 w' := hSw
       have hc := run_cutS_l (P := Tryz.prog) w' Tryz.underlying29 szU (some ⟨bs, o, none⟩) t.us.length cu (kl := .i64) i1 (by have := HI.out; omega)
       clear hSw
       go_simp
       try with_reducible rfl)
      refine rd1 11 (fun K hK => ?_)
      refine step_apps (base := w2.heap.size) usOk (by decide) rfl _ _ rfl (.slice p5 i c5) (cutS 4 (some ⟨bs, o, none⟩) i1 t.us.length cu) i (t.us.length - i1) ((t.us.take i).flatMap usC) ((t.us.drop i1).flatMap usC) rfl rfl H5.out (HP2.out _ hHeld) (us_one _) (by omega) (by decide) hHeld.size ?_
      intro v6 x11 ho6 hg6
      obtain ⟨p6, c6, rfl, -, -⟩ := ownsRow_form ho6
      have HX2 := Lib.hid (HX2.out.grown hg6 (ownsRow_ne H5.out HX2.out (by decide)))
      have hb := hHeld.grown hg6 (fun k hk hl => by have := ownsRow_base H5.out k hk; omega)
      have H6 := Lib.hid ho6
      clear ho6 hg6 H5
      show K (Act.put _ (some 31) _) x11
      refine bkm hK hb ?_
      clear hK K hHeld
      have hHeld : Mods (· = q) w2 x11 := hb
      clear hb
      refine tq 12 32 ?_
      refine rd1 13 (fun K hK => ?_)
      have hx : World.cell? x11 ⟨q, 2, none⟩ = some (.slice (some ⟨bs, o, none⟩) t.us.length cu) := by rw [HX2.out.cell]; rfl
      have hz : World.frozen? x11 ⟨q, 2, none⟩ = false := HX2.out.frozen 2
      go_simp
      have HX3 := Lib.hid (HX2.out.set_ 2 (.slice p6 (i + (t.us.length - i1)) c6))
      have H6s := Lib.hid (ownsRow_mods (S := fun x => x = q) H6.out ((Mods.refl (fun x => x = q) _).setCell (p := ⟨q, 2, none⟩) (fun _ => rfl) (.slice p6 (i + (t.us.length - i1)) c6)) (fun x hx e => ownsRow_ne H6.out HX2.out (by decide) (by rw [hx, e])))
      have hb := hHeld.setCell (p := ⟨q, 2, none⟩) (fun _ => rfl) (.slice p6 (i + (t.us.length - i1)) c6)
      clear hx hz HX2 H6
      generalize World.setCell x11 ⟨q, 2, none⟩ (.slice p6 (i + (t.us.length - i1)) c6) = xF at *
      refine bkm hK hb ?_
      clear hK K hHeld
      have hHeld : Mods (· = q) w2 xF := hb
      clear hb
      refine wpAnyH_done (by kernel_rfl) ?_ _
      refine NoPanic.normal ?_
      go_wp2_with fail
      go_meet
      exact Lib.hid ⟨p6, c6, HX3.out, H6s.out, hHeld⟩
     refine AllReadyH.cons (o := _) rfl (fun K hK => ?_) ?_
     ·have hx : World.cell? x0 ⟨q, 2, none⟩ = some (.slice (some ⟨bs, o, none⟩) t.us.length cu) := by rw [HX2.out.cell]; rfl
      go_simp
      clear hx
      have hb := hHeld
      refine bkm hK hb ?_
      clear hK K hHeld
      have hHeld : Mods (· = q) w2 x0 := hb
      clear hb
      refine tq 10 30 ?_ (hy := fun w' hSw => by
       have hSw : Mods (· = q) w2 w' := hSw
       have hc := run_cutS_l (P := Tryz.prog) w' Tryz.underlying29 szU (some ⟨bs, o, none⟩) t.us.length cu (kl := .i64) i1 (by have := HI.out; omega)
       clear hSw
       go_simp
       try with_reducible rfl)
      refine rd1 5 (fun K hK => ?_)
      refine step_apps (base := w2.heap.size) usOk (by decide) rfl _ _ rfl (.slice (some ⟨g0, 0, none⟩) 0 0) (cutS 4 (some ⟨bs, o, none⟩) 0 i cu) 0 i [] ((t.us.take i).flatMap usC) rfl rfl H0.out (HP1.out _ hHeld) (us_one _) (by omega) (by decide) hHeld.size ?_
      intro v5 x5 ho5 hg5
      rw [Nat.zero_add, List.nil_append] at ho5
      obtain ⟨p5, c5, rfl, -, -⟩ := ownsRow_form ho5
      have HX2 := Lib.hid (HX2.out.grown hg5 (ownsRow_ne H0.out HX2.out (by decide)))
      have hb := hHeld.grown hg5 (fun k hk hl => by have := ownsRow_base H0.out k hk; omega)
      have H5 := Lib.hid ho5
      clear ho5 hg5 H0
      show K (Act.put _ (some 25) _) x5
      refine bkm hK hb ?_
      clear hK K hHeld
      have hHeld : Mods (· = q) w2 x5 := hb
      clear hb
      refine rd1 11 (fun K hK => ?_)
      refine step_apps (base := w2.heap.size) usOk (by decide) rfl _ _ rfl (.slice p5 i c5) (cutS 4 (some ⟨bs, o, none⟩) i1 t.us.length cu) i (t.us.length - i1) ((t.us.take i).flatMap usC) ((t.us.drop i1).flatMap usC) rfl rfl H5.out (HP2.out _ hHeld) (us_one _) (by omega) (by decide) hHeld.size ?_
      intro v6 x11 ho6 hg6
      obtain ⟨p6, c6, rfl, -, -⟩ := ownsRow_form ho6
      have HX2 := Lib.hid (HX2.out.grown hg6 (ownsRow_ne H5.out HX2.out (by decide)))
      have hb := hHeld.grown hg6 (fun k hk hl => by have := ownsRow_base H5.out k hk; omega)
      have H6 := Lib.hid ho6
      clear ho6 hg6 H5
      show K (Act.put _ (some 31) _) x11
      refine bkm hK hb ?_
      clear hK K hHeld
      have hHeld : Mods (· = q) w2 x11 := hb
      clear hb
      refine tq 12 32 ?_
      refine rd1 13 (fun K hK => ?_)
      have hx : World.cell? x11 ⟨q, 2, none⟩ = some (.slice (some ⟨bs, o, none⟩) t.us.length cu) := by rw [HX2.out.cell]; rfl
      have hz : World.frozen? x11 ⟨q, 2, none⟩ = false := HX2.out.frozen 2
      go_simp
      have HX3 := Lib.hid (HX2.out.set_ 2 (.slice p6 (i + (t.us.length - i1)) c6))
      have H6s := Lib.hid (ownsRow_mods (S := fun x => x = q) H6.out ((Mods.refl (fun x => x = q) _).setCell (p := ⟨q, 2, none⟩) (fun _ => rfl) (.slice p6 (i + (t.us.length - i1)) c6)) (fun x hx e => ownsRow_ne H6.out HX2.out (by decide) (by rw [hx, e])))
      have hb := hHeld.setCell (p := ⟨q, 2, none⟩) (fun _ => rfl) (.slice p6 (i + (t.us.length - i1)) c6)
      clear hx hz HX2 H6
      generalize World.setCell x11 ⟨q, 2, none⟩ (.slice p6 (i + (t.us.length - i1)) c6) = xF at *
      refine bkm hK hb ?_
      clear hK K hHeld
      have hHeld : Mods (· = q) w2 xF := hb
      clear hb
      refine wpAnyH_done (by kernel_rfl) ?_ _
      refine NoPanic.normal ?_
      go_wp2_with fail
      go_meet
      exact Lib.hid ⟨p6, c6, HX3.out, H6s.out, hHeld⟩
     exact AllReadyH.nil
    refine AllReadyH.cons (o := _) rfl (fun K hK => ?_) ?_
    ·have hx : World.cell? xs ⟨q, 2, none⟩ = some (.slice (some ⟨bs, o, none⟩) t.us.length cu) := by rw [HX2.out.cell]; rfl
     go_simp
     clear hx
     have hb := hHeld
     refine bkm hK hb ?_
     clear hK K hHeld
     have hHeld : Mods (· = q) w2 xs := hb
     clear hb
     refine tq 10 30 ?_ (hy := fun w' hSw => by
      have hSw : Mods (· = q) w2 w' := hSw
      have hc := run_cutS_l (P := Tryz.prog) w' Tryz.underlying29 szU (some ⟨bs, o, none⟩) t.us.length cu (kl := .i64) i1 (by have := HI.out; omega)
      clear hSw
      go_simp
      try with_reducible rfl)
     refine rd1 0 (fun K hK => ?_)
     go_simp
     obtain ⟨g0, hg0⟩ : ∃ z, z = (World.heap xs).size := ⟨_, rfl⟩
     have H0 := Lib.hid (ownsZ (w := xs) (e := 42) (C := 4) hg0 (show w2.heap.size ≤ g0 from by rw [hg0]; exact hHeld.size))
     have HX2 := Lib.hid (HX2.out.alloc (.cells #[] 42))
     have hb := hHeld.alloc (.cells #[] 42)
     rw [← hg0]
     clear hg0
     generalize World.alloc xs (.cells #[] 42) = x0 at *
     refine bkm hK hb ?_
     clear hK K hHeld
     have hHeld : Mods (· = q) w2 x0 := hb
     clear hb
     refine rd1 5 (fun K hK => ?_)
     refine step_apps (base := w2.heap.size) usOk (by decide) rfl _ _ rfl (.slice (some ⟨g0, 0, none⟩) 0 0) (cutS 4 (some ⟨bs, o, none⟩) 0 i cu) 0 i [] ((t.us.take i).flatMap usC) rfl rfl H0.out (HP1.out _ hHeld) (us_one _) (by omega) (by decide) hHeld.size ?_
     intro v5 x5 ho5 hg5
     rw [Nat.zero_add, List.nil_append] at ho5
     obtain ⟨p5, c5, rfl, -, -⟩ := ownsRow_form ho5
     have HX2 := Lib.hid (HX2.out.grown hg5 (ownsRow_ne H0.out HX2.out (by decide)))
     have hb := hHeld.grown hg5 (fun k hk hl => by have := ownsRow_base H0.out k hk; omega)
     have H5 := Lib.hid ho5
     clear ho5 hg5 H0
     show K (Act.put _ (some 25) _) x5
     refine bkm hK hb ?_
     clear hK K hHeld
     have hHeld : Mods (· = q) w2 x5 := hb
     clear hb
     refine rd1 11 (fun K hK => ?_)
     refine step_apps (base := w2.heap.size) usOk (by decide) rfl _ _ rfl (.slice p5 i c5) (cutS 4 (some ⟨bs, o, none⟩) i1 t.us.length cu) i (t.us.length - i1) ((t.us.take i).flatMap usC) ((t.us.drop i1).flatMap usC) rfl rfl H5.out (HP2.out _ hHeld) (us_one _) (by omega) (by decide) hHeld.size ?_
     intro v6 x11 ho6 hg6
     obtain ⟨p6, c6, rfl, -, -⟩ := ownsRow_form ho6
     have HX2 := Lib.hid (HX2.out.grown hg6 (ownsRow_ne H5.out HX2.out (by decide)))
     have hb := hHeld.grown hg6 (fun k hk hl => by have := ownsRow_base H5.out k hk; omega)
     have H6 := Lib.hid ho6
     clear ho6 hg6 H5
     show K (Act.put _ (some 31) _) x11
     refine bkm hK hb ?_
     clear hK K hHeld
     have hHeld : Mods (· = q) w2 x11 := hb
     clear hb
     refine tq 12 32 ?_
     refine rd1 13 (fun K hK => ?_)
     have hx : World.cell? x11 ⟨q, 2, none⟩ = some (.slice (some ⟨bs, o, none⟩) t.us.length cu) := by rw [HX2.out.cell]; rfl
     have hz : World.frozen? x11 ⟨q, 2, none⟩ = false := HX2.out.frozen 2
     go_simp
     have HX3 := Lib.hid (HX2.out.set_ 2 (.slice p6 (i + (t.us.length - i1)) c6))
     have H6s := Lib.hid (ownsRow_mods (S := fun x => x = q) H6.out ((Mods.refl (fun x => x = q) _).setCell (p := ⟨q, 2, none⟩) (fun _ => rfl) (.slice p6 (i + (t.us.length - i1)) c6)) (fun x hx e => ownsRow_ne H6.out HX2.out (by decide) (by rw [hx, e])))
     have hb := hHeld.setCell (p := ⟨q, 2, none⟩) (fun _ => rfl) (.slice p6 (i + (t.us.length - i1)) c6)
     clear hx hz HX2 H6
     generalize World.setCell x11 ⟨q, 2, none⟩ (.slice p6 (i + (t.us.length - i1)) c6) = xF at *
     refine bkm hK hb ?_
     clear hK K hHeld
     have hHeld : Mods (· = q) w2 xF := hb
     clear hb
     refine wpAnyH_done (by kernel_rfl) ?_ _
     refine NoPanic.normal ?_
     go_wp2_with fail
     go_meet
     exact Lib.hid ⟨p6, c6, HX3.out, H6s.out, hHeld⟩
    exact AllReadyH.nil
   refine AllReadyH.cons (o := _) rfl (fun K hK => ?_) ?_
   ·have hx : World.cell? xs ⟨q, 2, none⟩ = some (.slice (some ⟨bs, o, none⟩) t.us.length cu) := by rw [HX2.out.cell]; rfl
    go_simp
    clear hx
    have hb := hHeld
    refine bkm hK hb ?_
    clear hK K hHeld
    have hHeld : Mods (· = q) w2 xs := hb
    clear hb
    refine tq 10 30 ?_ (hy := fun w' hSw => by
     have hSw : Mods (· = q) w2 w' := hSw
     have hc := run_cutS_l (P := Tryz.prog) w' Tryz.underlying29 szU (some ⟨bs, o, none⟩) t.us.length cu (kl := .i64) i1 (by have := HI.out; omega)
     clear hSw
     go_simp
     try with_reducible rfl)
    refine wpAnyH_ready (rs := [0, 2]) (by kernel_rfl) (by simp) ?_
    refine AllReadyH.cons (o := _) rfl (fun K hK => ?_) ?_
    ·go_simp
     obtain ⟨g0, hg0⟩ : ∃ z, z = (World.heap xs).size := ⟨_, rfl⟩
     have H0 := Lib.hid (ownsZ (w := xs) (e := 42) (C := 4) hg0 (show w2.heap.size ≤ g0 from by rw [hg0]; exact hHeld.size))
     have HX2 := Lib.hid (HX2.out.alloc (.cells #[] 42))
     have hb := hHeld.alloc (.cells #[] 42)
     rw [← hg0]
     clear hg0
     generalize World.alloc xs (.cells #[] 42) = x0 at *
     refine bkm hK hb ?_
     clear hK K hHeld
     have hHeld : Mods (· = q) w2 x0 := hb
     clear hb
     refine rd1 2 (fun K hK => ?_)
     have hx : World.cell? x0 ⟨q, 2, none⟩ = some (.slice (some ⟨bs, o, none⟩) t.us.length cu) := by rw [HX2.out.cell]; rfl
     go_simp
     clear hx
     have hb := hHeld
     refine bkm hK hb ?_
     clear hK K hHeld
     have hHeld : Mods (· = q) w2 x0 := hb
     clear hb
     refine tq 4 24 ?_ (hy := fun w' hSw => by
      have hSw : Mods (· = q) w2 w' := hSw
      have hc := run_cutS_h (P := Tryz.prog) w' Tryz.underlying29 szU (some ⟨bs, o, none⟩) t.us.length cu (kh := .i64) i (by omega)
      clear hSw
      go_simp
      try with_reducible rfl)
     refine rd1 5 (fun K hK => ?_)
     refine step_apps (base := w2.heap.size) usOk (by decide) rfl _ _ rfl (.slice (some ⟨g0, 0, none⟩) 0 0) (cutS 4 (some ⟨bs, o, none⟩) 0 i cu) 0 i [] ((t.us.take i).flatMap usC) rfl rfl H0.out (HP1.out _ hHeld) (us_one _) (by omega) (by decide) hHeld.size ?_
     intro v5 x5 ho5 hg5
     rw [Nat.zero_add, List.nil_append] at ho5
     obtain ⟨p5, c5, rfl, -, -⟩ := ownsRow_form ho5
     have HX2 := Lib.hid (HX2.out.grown hg5 (ownsRow_ne H0.out HX2.out (by decide)))
     have hb := hHeld.grown hg5 (fun k hk hl => by have := ownsRow_base H0.out k hk; omega)
     have H5 := Lib.hid ho5
     clear ho5 hg5 H0
     show K (Act.put _ (some 25) _) x5
     refine bkm hK hb ?_
     clear hK K hHeld
     have hHeld : Mods (· = q) w2 x5 := hb
     clear hb
     refine rd1 11 (fun K hK => ?_)
     refine step_apps (base := w2.heap.size) usOk (by decide) rfl _ _ rfl (.slice p5 i c5) (cutS 4 (some ⟨bs, o, none⟩) i1 t.us.length cu) i (t.us.length - i1) ((t.us.take i).flatMap usC) ((t.us.drop i1).flatMap usC) rfl rfl H5.out (HP2.out _ hHeld) (us_one _) (by omega) (by decide) hHeld.size ?_
     intro v6 x11 ho6 hg6
     obtain ⟨p6, c6, rfl, -, -⟩ := ownsRow_form ho6
     have HX2 := Lib.hid (HX2.out.grown hg6 (ownsRow_ne H5.out HX2.out (by decide)))
     have hb := hHeld.grown hg6 (fun k hk hl => by have := ownsRow_base H5.out k hk; omega)
     have H6 := Lib.hid ho6
     clear ho6 hg6 H5
     show K (Act.put _ (some 31) _) x11
     refine bkm hK hb ?_
     clear hK K hHeld
     have hHeld : Mods (· = q) w2 x11 := hb
     clear hb
     refine tq 12 32 ?_
     refine rd1 13 (fun K hK => ?_)
     have hx : World.cell? x11 ⟨q, 2, none⟩ = some (.slice (some ⟨bs, o, none⟩) t.us.length cu) := by rw [HX2.out.cell]; rfl
     have hz : World.frozen? x11 ⟨q, 2, none⟩ = false := HX2.out.frozen 2
     go_simp
     have HX3 := Lib.hid (HX2.out.set_ 2 (.slice p6 (i + (t.us.length - i1)) c6))
     have H6s := Lib.hid (ownsRow_mods (S := fun x => x = q) H6.out ((Mods.refl (fun x => x = q) _).setCell (p := ⟨q, 2, none⟩) (fun _ => rfl) (.slice p6 (i + (t.us.length - i1)) c6)) (fun x hx e => ownsRow_ne H6.out HX2.out (by decide) (by rw [hx, e])))
     have hb := hHeld.setCell (p := ⟨q, 2, none⟩) (fun _ => rfl) (.slice p6 (i + (t.us.length - i1)) c6)
     clear hx hz HX2 H6
     generalize World.setCell x11 ⟨q, 2, none⟩ (.slice p6 (i + (t.us.length - i1)) c6) = xF at *
     refine bkm hK hb ?_
     clear hK K hHeld
     have hHeld : Mods (· = q) w2 xF := hb
     clear hb
     refine wpAnyH_done (by kernel_rfl) ?_ _
     refine NoPanic.normal ?_
     go_wp2_with fail
     go_meet
     exact Lib.hid ⟨p6, c6, HX3.out, H6s.out, hHeld⟩
    refine AllReadyH.cons (o := _) rfl (fun K hK => ?_) ?_
    ·have hx : World.cell? xs ⟨q, 2, none⟩ = some (.slice (some ⟨bs, o, none⟩) t.us.length cu) := by rw [HX2.out.cell]; rfl
     go_simp
     clear hx
     have hb := hHeld
     refine bkm hK hb ?_
     clear hK K hHeld
     have hHeld : Mods (· = q) w2 xs := hb
     clear hb
     refine tq 4 24 ?_ (hy := fun w' hSw => by
      have hSw : Mods (· = q) w2 w' := hSw
      have hc := run_cutS_h (P := Tryz.prog) w' Tryz.underlying29 szU (some ⟨bs, o, none⟩) t.us.length cu (kh := .i64) i (by omega)
      clear hSw
      go_simp
      try with_reducible rfl)
     refine rd1 0 (fun K hK => ?_)
     go_simp
     obtain ⟨g0, hg0⟩ : ∃ z, z = (World.heap xs).size := ⟨_, rfl⟩
     have H0 := Lib.hid (ownsZ (w := xs) (e := 42) (C := 4) hg0 (show w2.heap.size ≤ g0 from by rw [hg0]; exact hHeld.size))
     have HX2 := Lib.hid (HX2.out.alloc (.cells #[] 42))
     have hb := hHeld.alloc (.cells #[] 42)
     rw [← hg0]
     clear hg0
     generalize World.alloc xs (.cells #[] 42) = x0 at *
     refine bkm hK hb ?_
     clear hK K hHeld
     have hHeld : Mods (· = q) w2 x0 := hb
     clear hb
     refine rd1 5 (fun K hK => ?_)
     refine step_apps (base := w2.heap.size) usOk (by decide) rfl _ _ rfl (.slice (some ⟨g0, 0, none⟩) 0 0) (cutS 4 (some ⟨bs, o, none⟩) 0 i cu) 0 i [] ((t.us.take i).flatMap usC) rfl rfl H0.out (HP1.out _ hHeld) (us_one _) (by omega) (by decide) hHeld.size ?_
     intro v5 x5 ho5 hg5
     rw [Nat.zero_add, List.nil_append] at ho5
     obtain ⟨p5, c5, rfl, -, -⟩ := ownsRow_form ho5
     have HX2 := Lib.hid (HX2.out.grown hg5 (ownsRow_ne H0.out HX2.out (by decide)))
     have hb := hHeld.grown hg5 (fun k hk hl => by have := ownsRow_base H0.out k hk; omega)
     have H5 := Lib.hid ho5
     clear ho5 hg5 H0
     show K (Act.put _ (some 25) _) x5
     refine bkm hK hb ?_
     clear hK K hHeld
     have hHeld : Mods (· = q) w2 x5 := hb
     clear hb
     refine rd1 11 (fun K hK => ?_)
     refine step_apps (base := w2.heap.size) usOk (by decide) rfl _ _ rfl (.slice p5 i c5) (cutS 4 (some ⟨bs, o, none⟩) i1 t.us.length cu) i (t.us.length - i1) ((t.us.take i).flatMap usC) ((t.us.drop i1).flatMap usC) rfl rfl H5.out (HP2.out _ hHeld) (us_one _) (by omega) (by decide) hHeld.size ?_
     intro v6 x11 ho6 hg6
     obtain ⟨p6, c6, rfl, -, -⟩ := ownsRow_form ho6
     have HX2 := Lib.hid (HX2.out.grown hg6 (ownsRow_ne H5.out HX2.out (by decide)))
     have hb := hHeld.grown hg6 (fun k hk hl => by have := ownsRow_base H5.out k hk; omega)
     have H6 := Lib.hid ho6
     clear ho6 hg6 H5
     show K (Act.put _ (some 31) _) x11
     refine bkm hK hb ?_
     clear hK K hHeld
     have hHeld : Mods (· = q) w2 x11 := hb
     clear hb
     refine tq 12 32 ?_
     refine rd1 13 (fun K hK => ?_)
     have hx : World.cell? x11 ⟨q, 2, none⟩ = some (.slice (some ⟨bs, o, none⟩) t.us.length cu) := by rw [HX2.out.cell]; rfl
     have hz : World.frozen? x11 ⟨q, 2, none⟩ = false := HX2.out.frozen 2
     go_simp
     have HX3 := Lib.hid (HX2.out.set_ 2 (.slice p6 (i + (t.us.length - i1)) c6))
     have H6s := Lib.hid (ownsRow_mods (S := fun x => x = q) H6.out ((Mods.refl (fun x => x = q) _).setCell (p := ⟨q, 2, none⟩) (fun _ => rfl) (.slice p6 (i + (t.us.length - i1)) c6)) (fun x hx e => ownsRow_ne H6.out HX2.out (by decide) (by rw [hx, e])))
     have hb := hHeld.setCell (p := ⟨q, 2, none⟩) (fun _ => rfl) (.slice p6 (i + (t.us.length - i1)) c6)
     clear hx hz HX2 H6
     generalize World.setCell x11 ⟨q, 2, none⟩ (.slice p6 (i + (t.us.length - i1)) c6) = xF at *
     refine bkm hK hb ?_
     clear hK K hHeld
     have hHeld : Mods (· = q) w2 xF := hb
     clear hb
     refine wpAnyH_done (by kernel_rfl) ?_ _
     refine NoPanic.normal ?_
     go_wp2_with fail
     go_meet
     exact Lib.hid ⟨p6, c6, HX3.out, H6s.out, hHeld⟩
    exact AllReadyH.nil
   exact AllReadyH.nil
  case rest =>
  obtain ⟨pz, cz, hb3, ho3, hm3⟩ := hcut.out
  obtain ⟨w3, rfl⟩ : ∃ z : World, z = wc := ⟨_, rfl⟩
  have HT3 := Lib.hid (HT2.out.blk hm3 HB2.out (by decide))
  have HG3 := Lib.hid (HG2.out.mods hm3 (fun e => by omega))
  have HB3 := Lib.hid hb3
  have HO3 := Lib.hid ho3
  have HK3 := Lib.hid (hm3.keeps HK2.out (fun x hx => by rw [hx, ← HQ.out]; omega))
  clear hcut hb3 ho3 hm3 HB2 HG2 HT2 HP1 HP2
  obtain ⟨nz, hnz⟩ : ∃ z, z = i + (t.us.length - i1) := ⟨_, rfl⟩
  rw [← hnz] at HB3 HO3
  have HNZ := Lib.hid hnz
  clear hnz hw1
  go_wp2_with (first
   |refine wpList_ld rfl rtM HB3.out _ rfl rfl ?_
   |(refine wpList_st (ds := #[.string (bstr t.dom), .int .i64 t.next, .slice pz nz cz, .slice pa L.length ca, .int .i64 un, .int .i64 0]) rfl gotM HG3.out rfl (by simp [Value.oneCell']) _ _ rfl rfl rfl rfl ?_; intro w4 hB4 hM4; have HLd := Lib.hid (ld_run (P := Tryz.prog) gotM hB4); have HM4 := Lib.hid hM4; clear hB4 hM4))
  refine bodyPost_ret (v := .agg #[.string (bstr t.dom), .int .i64 t.next, .slice pz nz cz, .slice pa L.length ca, .int .i64 un, .int .i64 0]) (by simp [results, Tryz.results41, Sem.run_bind, Sem.run_pure, Result.andThen_ok, Act.put, asAddr, HLd.out]) rfl ?_
  have hk4 : Keeps w w4 := HM4.out.keeps HK3.out (fun x hx => by rw [hx, ← HQ.out]; omega)
  have ho4 : w4.ownsRow w2.heap.size 42 4 (.slice pz nz cz) nz ((t.us.take i).flatMap usC ++ (t.us.drop i1).flatMap usC) := ownsRow_mods HO3.out HM4.out (fun x hx e => ownsRow_ne HO3.out HG3.out (by decide) (by rw [hx, e]))
  have hT4 := HT3.out.blk HM4.out HG3.out (by decide)
  rw [HX.out]
  refine ⟨_, _, L, rfl, ⟨?_, hT4.al, hT4.alm, hT4.pay⟩, hk4⟩
  have e1 : (t.us.take i ++ t.us.drop (i + 1)).length = nz := by rw [HNZ.out, HI.out]; simp; omega
  show w4.ownsRow 0 42 4 _ (t.us.take i ++ t.us.drop (i + 1)).length ((t.us.take i ++ t.us.drop (i + 1)).flatMap usC)
  rw [e1, List.flatMap_append, ← HI.out]
  exact ownsRow_low ho4
end Usr
end Go.Proofs.YtklbemkafdccgaaGreat

/- Several texts in one: FrameRefAt, FrameRefRow. -/
import Derived.Test.YtkbibhlfehamgaaK17
import Derived.Test.YtkbibhlfehamgaaFrameRef
import Derived.Test.YtkbibhlfehamgaaK02
import Derived.Test.YtkbibhlfehamgaaDrawn
import Derived.Deep.CutBlock
import Derived.Test.YtkbibhlfehamgaaK20
/- The reference's At. -/
namespace Go.Proofs.Ytkbibhlfehamgaa
open Go.RowKit

/-- v[lo:] of a slice that has n elements -/
theorem Piece.cutC {w : World} {base : Nat} {e : TypeId} {l : List Value} {p : Option Addr} {n cap lo : Nat} (h : Piece w base e (.slice p n cap) l) (hn : n = l.length) (hlo : lo ≤ n) : Piece w base e (cutv p lo n cap) (l.drop lo) := by
 subst hn
 rcases h with ⟨a0, cap', hv, rfl, h3, h4⟩ | ⟨g, off, cap', cs, fr, hv, h0, h1, h2, h3, h4, h5⟩
 ·simp at hlo
  subst hlo
  simp only [Value.slice.injEq] at hv
  obtain ⟨rfl, -, rfl⟩ := hv
  refine .inl ⟨_, cap - 0, by simp only [cutv, List.length_nil]; rfl, by simp, h3, fun h => ?_⟩
  by_cases hc : cap = 0
  ·omega
  ·rw [if_neg hc] at h
   have : p = none := by cases p with
    | none => rfl
    | some a => simp at h
   have := h4 this
   omega
 ·simp only [Value.slice.injEq] at hv
  obtain ⟨rfl, -, rfl⟩ := hv
  by_cases he : lo = l.length
  ·subst he
   refine .inl ⟨_, cap - l.length, by simp only [cutv, Nat.sub_self]; rfl, by simp, by omega, fun h => ?_⟩
   split at h <;> simp at h
  ·have hlt : lo < l.length := by omega
   refine .inr ⟨g, off + lo, cap - lo, cs, fr, ?_, by simp; omega, h1, by simp; omega, by omega, h4, fun i x hx => ?_⟩
   ·have : ¬ cap = lo := fun e => by omega
    simp [cutv, this, Go.WideShapes.add_plain]
   ·rw [Nat.add_assoc]
    exact h5 (lo + i) x (by simpa using hx)

namespace Frm
open Oct

set_option maxRecDepth 100000 in
set_option maxHeartbeats 8000000 in
theorem rAt_any (v : Value) (l : List UInt8) (a : Int) (w : World) (hr : Row w v (l.map u8v)) (hl : l.length ≤ 70368744177664) : Calls Try.prog 44 #[v, .int .i64 a] w (AtDid w (atF l a) (atE l a)) := by
 by_cases h1 : a < 0 ∨ (l.length : Int) < a
 ·have HX := Lib.hid (fun w' (hk : Keeps w w') => at_fail (W := w) (l := l) (a := a) (n := 1) (by simp [atE, h1]) (by decide) hk)
  obtain ⟨p, cap, rfl, hc1, hc2⟩ := hr.formB
  have h1' : a < 0 ∨ (0 ≤ a ∧ (l.length : Int) < a) := by omega
  clear h1
  rcases h1' with h | ⟨h, h'⟩
  all_goals
   go_enter Try.func44, Try.ntmps44
   go_wp2_with fail
   exact bodyPost_ret (v := .tuple #[.agg #[.int .i64 0, .int .i64 0, .int .i64 0, .slice none 0 0], .int .i64 1]) (by simp [results, Try.results44, go_sem]) rfl (HX.out _ ((Keeps.refl _).alloc _))
 obtain ⟨n, rfl⟩ := Int.eq_ofNat_of_zero_le (show 0 ≤ a by omega)
 have hn : n ≤ l.length := by omega
 have hd1 : decide ((n : Int) < 0) = false := by simp
 have hd2 : decide (l.length < n) = false := by simp; omega
 by_cases h2 : n = l.length
 ·have HX := Lib.hid (fun w' (hk : Keeps w w') => at_fail (W := w) (l := l) (a := n) (n := 2) (by rw [atE, if_neg h1, Int.toNat_natCast, h2, List.drop_length]) (by decide) hk)
  obtain ⟨p, cap, rfl, hc1, hc2⟩ := hr.formB
  have he : ((n : Int) == (l.length : Int)) = true := by simp [h2]
  clear h1 h2
  go_enter Try.func44, Try.ntmps44
  go_wp2_with fail
  exact bodyPost_ret (v := .tuple #[.agg #[.int .i64 0, .int .i64 0, .int .i64 0, .slice none 0 0], .int .i64 2]) (by simp [results, Try.results44, go_sem]) rfl (HX.out _ ((Keeps.refl _).alloc _))
 have hlt : n < l.length := by omega
 have he : ((n : Int) == (l.length : Int)) = false := by rw [beq_eq_false_iff_ne]; omega
 have hatE : atE l n = if l[n] ≠ 80 then 3 else (inner (l.drop (n + 1))).1 := by
  rw [atE, if_neg h1, Int.toNat_natCast, drop_cons' hlt]
 have hatF : atE l n = 0 → atF l n = ⟨n, 1 + (inner (l.drop (n + 1))).2.2, ((inner (l.drop (n + 1))).2.1.headD 0).toNat, (inner (l.drop (n + 1))).2.1.drop 9⟩ := fun h => by
  rw [atF, if_pos h, Int.toNat_natCast, drop_cons' hlt]
 obtain ⟨b, off, cap, rfl, hc1, hc2, HC⟩ := hr.bytesAt (by omega)
 have hcell : w.cell? ⟨b, off + n, none⟩ = some (.int .u8 (l[n].toNat : Int)) := HC.out n _ (by simp [hlt])
 have hbl := lt_of_cell hcell
 clear h1 h2
 by_cases h80 : l[n] ≠ 80
 ·have HX := Lib.hid (fun w' (hk : Keeps w w') => at_fail (W := w) (l := l) (a := n) (n := 3) (by rw [hatE, if_pos h80]) (by decide) hk)
  have hx : ((l[n].toNat : Int) != 80) = true := by
   have h2 : l[n].toNat ≠ 80 := fun h => h80 (UInt8.toNat_inj.1 h)
   rw [bne_iff_ne]; omega
  have hxl := l[n].toNat_lt
  clear hatE hatF h80
  generalize l[n] = x at *
  go_enter Try.func44, Try.ntmps44
  go_wp2_with fail
  exact bodyPost_ret (v := .tuple #[.agg #[.int .i64 0, .int .i64 0, .int .i64 0, .slice none 0 0], .int .i64 3]) (by simp [results, Try.results44, go_sem]) rfl (HX.out _ ((Keeps.refl _).alloc _))
 have h80 : l[n] = 80 := Classical.not_not.1 h80
 have hdn : l.drop n = 80 :: l.drop (n + 1) := by rw [drop_cons' hlt, h80]
 rw [if_neg (by simp [h80])] at hatE
 rw [h80] at hcell
 have hcell' : w.cell? ⟨b, off + n, none⟩ = some (.int .u8 80) := hcell
 have HEF := Lib.hid (And.intro hatE hatF)
 have HR := Lib.hid hr
 clear hcell hatE hatF h80 hr HC
 have hrl : (l.drop (n + 1)).length = l.length - (n + 1) := List.length_drop
 generalize hrr : l.drop (n + 1) = r at *
 have HRR := Lib.hid (And.intro hrr hdn)
 clear hrr hdn
 -- any error from here on
 have HErr : Hid (∀ er w', er ≠ 0 → (inner r).1 = er → Keeps w w' → AtDid w (atF l n) (atE l n) (.returned (.tuple #[.agg #[.int .i64 0, .int .i64 0, .int .i64 0, .slice none 0 0], .int .i64 er])) w') := Lib.hid (fun er w' hne h hk => by
  exact at_fail (n := er) (by rw [HEF.out.1, h]) hne hk)
 go_enter Try.func44, Try.ntmps44
 go_wp2_with fail
 generalize hW1 : World.alloc w (.cells #[.int .i64 0, .int .i64 0, .int .i64 0, .slice none 0 0] 53) = w1
 have hK1 : Keeps w w1 := by rw [← hW1]; exact (Keeps.refl _).alloc _
 have hF1 : Blk w1 w.heap.size 53 #[.int .i64 0, .int .i64 0, .int .i64 0, .slice none 0 0] := by rw [← hW1]; exact Blk.new _ _ _ rfl
 have hsz1 : w1.heap.size = w.heap.size + 1 := by rw [← hW1]; simp
 have HF1 := Lib.hid hF1
 have HK1 := Lib.hid hK1
 clear hW1 hF1 hK1 hcell' hbl
 generalize hF : w.heap.size = F at *
 have HF := Lib.hid hF
 have hFge : w.heap.size ≤ F := by omega
 clear hF
 have hFcells : ∀ w', Keeps w1 w' → (w'.cell? ⟨F, 0, none⟩ = some (.int .i64 0) ∧ w'.cell? ⟨F, 1, none⟩ = some (.int .i64 0) ∧ w'.cell? ⟨F, 2, none⟩ = some (.int .i64 0) ∧ w'.cell? ⟨F, 3, none⟩ = some (.slice none 0 0)) ∧ (w'.frozen? ⟨F, 0, none⟩ = false ∧ w'.frozen? ⟨F, 1, none⟩ = false ∧ w'.frozen? ⟨F, 2, none⟩ = false ∧ w'.frozen? ⟨F, 3, none⟩ = false) := fun w' k => by
  have h := HF1.out.keeps k
  exact ⟨⟨by rw [h.cell]; rfl, by rw [h.cell]; rfl, by rw [h.cell]; rfl, by rw [h.cell]; rfl⟩, h.frozen 0, h.frozen 1, h.frozen 2, h.frozen 3⟩
 have HFC := Lib.hid hFcells
 clear hFcells
 go_loopw [6, 7, 8] (fun kv av nv wr => ∃ (u : Nat) (o : List UInt8), kv = .int .i64 ((n : Int) + 1 + (u : Nat)) ∧ nv = .int .i64 (ndI o : Nat) ∧ Own wr (F + 1) 5 av (o.map u8v) ∧ rdN o.length r = (0, o, u) ∧ (5 < o.length → headN o ≤ 65536 ∧ o.length ≤ 9 + headN o) ∧ Keeps w1 wr) (fun kv _ _ _ => l.length + 1 - (intOf kv).toNat)
 case atStart => exact ⟨0, [], by simp, by simp [ndI], Own.nil _ _ _, rfl, by simp, Keeps.refl _⟩
 case round =>
  obtain ⟨u, o, rfl, rfl, hown, hrd, h6, hK⟩ := hrel
  have hu : u ≤ r.length := by have := rdN_used (k := o.length) (r := r) (by rw [hrd]); rw [hrd] at this; exact this
  have hnd : ndI o ≤ 65545 := by
   unfold ndI; split
   ·omega
   ·rename_i h; have := h6 (by omega); omega
  have hKw := HK1.out.trans hK
  obtain ⟨po, co, rfl, hco1, hco2⟩ := hown.row.formB
  have HO := Lib.hid hown
  have HRD := Lib.hid hrd
  have H6 := Lib.hid h6
  have hD : Hid (r.drop u = l.drop (n + 1 + u)) := Lib.hid (by rw [← HRR.out.1, List.drop_drop])
  clear hown hrd h6
  have hsz := hK.size
  by_cases hex : ndI o ≤ o.length
  ·have hlO : o.length = 9 + headN o := by
    by_cases h7 : o.length ≤ 5
    ·unfold ndI at hex; rw [if_pos h7] at hex; omega
    ·have h8 := H6.out (by omega)
     unfold ndI at hex; rw [if_neg h7] at hex; omega
   have hN6 : headN o ≤ 65536 := (H6.out (by omega)).1
   have hge : (ndI o : Int) ≤ (o.length : Int) := by omega
   have hgd : decide ((o.length : Int) < (ndI o : Int)) = false := by simp; omega
   have HIn := Lib.hid (inner_ok HRD.out hlO hN6)
   obtain ⟨x0, hx0⟩ : ∃ x, o[0]? = some x := ⟨o[0]'(by omega), List.getElem?_eq_getElem (by omega)⟩
   have HW := Lib.hid (wrap_same hlO hN6 hx0)
   have HX0 := Lib.hid hx0
   obtain ⟨go, capo, hov, -, -, -⟩ := HO.out.form (by rw [List.length_map]; omega)
   simp only [Value.slice.injEq] at hov
   obtain ⟨rfl, -, rfl⟩ := hov
   have hcx : wr.cell? ⟨go, 0, none⟩ = some (.int .u8 (x0.toNat : Int)) := HO.out.cellAt 0 _ (by rw [List.getElem?_map, hx0]; rfl)
   have hx0l := x0.toNat_lt
   have hgo := lt_of_cell hcx
   have hw2 : IntKind.i64.wrap (x0.toNat : Int) = (x0.toNat : Int) := IntWalk.i64_in _ (by omega)
   have h09 : 9 ≤ o.length := by omega
   have h0o : 0 < o.length := by omega
   have e9 : ∀ w, (Instr.slice 22 (.slice (some ⟨go, 0, none⟩) o.length co) (some (.int .i64 9)) none none).run Try.prog w = .ok (cutv (some ⟨go, 0, none⟩) 9 o.length co) w := fun w => run_cut_l w Try.underlying22 s5 _ o.length co 9 h09
   have hrow9 : ∀ w', Keeps wr w' → Row w' (cutv (some ⟨go, 0, none⟩) 9 o.length co) ((o.drop 9).map u8v) := fun w' hk => by
    have h := (HO.out.keeps hk).row.cut (lo := 9) (hi := o.length) h09 (by rw [List.length_map]; omega)
    rw [List.map_drop]
    rwa [List.take_of_length_le (by rw [List.length_drop, List.length_map]; omega)] at h
   have HR9 := Lib.hid hrow9
   have ec : ∀ w, (Instr.slice 22 (.slice (some ⟨b, off, none⟩) l.length cap) (some (.int .i64 (n : Int))) (some (.int .i64 ((n : Int) + 1 + (u : Int)))) none).run Try.prog w = .ok (cutv (some ⟨b, off, none⟩) n (n + 1 + u) cap) w := fun w => by
    have := run_cut_lh (P := Try.prog) w Try.underlying22 s5 (some ⟨b, off, none⟩) l.length cap (kl := .i64) (kh := .i64) n (n + 1 + u) (by omega) (by omega)
    rwa [show ((n + 1 + u : Nat) : Int) = (n : Int) + 1 + (u : Int) from by omega] at this
   have hcut : ∀ w', Keeps wr w' → Row w' (cutv (some ⟨b, off, none⟩) n (n + 1 + u) cap) ((80 :: veil o).map u8v) := fun w' hk => by
    have h := (HR.out.keeps (hKw.trans hk)).cut (lo := n) (hi := n + 1 + u) (by omega) (by rw [List.length_map]; omega)
    have hv : (l.drop n).take (n + 1 + u - n) = 80 :: veil o := by
     rw [HRR.out.2, show n + 1 + u - n = u + 1 from by omega, List.take_succ_cons]
     have hz := rdN_veil o.length (l := r) (by rw [HRD.out])
     rw [HRD.out] at hz
     have hz2 : u = (veil o).length := hz.2.2
     rw [hz2, take_pre hz.2.1]
    rw [← List.map_drop, ← List.map_take, hv] at h
    exact h
   have HCut := Lib.hid hcut
   have HLO := Lib.hid hlO
   clear hrow9 hcut hx0 hex hlO
   go_upto_region 21 with fail
   refine wp_region_noPanic ?_
   refine wp_region_held_drew (S := fun w' => Keeps (wr) w') (by kernel_rfl) ((Keeps.refl _).drew) (fun _ => ?_)
   have hHeld : Keeps (wr) (wr).drew := (Keeps.refl _).drew
   refine tq 0 71 ?_
   refine tq 1 72 ?_
   refine tq 2 73 ?_ (hy := fun w' hSw => by
    have hSw : Keeps _ w' := hSw
    have hx := keep1 hSw hcx
    clear hSw
    go_simp
    try with_reducible rfl)
   refine tq 3 74 ?_
   refine tq 4 75 ?_
   refine tq 5 76 ?_
   refine rd1 6 (fun K hK => ?_)
   go_simp
   refine (rWrap_any (x0.toNat : Int) (cutv (some ⟨go, 0, none⟩) 9 o.length co) (o.drop 9) _ (HR9.out _ hHeld)).mono ?_
   rintro e w5 ⟨vw, rfl, hownW, hk⟩
   have hb : Keeps _ w5 := hHeld.trans hk
   have HWo := Lib.hid hownW
   have HKb := Lib.hid hb
   clear hownW
   go_wp2_with fail
   refine bk1 hK hb ?_
   clear hK K hHeld hb hk
   intro hHeld
   refine tq 7 70 ?_
   refine tq 8 78 ?_
   refine tq 9 79 ?_
   refine tq 10 12 ?_
   refine tq 11 13 ?_
   refine wpAnyH_done (by kernel_rfl) ?_ _
   refine NoPanic.normal ?_
   clear hHeld
   go_upto_region 22 with fail
   have hb5 := HKb.out.size
   have hsz2w := Nat.le_trans hsz hb5
   by_cases hs : Crc.more 0 (o.take 5 ++ o.drop 9) = getV o 5 4
   ·have hA : wrapL (x0.toNat : Int) (o.drop 9) = 80 :: veil o := HW.out.2 hs
    have HInn : Hid (inner r = (0, o, u)) := Lib.hid (by rw [HIn.out, if_pos hs])
    rw [hA] at HWo
    clear hA hs HIn HW
    refine wp_region_noPanic ?_
    refine wp_region_held_drew (S := fun w' => Keeps (w5) w') (by kernel_rfl) ((Keeps.refl _).drew) (fun _ => ?_)
    have hHeld : Keeps (w5) (w5).drew := (Keeps.refl _).drew
    refine tq 0 80 ?_
    refine tq 1 81 ?_ (hy := fun w' hSw => by
     have hSw : Keeps _ w' := hSw
     have hc := str_at' (HWo.out.row.keeps hSw)
     clear hSw
     go_simp
     try with_reducible rfl)
    refine tq 2 82 ?_
    refine tq 3 83 ?_
    refine tq 4 84 ?_
    refine tq 5 85 ?_
    refine tq 6 86 ?_ (hy := fun w' hSw => by
     have hSw : Keeps _ w' := hSw
     have hc := str_at' (HCut.out _ (HKb.out.trans hSw))
     clear hSw
     go_simp
     try with_reducible rfl)
    refine tq 7 87 ?_
    refine wpAnyH_done (by kernel_rfl) ?_ _
    refine NoPanic.normal ?_
    go_upto_region 24 with fail
    generalize hw6 : World.drew w5 = w6 at *
    have hk6 : Keeps wr w6 := HKb.out.trans hHeld
    clear hw6 hHeld
    have hcx6 := keep1 hk6 hcx
    obtain ⟨⟨hf0, hf1, hf2, hf3⟩, hz0, hz1, hz2, hz3⟩ := HFC.out w6 (hK.trans hk6)
    have hKw6 := hKw.trans hk6
    have HKs := Lib.hid (hK.trans hk6)
    obtain ⟨pz, nz, cz, hpz⟩ : ∃ pz nz cz, cutv (some ⟨go, 0, none⟩) 9 o.length co = .slice pz nz cz := ⟨_, _, _, rfl⟩
    have HPc : Hid (Piece w6 w.heap.size 5 (.slice pz nz cz) ((o.drop 9).map u8v)) := Lib.hid (by
     have h := ((HO.out.keeps hk6).piece.lower (base' := w.heap.size) (by omega)).cutC (lo := 9) (by rw [List.length_map]) h09
     rw [hpz, ← List.map_drop] at h
     exact h)
    rw [hpz] at e9
    have hAr : (n : Int) + 1 + (u : Int) ≤ l.length ∧ (n : Int) ≤ (n : Int) + 1 + (u : Int) := by omega
    have HFin : Hid (atE l n = 0 ∧ atF l n = ⟨n, ((n : Int) + 1 + (u : Int)) - n, (x0.toNat : Int), o.drop 9⟩) := Lib.hid (by
     have h0 : atE l n = 0 := by rw [HEF.out.1, HInn.out]
     refine ⟨h0, ?_⟩
     rw [HEF.out.2 h0, HInn.out]
     have hh : o.headD 0 = x0 := by
      have := HX0.out
      cases o with
      | nil => simp at this
      | cons y O => simp at this; simp [this]
     simp only [Fr1.mk.injEq, hh, and_true, true_and]
     omega)
    clear hpz ec hgd hcx hk6
    generalize (n : Int) + 1 + (u : Int) = A at *
    have hw1 : IntKind.i64.wrap (A - n) = A - n := IntWalk.i64_in _ (by omega)
    have h0' : (0 : Int) < (o.length : Int) := by omega
    go_still_tail 11, (by kernel_rfl)
    change wpList _ _ _ _ _ (World.drew _)
    clear e9 hw1 hw2
    have hMod : Mods (· = F) w6 ((((w6.setCell ⟨F, 0, none⟩ (.int .i64 (n : Int))).setCell ⟨F, 1, none⟩ (.int .i64 (A - n))).setCell ⟨F, 2, none⟩ (.int .i64 (x0.toNat : Int))).setCell ⟨F, 3, none⟩ (.slice pz nz cz)).drew :=
     ((((Mods.setCell (p := ⟨F, 0, none⟩) (Mods.refl (· = F) w6) (fun _ => rfl) _).setCell (p := ⟨F, 1, none⟩) (fun _ => rfl) _).setCell (p := ⟨F, 2, none⟩) (fun _ => rfl) _).setCell (p := ⟨F, 3, none⟩) (fun _ => rfl) _).drew
    have hFty : ∀ x, x = F → ∀ cs fr, w6.heap[x]? ≠ some (.cells cs 5 fr) := by
     rintro x rfl cs fr h
     have := HF1.out.keeps (HKs.out)
     unfold Blk at this
     rw [this] at h
     simp at h
    have HPF := Lib.hid (HPc.out.modsT hMod hFty)
    have HKF := Lib.hid (hMod.keeps hKw6 (fun x hx => by rw [hx]; exact hFge))
    clear hMod hFty
    go_wp2_with fail
    refine bodyPost_ret (v := .tuple #[.agg #[.int .i64 (n : Int), .int .i64 (A - n), .int .i64 (x0.toNat : Int), .slice pz nz cz], .int .i64 0]) (by simp [results, Try.results44, go_sem, hf0, hf1, hf2, hf3]) rfl ?_
    exact ⟨.slice pz nz cz, by rw [HFin.out.1, HFin.out.2]; rfl, by rw [HFin.out.2]; exact HPF.out, HKF.out⟩
   ·have hA : bstr (wrapL (x0.toNat : Int) (o.drop 9)) ≠ bstr (80 :: veil o) := fun h => hs (HW.out.1 (bstr_inj.1 h))
    have HX := Lib.hid (fun w' (hk : Keeps w w') => HErr.out 5 w' (by decide) (by rw [HIn.out, if_neg hs]) hk)
    have hKx := hKw.trans HKb.out
    generalize wrapL (x0.toNat : Int) (o.drop 9) = A at *
    generalize 80 :: veil o = B at *
    have hA2 : ¬ A = B := fun h => hA (by rw [h])
    have hA3 : (A == B) = false := by rw [beq_eq_false_iff_ne]; exact hA2
    have bt := bstr_toList
    clear hA
    clear hs HIn HW
    refine wp_region_noPanic ?_
    refine wp_region_held_drew (S := fun w' => Keeps (w5) w') (by kernel_rfl) ((Keeps.refl _).drew) (fun _ => ?_)
    have hHeld : Keeps (w5) (w5).drew := (Keeps.refl _).drew
    refine tq 0 80 ?_
    refine tq 1 81 ?_ (hy := fun w' hSw => by
     have hSw : Keeps _ w' := hSw
     have hc := str_at' (HWo.out.row.keeps hSw)
     clear hSw
     go_simp
     try with_reducible rfl)
    refine tq 2 82 ?_
    refine tq 3 83 ?_
    refine tq 4 84 ?_
    refine tq 5 85 ?_
    refine tq 6 86 ?_ (hy := fun w' hSw => by
     have hSw : Keeps _ w' := hSw
     have hc := str_at' (HCut.out _ (HKb.out.trans hSw))
     clear hSw
     go_simp
     try with_reducible rfl)
    refine tq 7 87 ?_
    refine wpAnyH_done (by kernel_rfl) ?_ _
    refine NoPanic.normal ?_
    obtain ⟨⟨hf0, hf1, hf2, hf3⟩, hz0, hz1, hz2, hz3⟩ := HFC.out w5 (hK.trans HKb.out)
    clear hHeld
    go_wp2_with fail
    exact bodyPost_ret (v := .tuple #[.agg #[.int .i64 0, .int .i64 0, .int .i64 0, .slice none 0 0], .int .i64 5]) (by simp [results, Try.results44, go_sem, hf0, hf1, hf2, hf3]) rfl (HX.out _ (by repeat (first | assumption | exact Keeps.refl _ | refine Keeps.setCell ?_ (by first | exact hFge | (simp; omega)) _ | refine Keeps.drewN ?_ _ | refine Keeps.drew ?_ | refine Keeps.alloc ?_ _)))
    
  ·have hlt2 : (o.length : Int) < (ndI o : Int) := by omega
   have hcn : n + 1 + u ≤ l.length := by omega
   have C1 := Lib.hid (fun w' (k : Keeps wr w') => rread_any (.slice (some ⟨b, off, none⟩) l.length cap) l (n + 1 + u) w' (HR.out.keeps (hKw.trans k)) hl hcn)
   rw [← hD.out, show ((n + 1 + u : Nat) : Int) = (n : Int) + 1 + (u : Int) from by omega] at C1
   by_cases h5 : o.length = 5
   ·have hf5 : ((o.length : Int) == 5) = true := by rw [beq_iff_eq]; omega
    have hgb : getB o 1 4 = true := by simp [getB, okk, h5]
    have hN32 := getV4_lt (l := o) (a := 1)
    have HG5 := Lib.hid (fun w' h => rGet_any (.slice po o.length co) o 1 4 w' h)
    rw [hgb] at HG5
    change headN o < 4294967296 at hN32
    change Hid (∀ w' h, Calls Try.prog 45 #[.slice po o.length co, .int .i64 1, .int .i64 4] w' (fun e w'' => e = .returned (.tuple #[.int .u64 (headN o : Nat), .bool true]) ∧ w' = w'')) at HG5
    have H5 := Lib.hid h5
    have hl5 : o.length ≤ 5 ∧ 5 ≤ o.length := by omega
    clear h5
    by_cases hbig : 65536 < headN o
    ·have HX := Lib.hid (fun w' (hk : Keeps w w') => HErr.out 4 w' (by decide) (inner_big HRD.out H5.out hbig) hk)
     obtain ⟨⟨hf0, hf1, hf2, hf3⟩, hz0, hz1, hz2, hz3⟩ := HFC.out wr hK
     go_wp2_with fail
     refine (HG5.out wr HO.out.row).mono ?_
     rintro e w2 ⟨rfl, rfl⟩
     go_wp2_with fail
     exact bodyPost_ret (v := .tuple #[.agg #[.int .i64 0, .int .i64 0, .int .i64 0, .slice none 0 0], .int .i64 4]) (by simp [results, Try.results44, go_sem, hf0, hf1, hf2, hf3]) rfl (HX.out _ (by repeat (first | assumption | exact Keeps.refl _ | refine Keeps.setCell ?_ (by first | exact hFge | (simp; omega)) _ | refine Keeps.drewN ?_ _ | refine Keeps.drew ?_ | refine Keeps.alloc ?_ _)))
    have hbd : decide (65536 < headN o) = false := by simp; omega
    by_cases hre : (rd (r.drop u)).1 = 0
    ·obtain ⟨c, s, hcs⟩ : ∃ c s, rd (r.drop u) = (0, c, s) := ⟨(rd (r.drop u)).2.1, (rd (r.drop u)).2.2, by rw [← hre]⟩
     have hsl := rd_le hre
     rw [hcs, List.length_drop] at hsl
     simp only at hsl
     rw [rpV_ok hcs] at C1
     have HSn : Hid (rdN (o.length + 1) r = (0, o ++ [c], u + s)) := Lib.hid (rdN_snoc HRD.out hcs)
     have hcl := c.toNat_lt
     rw [show ((n + 1 + u : Nat) : Int) + (s : Int) = (n : Int) + 1 + ((u + s : Nat) : Int) from by omega] at C1
     have hus : u + s ≤ r.length := by omega
     clear hre
     go_wp2_with fail
     refine (HG5.out wr HO.out.row).mono ?_
     rintro e w9 ⟨rfl, rfl⟩
     go_wp2_with fail
     refine (C1.out _ (Keeps.refl _)).mono ?_
     rintro e w2 ⟨rfl, hk2⟩
     have HO2 := Lib.hid (HO.out.keeps hk2)
     have hk12 := hK.trans hk2
     have hsz2 := hk2.size
     have HK2 := Lib.hid hk12
     clear hk2 hk12
     have HP : Hid (∀ (cs : Array Value) w3, (World.alloc (World.alloc w2 (.cells #[.int .u8 (c.toNat : Int), .int .i64 ((n : Int) + 1 + ((u : Int) + s)), .int .i64 0] 109)) (.cells cs 5)).grownBy w3 (Value.ownBlock (.slice po o.length co)) → w3.cell? ⟨w2.heap.size, 1, none⟩ = some (.int .i64 ((n : Int) + 1 + ((u : Int) + s)))) := Lib.hid (fun cs w3 hg => by
      have hB := ((Blk.new w2 109 #[.int .u8 (c.toNat : Int), .int .i64 ((n : Int) + 1 + ((u : Int) + s)), .int .i64 0] rfl).keeps ((Keeps.refl _).alloc (.cells cs 5))).grown hg (fun h => by have := HO2.out.block_lt _ h; omega)
      rw [hB.cell]; rfl)
     go_wp2_with (at_builtin; refine wpList_app1 (base := F + 1) u8ok rfl _ _ rfl (.slice po o.length co) (.slice (some ⟨w2.heap.size + 1, 0, none⟩) 1 1) (o.map u8v) [.int .u8 (c.toNat : Int)] rfl rfl ((HO2.out.alloc _).alloc _) (row_one (by simp)) (by simp [Value.oneCell']) (by simp; omega) (by omega) (by simp; omega) ?_; intro v' w3 ho3 hg3 hf3; have hcellP := HP.out _ _ hg3)
     go_roundw
     case rel => exact ⟨u + s, o ++ [c], rfl, by rw [ndI_five H5.out]; simp, by rw [List.map_append]; exact ho3, by rw [List.length_append]; exact HSn.out, by intro h; rw [headN_snoc (by omega), List.length_append, List.length_singleton]; omega, (HK2.out.alloc _ |>.alloc _).grown hg3 (fun x hx => by have := HO2.out.base x hx; omega)⟩
     case measure =>
      simp only [intOf]
      omega
    ·obtain ⟨er, her⟩ : ∃ er, (rd (r.drop u)).1 = er := ⟨_, rfl⟩
     rw [her] at hre
     rw [rpV_err her hre] at C1
     have HX := Lib.hid (fun w' (hk : Keeps w w') => HErr.out er w' hre (by exact inner_err HRD.out her (by assumption) (fun h => by omega)) hk)
     have hne : (er != 0) = true := by simp [hre]
     clear hre her
     go_wp2_with fail
     refine (HG5.out wr HO.out.row).mono ?_
     rintro e w9 ⟨rfl, rfl⟩
     go_wp2_with fail
     refine (C1.out _ (Keeps.refl _)).mono ?_
     rintro e w2 ⟨rfl, hk2⟩
     have hKy := hK.trans hk2
     have hszx := hk2.size
     clear hk2
     go_upto_region 18 with fail
     generalize hW9 : World.alloc w2 (.cells #[.int .u8 0, .int .i64 0, .int .i64 er] 109) = w9
     have hk9 : Keeps w1 w9 := by rw [← hW9]; exact hKy.alloc _
     have hp2 : w9.cell? ⟨w2.heap.size, 2, none⟩ = some (.int .i64 er) := by
      rw [← hW9, (Blk.new w2 109 #[.int .u8 0, .int .i64 0, .int .i64 er] rfl).cell]; rfl
     obtain ⟨⟨hf0, hf1, hf2, hf3⟩, hz0, hz1, hz2, hz3⟩ := HFC.out w9 hk9
     have hKx := HK1.out.trans hk9
     have hneF : w2.heap.size ≠ F := by omega
     have hneF' : F ≠ w2.heap.size := by omega
     clear hW9 hk9 hKy
     go_region
     go_wp2_with fail
     exact bodyPost_ret (v := .tuple #[.agg #[.int .i64 0, .int .i64 0, .int .i64 0, .slice none 0 0], .int .i64 er]) (by simp [results, Try.results44, go_sem, hf0, hf1, hf2, hf3]) rfl (HX.out _ (by repeat (first | assumption | exact Keeps.refl _ | refine Keeps.setCell ?_ (by first | exact hFge | (simp; omega)) _ | refine Keeps.drewN ?_ _ | refine Keeps.drew ?_ | refine Keeps.alloc ?_ _)))
   ·have hf5 : ((o.length : Int) == 5) = false := by rw [beq_eq_false_iff_ne]; omega
    by_cases hre : (rd (r.drop u)).1 = 0
    ·obtain ⟨c, s, hcs⟩ : ∃ c s, rd (r.drop u) = (0, c, s) := ⟨(rd (r.drop u)).2.1, (rd (r.drop u)).2.2, by rw [← hre]⟩
     have hsl := rd_le hre
     rw [hcs, List.length_drop] at hsl
     simp only at hsl
     rw [rpV_ok hcs] at C1
     have HSn : Hid (rdN (o.length + 1) r = (0, o ++ [c], u + s)) := Lib.hid (rdN_snoc HRD.out hcs)
     have hcl := c.toNat_lt
     rw [show ((n + 1 + u : Nat) : Int) + (s : Int) = (n : Int) + 1 + ((u + s : Nat) : Int) from by omega] at C1
     have hus : u + s ≤ r.length := by omega
     clear hre
     go_wp2_with fail
     refine (C1.out _ (Keeps.refl _)).mono ?_
     rintro e w2 ⟨rfl, hk2⟩
     have HO2 := Lib.hid (HO.out.keeps hk2)
     have hk12 := hK.trans hk2
     have hsz2 := hk2.size
     have HK2 := Lib.hid hk12
     clear hk2 hk12
     have HP : Hid (∀ (cs : Array Value) w3, (World.alloc (World.alloc w2 (.cells #[.int .u8 (c.toNat : Int), .int .i64 ((n : Int) + 1 + ((u : Int) + s)), .int .i64 0] 109)) (.cells cs 5)).grownBy w3 (Value.ownBlock (.slice po o.length co)) → w3.cell? ⟨w2.heap.size, 1, none⟩ = some (.int .i64 ((n : Int) + 1 + ((u : Int) + s)))) := Lib.hid (fun cs w3 hg => by
      have hB := ((Blk.new w2 109 #[.int .u8 (c.toNat : Int), .int .i64 ((n : Int) + 1 + ((u : Int) + s)), .int .i64 0] rfl).keeps ((Keeps.refl _).alloc (.cells cs 5))).grown hg (fun h => by have := HO2.out.block_lt _ h; omega)
      rw [hB.cell]; rfl)
     go_wp2_with (at_builtin; refine wpList_app1 (base := F + 1) u8ok rfl _ _ rfl (.slice po o.length co) (.slice (some ⟨w2.heap.size + 1, 0, none⟩) 1 1) (o.map u8v) [.int .u8 (c.toNat : Int)] rfl rfl ((HO2.out.alloc _).alloc _) (row_one (by simp)) (by simp [Value.oneCell']) (by simp; omega) (by omega) (by simp; omega) ?_; intro v' w3 ho3 hg3 hf3; have hcellP := HP.out _ _ hg3)
     go_roundw
     case rel => exact ⟨u + s, o ++ [c], rfl, by rw [ndI_snoc h5], by rw [List.map_append]; exact ho3, by rw [List.length_append]; exact HSn.out, by intro h; rw [List.length_append, List.length_singleton] at h; have h7 := H6.out (by omega); rw [headN_snoc (by omega), List.length_append, List.length_singleton]; unfold ndI at hlt2; rw [if_neg (by omega)] at hlt2; omega, (HK2.out.alloc _ |>.alloc _).grown hg3 (fun x hx => by have := HO2.out.base x hx; omega)⟩
     case measure =>
      simp only [intOf]
      omega
    ·obtain ⟨er, her⟩ : ∃ er, (rd (r.drop u)).1 = er := ⟨_, rfl⟩
     rw [her] at hre
     rw [rpV_err her hre] at C1
     have HX := Lib.hid (fun w' (hk : Keeps w w') => HErr.out er w' hre (by exact inner_err HRD.out her (by assumption) (fun h => by have h7 := H6.out (by omega); unfold ndI at hlt2; rw [if_neg (by omega)] at hlt2; omega)) hk)
     have hne : (er != 0) = true := by simp [hre]
     clear hre her
     go_wp2_with fail
     refine (C1.out _ (Keeps.refl _)).mono ?_
     rintro e w2 ⟨rfl, hk2⟩
     have hKy := hK.trans hk2
     have hszx := hk2.size
     clear hk2
     go_upto_region 18 with fail
     generalize hW9 : World.alloc w2 (.cells #[.int .u8 0, .int .i64 0, .int .i64 er] 109) = w9
     have hk9 : Keeps w1 w9 := by rw [← hW9]; exact hKy.alloc _
     have hp2 : w9.cell? ⟨w2.heap.size, 2, none⟩ = some (.int .i64 er) := by
      rw [← hW9, (Blk.new w2 109 #[.int .u8 0, .int .i64 0, .int .i64 er] rfl).cell]; rfl
     obtain ⟨⟨hf0, hf1, hf2, hf3⟩, hz0, hz1, hz2, hz3⟩ := HFC.out w9 hk9
     have hKx := HK1.out.trans hk9
     have hneF : w2.heap.size ≠ F := by omega
     have hneF' : F ≠ w2.heap.size := by omega
     clear hW9 hk9 hKy
     go_region
     go_wp2_with fail
     exact bodyPost_ret (v := .tuple #[.agg #[.int .i64 0, .int .i64 0, .int .i64 0, .slice none 0 0], .int .i64 er]) (by simp [results, Try.results44, go_sem, hf0, hf1, hf2, hf3]) rfl (HX.out _ (by repeat (first | assumption | exact Keeps.refl _ | refine Keeps.setCell ?_ (by first | exact hFge | (simp; omega)) _ | refine Keeps.drewN ?_ _ | refine Keeps.drew ?_ | refine Keeps.alloc ?_ _)))
end Frm
end Go.Proofs.Ytkbibhlfehamgaa

/- The reference's Row. -/
namespace Go.Proofs.Ytkbibhlfehamgaa
open Go.RowKit
namespace Frm
open Oct

def RRowDid (W : World) (fs : List Fr1) (u : Nat) (n : Int) (e : Ending) (w' : World) : Prop :=
 ∃ v l, e = .returned (.agg #[v, .int .i64 (u : Int), .int .i64 n]) ∧ FramesAt w' W.heap.size v l ∧ l.map (·.1) = fs ∧ Keeps W w'

/-- a store into a block of another type leaves a list of frames -/
theorem FramesAt.store {w : World} {base g i : Nat} {t : TypeId} {cs : Array Value} {v : Value} {l : List (Fr1 × Value)} (h : FramesAt w base v l) (hb : Blk w g t cs) (h1 : t ≠ 5) (h2 : t ≠ 53) (u : Value) : FramesAt (w.setCell ⟨g, i, none⟩ u) base v l := by
 have hM : Mods (· = g) w (w.setCell ⟨g, i, none⟩ u) := Mods.setCell (p := ⟨g, i, none⟩) (Mods.refl (· = g) w) (fun _ => rfl) u
 refine h.mods hM ?_ ?_
 all_goals
  rintro x rfl cs' fr hx
  unfold Blk at hb
  rw [hb] at hx
  simp only [Option.some.injEq, Obj.cells.injEq] at hx
  first | exact h1 hx.2.1 | exact h2 hx.2.1

theorem rowLine0 {W : World} {g i : Nat} {w : World} (hk : Keeps W w) (h : W.heap.size ≤ g) (u : Value) : Keeps W (w.setCell ⟨g, i, none⟩ u) := hk.setCell (p := ⟨g, i, none⟩) h u

set_option maxRecDepth 100000 in
set_option maxHeartbeats 4000000 in
theorem rRow_any (v : Value) (l : List UInt8) (w : World) (hr : Row w v (l.map u8v)) (hl : l.length ≤ 1099511627776) : Calls Try.prog 20 #[v] w (RRowDid w (rowR l).1 (rowR l).2.1 (rowR l).2.2) := by
 obtain ⟨p, cap, rfl, hc1, hc2⟩ := hr.formB
 have HR := Lib.hid hr
 clear hr
 go_enter Try.func20, Try.ntmps20
 go_wp2_with fail
 generalize hwe : World.alloc (World.alloc w _) _ = we
 have hRe : Blk we w.heap.size 59 #[.slice none 0 0, .int .i64 0, .int .i64 0] := by
  rw [← hwe]; exact (Blk.new w _ _ rfl).alloc _
 have hXe : Blk we (w.heap.size + 1) 59 #[.slice none 0 0, .int .i64 0, .int .i64 0] := by
  rw [← hwe]; exact Blk.new _ _ _ (alloc_size w _).symm
 have hKe : Keeps w we := by rw [← hwe]; exact ((Keeps.refl _).alloc _).alloc _
 clear hwe
 generalize hR : w.heap.size = R at *
 have hRR : w.heap.size ≤ R := by omega
 have HRw := Lib.hid hR
 clear hR
 go_loopg [] l.length (fun gk wr => ∃ (u : Nat) (fl : List (Fr1 × Value)) (vo : Value), FramesAt wr R vo fl ∧ Blk wr (R + 1) 59 #[vo, .int .i64 (u : Int), .int .i64 0] ∧ Blk wr R 59 #[.slice none 0 0, .int .i64 0, .int .i64 0] ∧ Keeps w wr ∧ u ≤ l.length ∧ l.length ≤ u + gk ∧ fl.length ≤ u ∧ (rowR l).1 = fl.map (·.1) ++ (rowN l gk u).1 ∧ (rowR l).2 = (rowN l gk u).2)
 case atStart => exact ⟨0, [], _, FramesAt.nil _ _, hXe, hRe, hKe, Nat.zero_le _, by omega, by simp, by simp [rowR], rfl⟩
 case round =>
  obtain ⟨u, fl, vo, hfl, hX, hRb, hK, hu, hgk, hfu, he1, he2⟩ := hrel
  obtain ⟨po, capo, rfl, hpo1, hpo2⟩ := ownsRow_form hfl.own
  have HF := Lib.hid hfl
  have HE := Lib.hid (And.intro he1 he2)
  have HK := Lib.hid hK
  have HX := Lib.hid hX
  have HRb := Lib.hid hRb
  have hRlt := hRb.lt
  have hXlt := hX.lt
  clear hfl he1 he2 hK hX hRb
  have hx0 : wr.cell? ⟨R + 1, 0, none⟩ = some (.slice po fl.length capo) := by rw [HX.out.cell]; rfl
  have hx1 : wr.cell? ⟨R + 1, 1, none⟩ = some (.int .i64 (u : Int)) := by rw [HX.out.cell]; rfl
  have hx2 : wr.cell? ⟨R + 1, 2, none⟩ = some (.int .i64 0) := by rw [HX.out.cell]; rfl
  by_cases hlt : u < l.length
  ·obtain ⟨k', rfl⟩ : ∃ k', gk = k' + 1 := ⟨gk - 1, by omega⟩
   have HA := Lib.hid (rAt_any (.slice p l.length cap) l u wr (HR.out.keeps HK.out) (by omega))
   by_cases he : atE l u = 0
   ·have hok := Lib.hid (rowN_ok (k := k') hlt he)
    obtain ⟨hl10, hlen, hl0⟩ := atE_len he
    rw [he] at HA
    clear he
    generalize atF l u = f at *
    obtain ⟨m, hm⟩ := Int.eq_ofNat_of_zero_le hl0
    go_wp2_with fail
    refine HA.out.mono ?_
    rintro e w1 ⟨pv, rfl, hpv, hK1⟩
    obtain ⟨pp, np, cp, rfl⟩ := piece_sl hpv
    have HP1 := Lib.hid (hpv.lower (show R ≤ wr.heap.size by omega))
    have HF1 := Lib.hid (HF.out.keeps hK1)
    have HX1 := Lib.hid (HX.out.keeps hK1)
    have HR1 := Lib.hid (HRb.out.keeps hK1)
    have HK1 := Lib.hid (HK.out.trans hK1)
    have hsz1 := hK1.size
    clear hpv hK1 HF HK HX HRb hx0 hx1 hx2
    obtain ⟨fa, fle, fk, fp⟩ := f
    unfold frV
    simp only at hm hl10 hlen hl0
    subst hm
    go_upto_region 7 with fail
    generalize hWa : World.alloc w1 _ = wa
    have hFb : Blk wa w1.heap.size 53 #[.int .i64 fa, .int .i64 (m : Int), .int .i64 fk, .slice pp np cp] := by rw [← hWa]; exact Blk.new _ _ _ rfl
    have hKa : Keeps w1 wa := by rw [← hWa]; exact (Keeps.refl _).alloc _
    have HFa := Lib.hid (HF1.out.keeps hKa)
    have HPa := Lib.hid (HP1.out.keeps hKa)
    have HXa := Lib.hid (HX1.out.keeps hKa)
    have HRa := Lib.hid (HR1.out.keeps hKa)
    have HKa := Lib.hid (HK1.out.trans hKa)
    have hsza := hKa.size
    have hc0 : wa.cell? ⟨w1.heap.size, 0, none⟩ = some (.int .i64 fa) := by rw [hFb.cell]; rfl
    have hc1' : wa.cell? ⟨w1.heap.size, 1, none⟩ = some (.int .i64 (m : Int)) := by rw [hFb.cell]; rfl
    have hc2' : wa.cell? ⟨w1.heap.size, 2, none⟩ = some (.int .i64 fk) := by rw [hFb.cell]; rfl
    have hc3 : wa.cell? ⟨w1.heap.size, 3, none⟩ = some (.slice pp np cp) := by rw [hFb.cell]; rfl
    have hx0 : wa.cell? ⟨R + 1, 0, none⟩ = some (.slice po fl.length capo) := by rw [HXa.out.cell]; rfl
    have HFb := Lib.hid hFb
    have hne : Value.ownBlock (.slice po fl.length capo) ≠ some w1.heap.size := fun h => by
     exact absurd (ownsRow_lt HF1.out.own _ h) (by omega)
    have HNe := Lib.hid hne
    have HNx : Hid (Value.ownBlock (.slice po fl.length capo) ≠ some (R + 1) ∧ Value.ownBlock (.slice po fl.length capo) ≠ some R) := Lib.hid ⟨ownsRow_ne HFa.out.own HXa.out (by decide), ownsRow_ne HFa.out.own HRa.out (by decide)⟩
    clear hWa hFb hKa HF1 HP1 HK1 hne HX1 HR1
    generalize hQ : w1.heap.size = q at *
    have hqR : R + 1 < q := by omega
    have hqR' : q ≠ R + 1 ∧ R + 1 ≠ q := by omega
    have hqa : q < wa.heap.size := HFb.out.lt
    clear hQ
    go_wp2_with (at_builtin; refine wpList_apps (base := R) frok (by decide) rfl _ _ rfl (.slice po fl.length capo) (.slice (some ⟨wa.heap.size, 0, none⟩) 1 1) fl.length 1 (fl.flatMap frC) [.int .i64 fa, .int .i64 (m : Int), .int .i64 fk, .slice pp np cp] rfl rfl (ownsRow_keeps HFa.out.own ((Keeps.refl _).alloc _)) (rowS_lit rfl rfl rfl) (by simp [Value.oneCell']) (by omega) (by decide) (by simp; omega) ?_; intro v' w2 ho2 hg2 hf2; have hB2 := (HFb.out.alloc _).grown hg2 HNe.out; have hm2 : w2.cell? ⟨q, 1, none⟩ = some (.int .i64 (m : Int)) := by { rw [hB2.cell]; rfl }; have hX2 := (HXa.out.alloc _).grown hg2 HNx.out.1; have hR2 := (HRa.out.alloc _).grown hg2 HNx.out.2; have hx0' : w2.cell? ⟨R + 1, 0, none⟩ = some (.slice po fl.length capo) := by { rw [hX2.cell]; rfl }; have hx1' : w2.cell? ⟨R + 1, 1, none⟩ = some (.int .i64 (u : Int)) := by { rw [hX2.cell]; rfl }; have hz0 : w2.frozen? ⟨R + 1, 0, none⟩ = false := hX2.frozen 0; have hz1 : w2.frozen? ⟨R + 1, 1, none⟩ = false := hX2.frozen 1; have HX2 := Lib.hid hX2; have HR2 := Lib.hid hR2; have HB2 := Lib.hid hB2; obtain ⟨p2, cap2, rfl, -, -⟩ := ownsRow_form ho2; clear hX2 hR2 hB2)
    go_roundg k'
    case rel =>
     have hL2 : FramesAt w2 R (.slice p2 (fl.length + 1) cap2) (fl ++ [(⟨fa, m, fk, fp⟩, .slice pp np cp)]) := (HFa.out.keeps ((Keeps.refl _).alloc _)).snoc (f := ⟨fa, m, fk, fp⟩) (pv := .slice pp np cp) (HPa.out.keeps ((Keeps.refl _).alloc _)) ho2 hg2
     have hX3 := HX2.out.set_ 0 (.slice p2 (fl.length + 1) cap2)
     have hX4 := hX3.set_ 1 (.int .i64 ((u : Int) + m))
     have hK2 : Keeps w w2 := (HKa.out.alloc _).grown hg2 (fun x hx => by have := ownsRow_base HFa.out.own x hx; omega)
     refine ⟨u + m, fl ++ [(⟨fa, m, fk, fp⟩, .slice pp np cp)], .slice p2 (fl.length + 1) cap2, (hL2.store HX2.out (by decide) (by decide) _).store hX3 (by decide) (by decide) _, by simpa using hX4, (HR2.out.far (by simp) _).far (by simp) _, rowLine0 (rowLine0 hK2 (by omega) _) (by omega) _, by omega, by omega, by simp; omega, ?_, ?_⟩
     ·rw [HE.out.1, hok.out]; simp
     ·rw [HE.out.2, hok.out]; simp
    case measure => omega
   ·have herr := Lib.hid (rowN_err (k := k') hlt he)
    have hne : (atE l u != 0) = true := by simp [he]
    clear he
    go_wp2_with fail
    refine HA.out.mono ?_
    rintro e w1 ⟨pv, rfl, hpv, hK1⟩
    obtain ⟨pp, np, cp, rfl⟩ := piece_sl hpv
    have HF1 := Lib.hid (HF.out.keeps hK1)
    have HX1 := Lib.hid (HX.out.keeps hK1)
    have HR1 := Lib.hid (HRb.out.keeps hK1)
    have HK1 := Lib.hid (HK.out.trans hK1)
    have hsz1 := hK1.size
    clear hpv hK1 hx0 hx1 hx2
    generalize hER : atE l u = er at *
    have HER := Lib.hid hER
    clear hER
    unfold frV
    go_upto_region 4 with fail
    generalize hWa : World.alloc w1 _ = wa
    have hKa : Keeps w1 wa := by rw [← hWa]; exact (Keeps.refl _).alloc _
    have HFa := Lib.hid (HF1.out.keeps hKa)
    have HXa := Lib.hid (HX1.out.keeps hKa)
    have HRa := Lib.hid (HR1.out.keeps hKa)
    have HKa := Lib.hid (HK1.out.trans hKa)
    clear hWa hKa HF1 HX1 HR1 HK1
    have hx0 : wa.cell? ⟨R + 1, 0, none⟩ = some (.slice po fl.length capo) := by rw [HXa.out.cell]; rfl
    have hx1 : wa.cell? ⟨R + 1, 1, none⟩ = some (.int .i64 (u : Int)) := by rw [HXa.out.cell]; rfl
    have hx2 : wa.cell? ⟨R + 1, 2, none⟩ = some (.int .i64 0) := by rw [HXa.out.cell]; rfl
    have hf2 : wa.frozen? ⟨R + 1, 2, none⟩ = false := HXa.out.frozen 2
    have hr0 : wa.cell? ⟨R, 0, none⟩ = some (.slice none 0 0) := by rw [HRa.out.cell]; rfl
    have hr1 : wa.cell? ⟨R, 1, none⟩ = some (.int .i64 0) := by rw [HRa.out.cell]; rfl
    have hr2 : wa.cell? ⟨R, 2, none⟩ = some (.int .i64 0) := by rw [HRa.out.cell]; rfl
    have hg0 : wa.frozen? ⟨R, 0, none⟩ = false := HRa.out.frozen 0
    have hg1 : wa.frozen? ⟨R, 1, none⟩ = false := HRa.out.frozen 1
    have hg2 : wa.frozen? ⟨R, 2, none⟩ = false := HRa.out.frozen 2
    have HFin : Hid (RRowDid w (rowR l).1 (rowR l).2.1 (rowR l).2.2 (.returned (.agg #[.slice po fl.length capo, .int .i64 (u : Int), .int .i64 er])) ((((wa.setCell ⟨R + 1, 2, none⟩ (.int .i64 er)).setCell ⟨R, 0, none⟩ (.slice po fl.length capo)).setCell ⟨R, 1, none⟩ (.int .i64 (u : Int))).setCell ⟨R, 2, none⟩ (.int .i64 er))) := Lib.hid (by
     have hXs := HXa.out.set_ 2 (.int .i64 er)
     have hR1 := HRa.out.far (p := ⟨R + 1, 2, none⟩) (by simp) (.int .i64 er)
     have hR2 := hR1.set_ 0 (.slice po fl.length capo)
     have hR3 := hR2.set_ 1 (.int .i64 (u : Int))
     refine ⟨.slice po fl.length capo, fl, ?_, ?_, ?_, ?_⟩
     ·rw [HE.out.2, herr.out]
     ·rw [HRw.out]; exact (((HFa.out.store HXa.out (by decide) (by decide) _).store hR1 (by decide) (by decide) _).store hR2 (by decide) (by decide) _).store hR3 (by decide) (by decide) _
     ·rw [HE.out.1, herr.out]; simp
     ·exact rowLine0 (rowLine0 (rowLine0 (rowLine0 HKa.out (by omega) _) (by omega) _) (by omega) _) (by omega) _)
    clear herr HE
    go_wp2_with fail
    exact bodyPost_ret (v := .agg #[.slice po fl.length capo, .int .i64 (u : Int), .int .i64 er]) (by simp [results, Try.results20, go_sem, hr0, hr1, hr2, hg0, hg1, hg2]) rfl HFin.out
  ·have hr0 : wr.cell? ⟨R, 0, none⟩ = some (.slice none 0 0) := by rw [HRb.out.cell]; rfl
   have hr1 : wr.cell? ⟨R, 1, none⟩ = some (.int .i64 0) := by rw [HRb.out.cell]; rfl
   have hr2 : wr.cell? ⟨R, 2, none⟩ = some (.int .i64 0) := by rw [HRb.out.cell]; rfl
   have hg0 : wr.frozen? ⟨R, 0, none⟩ = false := HRb.out.frozen 0
   have hg1 : wr.frozen? ⟨R, 1, none⟩ = false := HRb.out.frozen 1
   have hg2 : wr.frozen? ⟨R, 2, none⟩ = false := HRb.out.frozen 2
   have HFin : Hid (RRowDid w (rowR l).1 (rowR l).2.1 (rowR l).2.2 (.returned (.agg #[.slice po fl.length capo, .int .i64 (u : Int), .int .i64 0])) (((wr.setCell ⟨R, 0, none⟩ (.slice po fl.length capo)).setCell ⟨R, 1, none⟩ (.int .i64 (u : Int))).setCell ⟨R, 2, none⟩ (.int .i64 0))) := Lib.hid (by
    have hR2 := HRb.out.set_ 0 (.slice po fl.length capo)
    have hR3 := hR2.set_ 1 (.int .i64 (u : Int))
    refine ⟨.slice po fl.length capo, fl, ?_, ?_, ?_, ?_⟩
    ·rw [HE.out.2, rowN_end hlt]
    ·rw [HRw.out]; exact ((HF.out.store HRb.out (by decide) (by decide) _).store hR2 (by decide) (by decide) _).store hR3 (by decide) (by decide) _
    ·rw [HE.out.1, rowN_end hlt]; simp
    ·exact rowLine0 (rowLine0 (rowLine0 HK.out (by omega) _) (by omega) _) (by omega) _)
   clear HE
   go_wp2_with fail
   exact bodyPost_ret (v := .agg #[.slice po fl.length capo, .int .i64 (u : Int), .int .i64 0]) (by simp [results, Try.results20, go_sem, hr0, hr1, hr2, hg0, hg1, hg2]) rfl HFin.out
end Frm
end Go.Proofs.Ytkbibhlfehamgaa

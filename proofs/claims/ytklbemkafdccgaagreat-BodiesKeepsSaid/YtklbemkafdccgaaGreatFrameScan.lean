/- frame.Scan. -/
import Derived.Test.YtklbemkafdccgaaGreatK12
namespace Go.Proofs.YtklbemkafdccgaaGreat
open Go.RowKit
namespace Frm
open Oct

def gapC (g : Gap1) : List Value := [.int .i64 g.fro, .int .i64 g.to]
def GapsAt (w : World) (base : Nat) (v : Value) (gl : List Gap1) : Prop := w.ownsRow base 269 2 v gl.length (gl.flatMap gapC)
theorem gapok : ElemOkS Tryz.prog 234 269 2 16 := elemOkS (z := .agg #[.int .i64 0, .int .i64 0]) Tryz.underlying234 (by kernel_rfl) rfl
section
variable {w w' : World} {base : Nat} {v : Value}
theorem ownsRow_mods {e : TypeId} {C n : Nat} {xs : List Value} {S : Nat → Prop} (h : w.ownsRow base e C v n xs) (k : Mods S w w') (hn : ∀ x, v.ownBlock = some x → ¬ S x) : w'.ownsRow base e C v n xs := by
 refine ⟨h.1, ?_⟩
 rcases h.2 with h0 | ⟨g, cap, cur, rfl, hb, hgg, rest⟩
 ·exact .inl h0
 ·exact .inr ⟨g, cap, cur, rfl, hb, k.heap hgg (hn g rfl), rest⟩
theorem FramesAt.mods {l : List (Fr1 × Value)} {S : Nat → Prop} (h : FramesAt w base v l) (k : Mods S w w') (hn : ∀ x, S x → ∀ cs fr, w.heap[x]? ≠ some (.cells cs 5 fr)) (hn' : ∀ x, S x → ∀ cs fr, w.heap[x]? ≠ some (.cells cs 238 fr)) : FramesAt w' base v l := by
 refine ⟨ownsRow_mods h.own k (fun x hx hs => ?_), fun x hx => (h.pay x hx).modsT k hn⟩
 rcases h.own.2 with ⟨rfl, _⟩ | ⟨g, cap, cur, rfl, hb, hgg, rest⟩
 ·simp [Value.ownBlock] at hx
 ·simp [Value.ownBlock] at hx
  subst hx
  exact hn' g hs _ _ hgg
theorem GapsAt.nil (w : World) (base : Nat) : GapsAt w base (.slice none 0 0) [] := World.ownsRow_nil w base _ 2
end

theorem alloc_size (w : World) (o : Obj) : (w.alloc o).heap.size = w.heap.size + 1 := by show (w.heap.push o).size = _; simp

theorem mods_set (w : World) (g : Nat) (u : Value) : Mods (fun x => x = g) w (w.setCell ⟨g, 0, none⟩ u) := (Mods.refl (fun x => x = g) w).setCell (p := ⟨g, 0, none⟩) (fun _ => rfl) u
/-- what shut writes is neither of this type -/
theorem tyne {w : World} {base G : Nat} {gv : Value} {gl : List Gap1} (hG : Blk w G 234 #[gv]) (hg : GapsAt w base gv gl) {t : TypeId} (h1 : 234 ≠ t) (h2 : 269 ≠ t) : ∀ x, (x = G ∨ gv.ownBlock = some x) → ∀ cs fr, w.heap[x]? ≠ some (.cells cs t fr) := by
 rintro x (rfl | hx) cs fr h
 ·unfold Blk at hG
  rw [hG] at h
  simp only [Option.some.injEq, Obj.cells.injEq] at h
  exact h1 h.2.1
 ·exact ownsRow_ty hg h2 x hx cs fr h
theorem blk_tyne {w : World} {g g' : Nat} {t t' : TypeId} {cs cs' : Array Value} (h : Blk w g t cs) (h' : Blk w g' t' cs') (hn : t ≠ t') : g ≠ g' := fun he => by
 subst he
 unfold Blk at h h'
 rw [h] at h'
 simp only [Option.some.injEq, Obj.cells.injEq] at h'
 exact hn h'.2.1
theorem ownsRow_ne {w : World} {base C n g : Nat} {e t : TypeId} {xs : List Value} {v : Value} {cs : Array Value} (h : w.ownsRow base e C v n xs) (hb : Blk w g t cs) (hn : e ≠ t) : v.ownBlock ≠ some g := fun hx => ownsRow_ty h hn g hx _ _ hb

def ShutDid (F G base : Nat) (f : Int) (gl' : List Gap1) (W : World) (gv : Value) (e : Ending) (w' : World) : Prop :=
 e = .returned (.tuple #[]) ∧ ∃ gv', Blk w' F 3 #[.int .i64 f] ∧ Blk w' G 234 #[gv'] ∧ GapsAt w' base gv' gl' ∧ Mods (fun x => x = G ∨ gv.ownBlock = some x) W w'

theorem shut_any (w : World) (base F G : Nat) (f tt : Int) (gv : Value) (gl : List Gap1) (hF : Blk w F 3 #[.int .i64 f]) (hG : Blk w G 234 #[gv]) (hg : GapsAt w base gv gl) (hb : base ≤ w.heap.size) (hn : gl.length ≤ 1099511627776) : Calls Tryz.prog 217 #[.int .i64 tt, .pointer (some ⟨F, 0, none⟩), .pointer (some ⟨G, 0, none⟩)] w (ShutDid F G base f (if f < tt then gl ++ [⟨f, tt⟩] else gl) w gv) := by
 have hcF : w.cell? ⟨F, 0, none⟩ = some (.int .i64 f) := by rw [hF.cell]; rfl
 have hcG : w.cell? ⟨G, 0, none⟩ = some gv := by rw [hG.cell]; rfl
 obtain ⟨p, cap, rfl, hp1, hp2⟩ := ownsRow_form hg
 by_cases hlt : f < tt
 ·rw [if_pos hlt]
  have HG := Lib.hid hG
  have HF := Lib.hid hF
  have HV := Lib.hid hg
  have hneFG : F ≠ G := fun h => by
   subst h; unfold Blk at hF hG; rw [hF] at hG; simp at hG
  have HN1 : Hid (Value.ownBlock (.slice p gl.length cap) ≠ some G) := Lib.hid (fun h => ownsRow_ty (e' := 234) hg (by decide) _ h _ _ hG)
  have HN2 : Hid (Value.ownBlock (.slice p gl.length cap) ≠ some F) := Lib.hid (fun h => ownsRow_ty (e' := 3) hg (by decide) _ h _ _ hF)
  clear hF hG hg
  go_enter Tryz.func217, Tryz.ntmps217
  go_wp2_with (at_builtin; refine wpList_apps (base := base) gapok (by decide) rfl _ _ rfl (.slice p gl.length cap) (.slice (some ⟨w.heap.size, 0, none⟩) 1 1) gl.length 1 (gl.flatMap gapC) [.int .i64 f, .int .i64 tt] rfl rfl (ownsRow_keeps HV.out ((Keeps.refl _).alloc _)) (rowS_lit rfl rfl rfl) (by simp [Value.oneCell']) (by omega) (by decide) (by simp; omega) ?_; intro v' w2 ho2 hg2 hf2; obtain ⟨p2, cap2, rfl, hp3, hp4⟩ := ownsRow_form ho2; have hG2 := (HG.out.alloc _).grown hg2 HN1.out; have hF2 := (HF.out.alloc _).grown hg2 HN2.out; have hm2 : w2.cell? ⟨G, 0, none⟩ = some (.slice p gl.length cap) := by { rw [hG2.cell]; rfl }; have hz2 : w2.frozen? ⟨G, 0, none⟩ = false := hG2.frozen 0; have HT := Lib.hid (ownsRow_ty (e' := 234) ho2 (by decide)))
  go_end0
  refine ⟨rfl, .slice p2 (gl.length + 1) cap2, hF2.far hneFG _, ?_, ?_, ?_⟩
  ·have := hG2.set_ 0 (.slice p2 (gl.length + 1) cap2)
   simpa using this
  ·unfold GapsAt
   refine ownsRow_mods (S := fun x => x = G) ?_ ((Mods.refl (fun x => x = G) w2).setCell (fun _ => rfl) _) (fun x hx h => HT.out x hx _ _ (by subst h; exact hG2))
   simpa [gapC] using ho2
  ·exact (((Mods.refl _ w).alloc _).grown hg2 (fun k hk _ => .inr hk)).setCell (fun _ => .inl rfl) _
 ·rw [if_neg hlt]
  have hd : decide (f < tt) = false := by simp; omega
  have HX : Hid (ShutDid F G base f gl w (.slice p gl.length cap) (.returned (.tuple #[])) w) := Lib.hid ⟨rfl, _, hF, hG, hg, Mods.refl _ _⟩
  clear hF hG hg
  go_enter Tryz.func217, Tryz.ntmps217
  go_wp2_with fail
  go_end0
  exact HX.out

/-- frames and gaps -/
def ScanDid (W : World) (x : List Fr1 × List Gap1) (e : Ending) (w' : World) : Prop :=
 ∃ v l gv, e = .returned (.tuple #[v, gv]) ∧ FramesAt w' W.heap.size v l ∧ l.map (·.1) = x.1 ∧ GapsAt w' W.heap.size gv x.2 ∧ Keeps W w'

def glen (gl : List Gap1) (g u : Nat) : List Gap1 := if g < u then gl ++ [⟨g, u⟩] else gl
theorem glen_len (gl : List Gap1) (g u : Nat) : (glen gl g u).length ≤ gl.length + 1 := by unfold glen; split <;> simp
theorem glen_app (gl r : List Gap1) (g u : Nat) : gl ++ ((if g < u then [⟨g, u⟩] else []) ++ r) = glen gl g u ++ r := by unfold glen; split <;> simp
theorem glen_int (gl : List Gap1) (g u : Nat) : (if (g : Int) < (u : Int) then gl ++ [⟨g, u⟩] else gl) = glen gl g u := by
 unfold glen
 by_cases h : g < u
 ·rw [if_pos h, if_pos (by omega)]
 ·rw [if_neg h, if_neg (by omega)]

set_option maxRecDepth 100000 in
set_option maxHeartbeats 2000000 in
theorem scan_any (v : Value) (l : List UInt8) (w : World) (hr : Row w v (l.map u8v)) (hl : l.length ≤ 1099511627775) : Calls Tryz.prog 181 #[v] w (ScanDid w (scanR l)) := by
 obtain ⟨p, cap, rfl, hc1, hc2⟩ := hr.formB
 have HR := Lib.hid hr
 clear hr
 go_enter Tryz.func181, Tryz.ntmps181
 go_wp2_with fail
 generalize hwe : World.alloc (World.alloc w _) _ = we
 have hGe : Blk we w.heap.size 234 #[.slice none 0 0] := by
  rw [← hwe]; exact (Blk.new w _ _ rfl).alloc _
 have hFe : Blk we (w.heap.size + 1) 3 #[.int .i64 0] := by
  rw [← hwe]; exact Blk.new _ _ _ (alloc_size w _).symm
 have hKe : Keeps w we := by rw [← hwe]; exact ((Keeps.refl _).alloc _).alloc _
 clear hwe
 go_loopg [2, 6] l.length (fun gk vo uo wr => ∃ (u g : Nat) (fl : List (Fr1 × Value)) (gl : List Gap1) (gv : Value), uo = .int .i64 (u : Int) ∧ FramesAt wr w.heap.size vo fl ∧ Blk wr (w.heap.size + 1) 3 #[.int .i64 (g : Int)] ∧ Blk wr w.heap.size 234 #[gv] ∧ GapsAt wr w.heap.size gv gl ∧ Keeps w wr ∧ u ≤ l.length ∧ l.length ≤ u + gk ∧ fl.length ≤ u ∧ gl.length ≤ u ∧ (scanR l).1 = fl.map (·.1) ++ (scanN l gk g u).1 ∧ (scanR l).2 = gl ++ (scanN l gk g u).2)
 case atStart => exact ⟨0, 0, [], [], _, rfl, FramesAt.nil _ _, hFe, hGe, GapsAt.nil _ _, hKe, Nat.zero_le _, by omega, by simp, by simp, by simp [scanR], by simp [scanR]⟩
 case round =>
  obtain ⟨u, g, fl, gl, gv, rfl, hfl, hF, hG, hgl, hK, hu, hgk, hfu, hgu, he1, he2⟩ := hrel
  obtain ⟨po, capo, rfl, hpo1, hpo2⟩ := ownsRow_form hfl.own
  have HF := Lib.hid hF
  have HG := Lib.hid hG
  have HL := Lib.hid hfl
  have HV := Lib.hid hgl
  have HE := Lib.hid (And.intro he1 he2)
  have HK := Lib.hid hK
  have hsz := hK.size
  clear hF hG hfl hgl he1 he2 hK
  by_cases hlt : u < l.length
  ·obtain ⟨k', rfl⟩ : ∃ k', gk = k' + 1 := ⟨gk - 1, by omega⟩
   have HA := Lib.hid (at_any (.slice p l.length cap) l u wr (HR.out.keeps HK.out) (by omega))
   by_cases he : atE l u = 0
   ·have hok := Lib.hid (scanN_ok (k := k') (g := g) hlt he)
    obtain ⟨hl10, hlen, hl0⟩ := atE_len he
    rw [he] at HA
    clear he
    generalize atF l u = f at *
    obtain ⟨m, hm⟩ := Int.eq_ofNat_of_zero_le hl0
    go_wp2_with fail
    refine HA.out.mono ?_
    rintro e w1 ⟨pv, rfl, hpv, hK1⟩
    obtain ⟨pp, np, cp, rfl⟩ := piece_sl hpv
    have HP1 := Lib.hid (hpv.lower hsz)
    have HL1 := Lib.hid (HL.out.keeps hK1)
    have HV1 : Hid (GapsAt w1 w.heap.size gv gl) := Lib.hid (ownsRow_keeps HV.out hK1)
    have HF1 := Lib.hid (HF.out.keeps hK1)
    have HG1 := Lib.hid (HG.out.keeps hK1)
    have HK1 := Lib.hid (HK.out.trans hK1)
    have hsz1 := HK1.out.size
    clear hpv hK1 HF HG HL HV HK
    obtain ⟨fa, fle, fk, fp⟩ := f
    unfold frV
    simp only at hm hl10 hlen hl0
    subst hm
    go_upto_region 8 with fail
    generalize hWa : World.alloc w1 _ = wa
    have hFb : Blk wa w1.heap.size 238 #[.int .i64 fa, .int .i64 (m : Int), .int .i64 fk, .slice pp np cp] := by rw [← hWa]; exact Blk.new _ _ _ rfl
    have hKa : Keeps w1 wa := by rw [← hWa]; exact (Keeps.refl _).alloc _
    have HLa := Lib.hid (HL1.out.keeps hKa)
    have HVa : Hid (GapsAt wa w.heap.size gv gl) := Lib.hid (ownsRow_keeps HV1.out hKa)
    have HPa := Lib.hid (HP1.out.keeps hKa)
    have HFa := Lib.hid (HF1.out.keeps hKa)
    have HGa := Lib.hid (HG1.out.keeps hKa)
    have HKa := Lib.hid (HK1.out.trans hKa)
    have hsza := HKa.out.size
    have HFb := Lib.hid hFb
    have HN1 : Hid (Value.ownBlock (.slice po fl.length capo) ≠ some w1.heap.size) := Lib.hid (fun h => by
     have := ownsRow_lt HL1.out.own _ h
     omega)
    clear hWa hFb hKa HL1 HV1 HP1 HF1 HG1 HK1
    have HS := Lib.hid (shut_any wa w.heap.size (w.heap.size + 1) w.heap.size g u gv gl HFa.out HGa.out HVa.out hsza (by omega))
    rw [glen_int] at HS
    go_wp2_with fail
    refine HS.out.mono ?_
    rintro e w2 ⟨rfl, gv2, hF2, hG2, hgl2, hM2⟩
    have hnu := tyne HGa.out HVa.out (t := 5) (by decide) (by decide)
    have hnf := tyne HGa.out HVa.out (t := 238) (by decide) (by decide)
    have HL2 := Lib.hid (HLa.out.mods hM2 hnu hnf)
    have HP2 := Lib.hid (HPa.out.modsT hM2 hnu)
    have HB2 : Hid (Blk w2 w1.heap.size 238 #[.int .i64 fa, .int .i64 (m : Int), .int .i64 fk, .slice pp np cp]) := Lib.hid (HFb.out.mods hM2 (fun h => hnf _ h _ _ HFb.out))
    have HK2 : Hid (Keeps w w2) := Lib.hid (hM2.keeps HKa.out (by
     rintro x (rfl | hx)
     ·exact Nat.le_refl _
     ·exact ownsRow_base HVa.out x hx))
    have HF2 := Lib.hid hF2
    have HG2 := Lib.hid hG2
    have HV2 := Lib.hid hgl2
    have hsz2 := HK2.out.size
    have hc0 : w2.cell? ⟨w1.heap.size, 0, none⟩ = some (.int .i64 fa) := by rw [HB2.out.cell]; rfl
    have hc1' : w2.cell? ⟨w1.heap.size, 1, none⟩ = some (.int .i64 (m : Int)) := by rw [HB2.out.cell]; rfl
    have hc2' : w2.cell? ⟨w1.heap.size, 2, none⟩ = some (.int .i64 fk) := by rw [HB2.out.cell]; rfl
    have hc3 : w2.cell? ⟨w1.heap.size, 3, none⟩ = some (.slice pp np cp) := by rw [HB2.out.cell]; rfl
    clear hnu hnf hF2 hG2 hgl2 hM2 HS HLa HPa HFa HGa HKa HVa HFb
    go_wp2_with (at_builtin; refine wpList_apps (base := w.heap.size) frok (by decide) rfl _ _ rfl (.slice po fl.length capo) (.slice (some ⟨w2.heap.size, 0, none⟩) 1 1) fl.length 1 (fl.flatMap frC) [.int .i64 fa, .int .i64 (m : Int), .int .i64 fk, .slice pp np cp] rfl rfl (ownsRow_keeps HL2.out.own ((Keeps.refl _).alloc _)) (rowS_lit rfl rfl rfl) (by simp [Value.oneCell']) (by omega) (by decide) (by simp; omega) ?_; intro v' w3 ho3 hg3 hf3; have hm3 : w3.cell? ⟨w1.heap.size, 1, none⟩ = some (.int .i64 (m : Int)) := by { have hb3 := (HB2.out.alloc _).grown hg3 HN1.out; rw [hb3.cell]; rfl }; have hF3 := (HF2.out.alloc _).grown hg3 (ownsRow_ne HL2.out.own HF2.out (by decide)); have hG3 := (HG2.out.alloc _).grown hg3 (ownsRow_ne HL2.out.own HG2.out (by decide)); have hx3 : w3.cell? ⟨w.heap.size + 1, 0, none⟩ = some (.int .i64 (g : Int)) := by { rw [hF3.cell]; rfl }; have hz3 : w3.frozen? ⟨w.heap.size + 1, 0, none⟩ = false := hF3.frozen 0; have HFG := Lib.hid (And.intro hF3 hG3); clear hF3 hG3)
    go_roundg k'
    case rel =>
     have hK3 : Keeps w w3 := (HK2.out.alloc _).grown hg3 (ownsRow_base HL2.out.own)
     have hV3 : GapsAt w3 w.heap.size gv2 (glen gl g u) := ownsRow_mods (ownsRow_keeps HV2.out ((Keeps.refl _).alloc _)) ((Mods.refl (fun x => Value.ownBlock (.slice po fl.length capo) = some x) _).grown hg3 (fun k hk _ => hk)) (fun x hx hs => by
      rcases HL2.out.own.2 with ⟨h0, _⟩ | ⟨g', cap', cur, h0, hb, hgg, rest⟩
      ·rw [h0] at hs; simp [Value.ownBlock] at hs
      ·rw [h0] at hs; simp [Value.ownBlock] at hs
       subst hs
       exact ownsRow_ty HV2.out (e' := 238) (by decide) _ hx _ _ hgg)
     have hL3 : FramesAt w3 w.heap.size v' (fl ++ [(⟨fa, m, fk, fp⟩, .slice pp np cp)]) := (HL2.out.keeps ((Keeps.refl _).alloc _)).snoc (f := ⟨fa, m, fk, fp⟩) (pv := .slice pp np cp) (HP2.out.keeps ((Keeps.refl _).alloc _)) ho3 hg3
     have hSF : ∀ u', Mods (fun x => x = w.heap.size + 1) w3 (w3.setCell ⟨w.heap.size + 1, 0, none⟩ u') := mods_set w3 _
     have hFt : ∀ {t : TypeId}, 3 ≠ t → ∀ x, x = w.heap.size + 1 → ∀ cs fr, w3.heap[x]? ≠ some (.cells cs t fr) := by
      rintro t ht x rfl cs fr h
      have hb := HFG.out.1
      unfold Blk at hb
      rw [hb] at h
      simp only [Option.some.injEq, Obj.cells.injEq] at h
      exact ht h.2.1
     have hF4 := HFG.out.1.set_ 0 (.int .i64 ((u + m : Nat) : Int))
     refine ⟨u + m, u + m, fl ++ [(⟨fa, m, fk, fp⟩, .slice pp np cp)], glen gl g u, gv2, by simp, hL3.mods (hSF _) (hFt (by decide)) (hFt (by decide)), by simpa using hF4, HFG.out.2.far (blk_tyne HFG.out.2 HFG.out.1 (by decide)) _, ownsRow_mods hV3 (hSF _) (fun x hx hs => by subst hs; exact ownsRow_ty hV3 (e' := 3) (by decide) _ hx _ _ HFG.out.1), (hSF _).keeps hK3 (fun x hx => by omega), by omega, by omega, by simp; omega, by have := glen_len gl g u; omega, ?_, ?_⟩
     ·rw [HE.out.1, hok.out]; simp
     ·rw [HE.out.2, hok.out, glen_app]; simp
    case measure => omega
   ·have herr := Lib.hid (scanN_err (k := k') (g := g) hlt he)
    have hne : (atE l u != 0) = true := by simp [he]
    clear he
    go_wp2_with fail
    refine HA.out.mono ?_
    rintro e w1 ⟨pv, rfl, hpv, hK1⟩
    obtain ⟨pp, np, cp, rfl⟩ := piece_sl hpv
    clear hpv
    generalize atE l u = er at *
    unfold frV
    have HL1 := Lib.hid (HL.out.keeps (hK1.alloc (.cells #[.int .i64 (atF l u).at', .int .i64 (atF l u).len, .int .i64 (atF l u).kind, .slice pp np cp] 238)))
    have HK1 := Lib.hid hK1
    clear hK1
    go_wp2_with fail
    go_roundg k'
    case rel =>
     refine ⟨u + 1, g, fl, gl, gv, by simp, HL1.out, HF.out.keeps (HK1.out.alloc _), HG.out.keeps (HK1.out.alloc _), ownsRow_keeps HV.out (HK1.out.alloc _), HK.out.trans (HK1.out.alloc _), by omega, by omega, by omega, by omega, ?_, ?_⟩
     ·rw [HE.out.1, herr.out]
     ·rw [HE.out.2, herr.out]
    case measure => omega
  ·have HS := Lib.hid (shut_any wr w.heap.size (w.heap.size + 1) w.heap.size g l.length gv gl HF.out HG.out HV.out hsz (by omega))
   have hul : u = l.length := by omega
   subst hul
   rw [glen_int] at HS
   go_wp2_with fail
   refine HS.out.mono ?_
   rintro e w2 ⟨rfl, gv2, hF2, hG2, hgl2, hM2⟩
   have hx2 : w2.cell? ⟨w.heap.size, 0, none⟩ = some gv2 := by rw [hG2.cell]; rfl
   have hz2 : w2.frozen? ⟨w.heap.size, 0, none⟩ = false := hG2.frozen 0
   obtain ⟨pg, cg, rfl, hg1, hg2⟩ := ownsRow_form hgl2
   have HX : Hid (∀ w3, Keeps w2 w3 → ScanDid w (scanR l) (.returned (.tuple #[.slice po fl.length capo, .slice pg (glen gl g l.length).length cg])) (w3.setCell ⟨w.heap.size, 0, none⟩ (.slice pg (glen gl g l.length).length cg)).drew) := Lib.hid (fun w3 k3 => by
    have hnu := tyne HG.out HV.out (t := 5) (by decide) (by decide)
    have hnf := tyne HG.out HV.out (t := 238) (by decide) (by decide)
    have hL3 := (HL.out.mods hM2 hnu hnf).keeps k3
    have hG3 := hG2.keeps k3
    have hV3 : GapsAt w3 w.heap.size _ (glen gl g l.length) := ownsRow_keeps hgl2 k3
    have hnu3 := tyne hG3 hV3 (t := 5) (by decide) (by decide)
    have hnf3 := tyne hG3 hV3 (t := 238) (by decide) (by decide)
    have hK3 : Keeps w w3 := (hM2.keeps HK.out (by
     rintro x (rfl | hx)
     ·exact Nat.le_refl _
     ·exact ownsRow_base HV.out x hx)).trans k3
    have hSG : ∀ u', Mods (fun x => x = w.heap.size) w3 (w3.setCell ⟨w.heap.size, 0, none⟩ u') := mods_set w3 _
    refine ⟨_, fl, _, rfl, (hL3.mods (hSG _) (fun x hx => hnu3 x (.inl hx)) (fun x hx => hnf3 x (.inl hx))).keeps ((Keeps.refl _).drew), ?_, ?_, ((hSG _).keeps hK3 (fun x hx => by omega)).drew⟩
    ·rw [HE.out.1, scanN_end (by omega)]; simp
    ·rw [HE.out.2, scanN_end (by omega)]
     have := glen_app gl [] g l.length
     simp only [List.append_nil] at this
     rw [this]
     exact ownsRow_keeps (ownsRow_mods hV3 (hSG _) (fun x hx hs => by subst hs; exact ownsRow_ty hV3 (e' := 234) (by decide) _ hx _ _ hG3)) ((Keeps.refl _).drew))
   have hxd : Hid (∀ u', (w2.setCell ⟨w.heap.size, 0, none⟩ u').drew.cell? ⟨w.heap.size, 0, none⟩ = some u') := Lib.hid fun u' => by
    have := ((hG2.set_ 0 u').drew).cell 0
    rw [this]; simp
   clear hF2 hG2 hgl2 hM2 HS
   go_wp2_with fail
   go_region
   all_goals (try go_wp2_with fail)
   all_goals exact bodyPost_ret (v := .tuple #[.slice po fl.length capo, .slice pg (glen gl g l.length).length cg]) (by simp [results, Tryz.results181, go_sem, hxd.out]) rfl (HX.out _ (Keeps.refl _))
end Frm
end Go.Proofs.YtklbemkafdccgaaGreat

/- The reference's Scan. -/
import Derived.Test.YtekkjhjaacjhnaaFrameRefRow
import Derived.Test.YtekkjhjaacjhnaaFrameSame
import Derived.Test.YtekkjhjaacjhnaaFrameRef
namespace Go.Proofs.Ytekkjhjaacjhnaa
open Go.RowKit
namespace Frm
open Oct

def RScanDid (W : World) (x : List Fr1 × List Gap1) (e : Ending) (w' : World) : Prop :=
  ∃ v l gv, e = .returned (.agg #[v, gv]) ∧ FramesAt w' W.heap.size v l ∧ l.map (·.1) = x.1 ∧ GapsAt w' W.heap.size gv x.2 ∧ Keeps W w'

theorem ownsRow_store {w : World} {base g i C n : Nat} {e t : TypeId} {cs : Array Value} {v : Value} {xs : List Value} (h : w.ownsRow base e C v n xs) (hb : Blk w g t cs) (h1 : e ≠ t) (u : Value) : (w.setCell ⟨g, i, none⟩ u).ownsRow base e C v n xs :=
  ownsRow_mods h (Mods.setCell (p := ⟨g, i, none⟩) (Mods.refl (· = g) w) (fun _ => rfl) u) (fun x hx hs => by subst hs; exact ownsRow_ty h h1 _ hx _ _ hb)
theorem ownsRow_grown {w w' : World} {base base2 C n C2 n2 : Nat} {e e2 : TypeId} {v v2 : Value} {xs xs2 : List Value} (h : w.ownsRow base e C v n xs) (h2 : w.ownsRow base2 e2 C2 v2 n2 xs2) (hne : e2 ≠ e) (hg : w.grownBy w' v2.ownBlock) : w'.ownsRow base e C v n xs := by
  refine ownsRow_mods h ((Mods.refl (fun x => v2.ownBlock = some x) w).grown hg (fun k hk _ => hk)) (fun x hx hs => ?_)
  rcases h.2 with ⟨rfl, _⟩ | ⟨g, cap, cur, rfl, hb, hgg, rest⟩
  · simp [Value.ownBlock] at hx
  · simp [Value.ownBlock] at hx
    subst hx
    exact ownsRow_ty h2 hne _ hs _ _ hgg
theorem FramesAt.grown {w w' : World} {base base2 C2 n2 : Nat} {e2 : TypeId} {v v2 : Value} {l : List (Fr1 × Value)} {xs2 : List Value} (h : FramesAt w base v l) (h2 : w.ownsRow base2 e2 C2 v2 n2 xs2) (h3 : e2 ≠ 5) (h4 : e2 ≠ 161) (hg : w.grownBy w' v2.ownBlock) : FramesAt w' base v l :=
  h.mods ((Mods.refl (fun x => v2.ownBlock = some x) w).grown hg (fun k hk _ => hk)) (ownsRow_ty h2 h3) (ownsRow_ty h2 h4)
theorem ownsRow_lower {w : World} {base base' C n : Nat} {e : TypeId} {v : Value} {xs : List Value} (h : w.ownsRow base e C v n xs) (hb : base' ≤ base) : w.ownsRow base' e C v n xs := by
  refine ⟨h.1, ?_⟩
  rcases h.2 with h0 | ⟨g, cap, cur, rfl, hb', rest⟩
  · exact .inl h0
  · exact .inr ⟨g, cap, cur, rfl, Nat.le_trans hb hb', rest⟩
theorem ownsRow_zero {w : World} {base b : Nat} {e : TypeId} {C : Nat} (hb : b = w.heap.size) (hbase : base ≤ b) : (w.alloc (.cells #[] e)).ownsRow base e C (.slice (some ⟨b, 0, none⟩) 0 0) 0 [] := by
  subst hb
  refine ⟨by simp, .inr ⟨w.heap.size, 0, #[], rfl, hbase, ?_, Nat.le_refl _, Nat.zero_le _, by simp, by simp⟩⟩
  show (w.heap.push _)[w.heap.size]? = _
  simp

theorem FramesAt.modsX {w w' : World} {base g : Nat} {t : TypeId} {cs : Array Value} {v : Value} {l : List (Fr1 × Value)} (h : FramesAt w base v l) (hb : Blk w g t cs) (h1 : t ≠ 5) (h2 : t ≠ 161) (hM : Mods (· = g) w w') : FramesAt w' base v l := by
  refine h.mods hM ?_ ?_
  all_goals
    rintro x rfl cs' fr hx
    unfold Blk at hb
    rw [hb] at hx
    simp only [Option.some.injEq, Obj.cells.injEq] at hx
    first | exact h1 hx.2.1 | exact h2 hx.2.1
theorem run_cut_hS {P : Program} (w : World) {t e : TypeId} {C : Nat} (ht : P.underlying t = some (.slice e)) (hs : ∀ w, (sizeOf e).run P w = .ok C w) (a : Addr) (len cap h : Nat) {kh : IntKind} (h2 : h ≤ cap) (hc : 0 < cap) :
    (Instr.slice t (.slice (some a) len cap) none (some (.int kh h)) none).run P w = .ok (.slice (some a) h cap) w := by
  have he : P.elem t = e := by simp [Program.elem, ht]
  rw [run_slice_h w t (some a) len cap (by rw [he]; exact ht) kh h (by omega) (by omega), he, hs]
  have : ¬ cap = 0 := by omega
  simp [Result.andThen, sliced, this, Addr.add]
theorem s79 : ∀ w, (sizeOf 202).run Try.prog w = .ok 2 w := fun _ => by kernel_rfl
theorem gaps_len (gl : List Gap1) : (gl.flatMap gapC).length = gl.length * 2 := by
  induction gl with
  | nil => rfl
  | cons y gl ih => simp only [List.flatMap_cons, List.length_append, List.length_cons, ih, gapC_len]; omega

set_option maxRecDepth 100000 in
set_option maxHeartbeats 8000000 in
theorem rScan_any (v : Value) (l : List UInt8) (w : World) (hr : Row w v (l.map u8v)) (hl : l.length ≤ 1099511627775) : Calls Try.prog 103 #[v] w (RScanDid w (scanR l)) := by
  obtain ⟨p, cap, rfl, hc1, hc2⟩ := hr.formB
  have HR := Lib.hid hr
  clear hr
  go_enter Try.func103, Try.ntmps103
  go_wp2_with fail
  generalize hwe : World.alloc (World.alloc w _) _ = we
  have hRe : Blk we w.heap.size 163 #[.slice none 0 0, .slice none 0 0] := by
    rw [← hwe]; exact (Blk.new w _ _ rfl).alloc _
  have hXe : Blk we (w.heap.size + 1) 163 #[.slice none 0 0, .slice none 0 0] := by
    rw [← hwe]; exact Blk.new _ _ _ (alloc_size w _).symm
  have hKe : Keeps w we := by rw [← hwe]; exact ((Keeps.refl _).alloc _).alloc _
  clear hwe
  generalize hR : w.heap.size = R at *
  have hRR : w.heap.size ≤ R := by omega
  have HRw := Lib.hid hR
  clear hR
  go_loopg [4] l.length (fun gk uo wr => ∃ (u g : Nat) (fl : List (Fr1 × Value)) (gl : List Gap1) (vo vg : Value), uo = .int .i64 (u : Int) ∧ FramesAt wr R vo fl ∧ GapsAt wr R vg (glen gl g u) ∧ Blk wr (R + 1) 163 #[vo, vg] ∧ Blk wr R 163 #[.slice none 0 0, .slice none 0 0] ∧ Keeps w wr ∧ u ≤ l.length ∧ l.length ≤ u + gk ∧ fl.length ≤ u ∧ (glen gl g u).length ≤ u ∧ g ≤ u ∧ (∀ x, gl.getLast? = some x → x.to < g) ∧ (scanR l).1 = fl.map (·.1) ++ (scanN l gk g u).1 ∧ (scanR l).2 = gl ++ (scanN l gk g u).2)
  case atStart => exact ⟨0, 0, [], [], _, _, rfl, FramesAt.nil _ _, GapsAt.nil _ _, hXe, hRe, hKe, Nat.zero_le _, by omega, by simp, by simp [glen], Nat.le_refl _, by simp, by simp [scanR], by simp [scanR]⟩
  case round =>
    obtain ⟨u, g, fl, gl, vo, vg, rfl, hfl, hgl, hX, hRb, hK, hu, hgk, hfu, hgu, hgle, hlast, he1, he2⟩ := hrel
    obtain ⟨po, capo, rfl, hpo1, hpo2⟩ := ownsRow_form hfl.own
    obtain ⟨pg, capg, rfl, hpg1, hpg2⟩ := ownsRow_form hgl
    have HF := Lib.hid hfl
    have HG := Lib.hid hgl
    have HE := Lib.hid (And.intro he1 he2)
    have HLast := Lib.hid hlast
    have HK := Lib.hid hK
    have HX := Lib.hid hX
    have HRb := Lib.hid hRb
    have hRlt := hRb.lt
    have hXlt := hX.lt
    clear hfl hgl he1 he2 hK hX hRb hlast
    have hx0 : wr.cell? ⟨R + 1, 0, none⟩ = some (.slice po fl.length capo) := by rw [HX.out.cell]; rfl
    have hx1 : wr.cell? ⟨R + 1, 1, none⟩ = some (.slice pg (glen gl g u).length capg) := by rw [HX.out.cell]; rfl
    by_cases hlt : u < l.length
    · obtain ⟨k', rfl⟩ : ∃ k', gk = k' + 1 := ⟨gk - 1, by omega⟩
      have HA := Lib.hid (rAt_any (.slice p l.length cap) l u wr (HR.out.keeps HK.out) (by omega))
      by_cases he : atE l u = 0
      · have hok := Lib.hid (scanN_ok (k := k') (g := g) hlt he)
        obtain ⟨hl10, hlen, hl0⟩ := atE_len he
        rw [he] at HA
        clear he
        generalize atF l u = f at *
        obtain ⟨m, hm⟩ := Int.eq_ofNat_of_zero_le hl0
        go_wp2_with fail
        refine HA.out.mono ?_
        rintro e w1 ⟨pv, rfl, hpv, hK1⟩
        obtain ⟨pp, np, cp, rfl⟩ := piece_sl hpv
        have HP1 := Lib.hid (hpv.lower (show R ≤ wr.heap.size by omega))
        have HF1 := Lib.hid (HF.out.keeps hK1)
        have HG1 := Lib.hid (ownsRow_keeps HG.out hK1)
        have HX1 := Lib.hid (HX.out.keeps hK1)
        have HR1 := Lib.hid (HRb.out.keeps hK1)
        have HK1 := Lib.hid (HK.out.trans hK1)
        have hsz1 := hK1.size
        clear hpv hK1 HF HK HX HRb HG hx0 hx1
        obtain ⟨fa, fle, fk, fp⟩ := f
        unfold frV
        simp only at hm hl10 hlen hl0
        subst hm
        go_upto_region 6 with fail
        generalize hWa : World.alloc w1 _ = wa
        have hFb : Blk wa w1.heap.size 161 #[.int .i64 fa, .int .i64 (m : Int), .int .i64 fk, .slice pp np cp] := by rw [← hWa]; exact Blk.new _ _ _ rfl
        have hKa : Keeps w1 wa := by rw [← hWa]; exact (Keeps.refl _).alloc _
        have HFa := Lib.hid (HF1.out.keeps hKa)
        have HGa := Lib.hid (ownsRow_keeps HG1.out hKa)
        have HPa := Lib.hid (HP1.out.keeps hKa)
        have HXa := Lib.hid (HX1.out.keeps hKa)
        have HRa := Lib.hid (HR1.out.keeps hKa)
        have HKa := Lib.hid (HK1.out.trans hKa)
        have hsza := hKa.size
        have hc0 : wa.cell? ⟨w1.heap.size, 0, none⟩ = some (.int .i64 fa) := by rw [hFb.cell]; rfl
        have hc1' : wa.cell? ⟨w1.heap.size, 1, none⟩ = some (.int .i64 (m : Int)) := by rw [hFb.cell]; rfl
        have hc2' : wa.cell? ⟨w1.heap.size, 2, none⟩ = some (.int .i64 fk) := by rw [hFb.cell]; rfl
        have hc3 : wa.cell? ⟨w1.heap.size, 3, none⟩ = some (.slice pp np cp) := by rw [hFb.cell]; rfl
        have hx0 : wa.cell? ⟨R + 1, 0, none⟩ = some (.slice po fl.length capo) := by rw [HXa.out.cell]; rfl
        have HFb := Lib.hid hFb
        have hne : Value.ownBlock (.slice po fl.length capo) ≠ some w1.heap.size := fun h => by
          exact absurd (ownsRow_lt HF1.out.own _ h) (by omega)
        have HNe := Lib.hid hne
        have HNx : Hid (Value.ownBlock (.slice po fl.length capo) ≠ some (R + 1) ∧ Value.ownBlock (.slice po fl.length capo) ≠ some R) := Lib.hid ⟨ownsRow_ne HFa.out.own HXa.out (by decide), ownsRow_ne HFa.out.own HRa.out (by decide)⟩
        clear hWa hFb hKa HF1 HP1 HK1 hne HX1 HR1 HG1
        generalize hQ : w1.heap.size = q at *
        have hqR : R + 1 < q := by omega
        have hqR' : q ≠ R + 1 ∧ R + 1 ≠ q := by omega
        have hqa : q < wa.heap.size := HFb.out.lt
        clear hQ
        go_wp2_with (at_builtin; refine wpList_apps (base := R) frok (by decide) rfl _ _ rfl (.slice po fl.length capo) (.slice (some ⟨wa.heap.size, 0, none⟩) 1 1) fl.length 1 (fl.flatMap frC) [.int .i64 fa, .int .i64 (m : Int), .int .i64 fk, .slice pp np cp] rfl rfl (ownsRow_keeps HFa.out.own ((Keeps.refl _).alloc _)) (rowS_lit rfl rfl rfl) (by simp [Value.oneCell']) (by omega) (by decide) (by simp; omega) ?_; intro v' w2 ho2 hg2 hf2; have hB2 := (HFb.out.alloc _).grown hg2 HNe.out; have hm2 : w2.cell? ⟨q, 1, none⟩ = some (.int .i64 (m : Int)) := by { rw [hB2.cell]; rfl }; have hX2 := (HXa.out.alloc _).grown hg2 HNx.out.1; have hR2 := (HRa.out.alloc _).grown hg2 HNx.out.2; have hx0' : w2.cell? ⟨R + 1, 0, none⟩ = some (.slice po fl.length capo) := by { rw [hX2.cell]; rfl }; have hz0 : w2.frozen? ⟨R + 1, 0, none⟩ = false := hX2.frozen 0; have HX2 := Lib.hid hX2; have HR2 := Lib.hid hR2; have HB2 := Lib.hid hB2; obtain ⟨p2, cap2, rfl, -, -⟩ := ownsRow_form ho2; clear hX2 hR2 hB2)
        go_roundg k'
        case rel =>
          have hL2 : FramesAt w2 R (.slice p2 (fl.length + 1) cap2) (fl ++ [(⟨fa, m, fk, fp⟩, .slice pp np cp)]) := (HFa.out.keeps ((Keeps.refl _).alloc _)).snoc (f := ⟨fa, m, fk, fp⟩) (pv := .slice pp np cp) (HPa.out.keeps ((Keeps.refl _).alloc _)) ho2 hg2
          have hG2 := ownsRow_grown (ownsRow_keeps HGa.out ((Keeps.refl _).alloc _)) (ownsRow_keeps HFa.out.own ((Keeps.refl _).alloc _)) (by decide) hg2
          have hX3 := HX2.out.set_ 0 (.slice p2 (fl.length + 1) cap2)
          have hK2 : Keeps w w2 := (HKa.out.alloc _).grown hg2 (fun x hx => by have := ownsRow_base HFa.out.own x hx; omega)
          have hgg : glen (glen gl g u) (u + m) (u + m) = glen gl g u := by rw [glen, if_neg (by omega)]
          refine ⟨u + m, u + m, fl ++ [(⟨fa, m, fk, fp⟩, .slice pp np cp)], glen gl g u, .slice p2 (fl.length + 1) cap2, .slice pg (glen gl g u).length capg, by simp, hL2.store HX2.out (by decide) (by decide) _, ?_, by simpa using hX3, HR2.out.far (by simp) _, rowLine0 hK2 (by omega) _, by omega, by omega, by simp; omega, by rw [hgg]; omega, Nat.le_refl _, ?_, ?_, ?_⟩
          · rw [hgg]
            exact ownsRow_store hG2 HX2.out (by decide) _
          · intro x hx
            unfold glen at hx
            split at hx
            · simp at hx; subst hx; simp; omega
            · have := HLast.out x hx; omega
          · rw [HE.out.1, hok.out]; simp
          · rw [HE.out.2, hok.out, glen_app]; simp
        case measure => omega
      · have herr := Lib.hid (scanN_err (k := k') (g := g) hlt he)
        have hne : (atE l u == 0) = false := by simp [he]
        clear he
        go_wp2_with fail
        refine HA.out.mono ?_
        rintro e w1 ⟨pv, rfl, hpv, hK1⟩
        obtain ⟨pp, np, cp, rfl⟩ := piece_sl hpv
        have HF1 := Lib.hid (HF.out.keeps hK1)
        have HG1 := Lib.hid (ownsRow_keeps HG.out hK1)
        have HX1 := Lib.hid (HX.out.keeps hK1)
        have HR1 := Lib.hid (HRb.out.keeps hK1)
        have HK1 := Lib.hid (HK.out.trans hK1)
        have hsz1 := hK1.size
        clear hpv hK1 hx0 hx1 HF HG HK HX HRb
        generalize atE l u = er at *
        unfold frV
        go_upto_region 8 with fail
        generalize hWa : World.alloc w1 _ = wa
        have hKa : Keeps w1 wa := by rw [← hWa]; exact (Keeps.refl _).alloc _
        have HFa := Lib.hid (HF1.out.keeps hKa)
        have HGa := Lib.hid (ownsRow_keeps HG1.out hKa)
        have HXa := Lib.hid (HX1.out.keeps hKa)
        have HRa := Lib.hid (HR1.out.keeps hKa)
        have HKa := Lib.hid (HK1.out.trans hKa)
        have hsza := Nat.le_trans hsz1 hKa.size
        clear hWa hKa HF1 HX1 HR1 HK1 HG1 hsz1
        have hx0 : wa.cell? ⟨R + 1, 0, none⟩ = some (.slice po fl.length capo) := by rw [HXa.out.cell]; rfl
        have hx1 : wa.cell? ⟨R + 1, 1, none⟩ = some (.slice pg (glen gl g u).length capg) := by rw [HXa.out.cell]; rfl
        have hf1 : wa.frozen? ⟨R + 1, 1, none⟩ = false := HXa.out.frozen 1
        have hXl := HXa.out.lt
        by_cases hgu2 : g < u
        · have hg0 : glen gl g u = gl ++ [⟨(g : Int), (u : Int)⟩] := by rw [glen, if_pos hgu2]
          have hg1 : glen gl g (u + 1) = gl ++ [⟨(g : Int), (u : Int) + 1⟩] := by rw [glen, if_pos (by omega)]; simp
          have hgl1 : (glen gl g u).length = gl.length + 1 := by rw [hg0]; simp
          rw [hgl1] at hx1 hgu
          have hGa : GapsAt wa R (.slice pg (gl.length + 1) capg) (gl ++ [⟨(g : Int), (u : Int)⟩]) := by
            have := HGa.out
            unfold GapsAt at this ⊢
            rw [hgl1, hg0] at this
            rw [List.length_append]
            exact this
          have HXb : Hid (Blk wa (R + 1) 163 #[.slice po fl.length capo, .slice pg (gl.length + 1) capg]) := Lib.hid (by have := HXa.out; rwa [hgl1] at this)
          rw [hgl1] at hpg1
          have HGG := Lib.hid (And.intro hg0 hg1)
          clear hg0 hg1 HXa HGa hgl1
          obtain ⟨gg, cc, hv, hgR, -, -, hc⟩ := ownsRow_at hGa (by simp)
          simp only [Value.slice.injEq] at hv
          obtain ⟨rfl, -, rfl⟩ := hv
          have hL : ∀ j, j < 2 → ((gl ++ [(⟨(g : Int), (u : Int)⟩ : Gap1)]).flatMap gapC)[gl.length * 2 + j]? = [Value.int .i64 (g : Int), .int .i64 (u : Int)][j]? := fun j hj => by
            rw [gap_at (by simp) hj]; simp [gapC]
          have hcg : wa.cell? ⟨gg, gl.length * 2, none⟩ = some (.int .i64 (g : Int)) := hc (gl.length * 2 + 0) _ (by rw [hL 0 (by omega)]; rfl)
          have hcu : wa.cell? ⟨gg, gl.length * 2 + 1, none⟩ = some (.int .i64 (u : Int)) := hc (gl.length * 2 + 1) _ (by rw [hL 1 (by omega)]; rfl)
          have HGa := Lib.hid hGa
          have hneX : ¬ gg = R + 1 := fun h => ownsRow_ne hGa HXb.out (by decide) (by rw [h]; rfl)
          have HCl := Lib.hid hc
          clear hGa hc hL
          go_upto_region 11 with fail
          generalize hWg : World.alloc wa _ = wg
          have hKg : Keeps wa wg := by rw [← hWg]; exact (Keeps.refl _).alloc _
          have hQ : Blk wg wa.heap.size 202 #[.int .i64 (g : Int), .int .i64 ((u : Int) + 1)] := by rw [← hWg]; exact Blk.new _ _ _ rfl
          have hq0 : wg.cell? ⟨wa.heap.size, 0, none⟩ = some (.int .i64 (g : Int)) := by rw [hQ.cell]; rfl
          have hq1 : wg.cell? ⟨wa.heap.size, 1, none⟩ = some (.int .i64 ((u : Int) + 1)) := by rw [hQ.cell]; rfl
          have hqX : ¬ wa.heap.size = R + 1 := by omega
          have HFg := Lib.hid (HFa.out.keeps hKg)
          have HX := Lib.hid (HXb.out.keeps hKg)
          have HXg := HX
          have HRg := Lib.hid (HRa.out.keeps hKg)
          have HKg := Lib.hid (HKa.out.trans hKg)
          have hXlg := HX.out.lt
          have HLen : Hid ((gl.flatMap gapC).length = gl.length * 2 ∧ ∀ x ∈ gl.flatMap gapC, x.oneCell' = true) := Lib.hid ⟨gaps_len gl, fun x hx => by
            obtain ⟨y, -, hy⟩ := List.mem_flatMap.1 hx
            simp only [gapC, List.mem_cons, List.not_mem_nil, or_false] at hy
            rcases hy with rfl | rfl <;> rfl⟩
          have HC : Hid (∀ x, Mods (· = R + 1) wg x → ∀ j y, (gl.flatMap gapC)[j]? = some y → x.cell? ((⟨gg, 0, none⟩ : Addr).add j) = some y) := Lib.hid (fun x hM j y hy => by
            rw [Go.WideShapes.add_plain]
            refine hM.cell ?_ hneX
            have h := HCl.out j y (by rw [List.flatMap_append, List.getElem?_append_left (List.getElem?_eq_some_iff.1 hy).1]; exact hy)
            rw [Nat.zero_add]
            exact keep1 hKg h)
          have es : ∀ w', (Instr.slice 157 (.slice (some ⟨gg, 0, none⟩) (gl.length + 1) capg) none (some (.int .i64 (gl.length : Int))) none).run Try.prog w' = .ok (.slice (some ⟨gg, 0, none⟩) gl.length capg) w' := fun w' => run_cut_hS w' Try.underlying157 s79 _ _ _ _ (by omega) (by omega)
          clear hWg hKg hQ hcg hcu hx0 hx1 hf1
          have HX := Lib.hid HX.out.drew
          have hwl : IntKind.i64.wrap (gl.length : Int) = (gl.length : Int) := IntWalk.i64_in _ (by omega)
          refine wp_region_noPanic ?_
          refine wp_region_held_drew (S := fun w' => Mods (· = R + 1) wg w') (by kernel_rfl) ((Mods.refl (· = R + 1) wg).drew) (fun _ => ?_)
          have hHeld : Mods (· = R + 1) wg (wg).drew := (Mods.refl (· = R + 1) wg).drew
          generalize World.drew wg = xs at *
          refine wpAnyH_take (i := 1) (v := ?vv1) (by rfl) (by kernel_rfl) (by kernel_rfl) (by kernel_rfl) (by intro _ _ _ h; exact h) (Or.inl ⟨by kernel_rfl, ?hy1⟩) (by assumption) ?rest1
          case hy1 =>
            intro w' hSw
            have hSw : Mods (· = R + 1) wg w' := hSw
            clear hSw
            go_simp
            try with_reducible rfl
          change wpAnyH _ _ _ _ _ _ _ (Act.put _ (some 59) _) _
          try simp only [Act.put, List.setIfInBounds_toArray, List.set_cons_zero, List.set_cons_succ]
          refine wpAnyH_take (i := 3) (v := ?vv2) (by rfl) (by kernel_rfl) (by kernel_rfl) (by kernel_rfl) (by intro _ _ _ h; exact h) (Or.inl ⟨by kernel_rfl, ?hy2⟩) (by assumption) ?rest2
          case hy2 =>
            intro w' hSw
            have hSw : Mods (· = R + 1) wg w' := hSw
            clear hSw
            go_simp
            try with_reducible rfl
          change wpAnyH _ _ _ _ _ _ _ (Act.put _ (some 61) _) _
          try simp only [Act.put, List.setIfInBounds_toArray, List.set_cons_zero, List.set_cons_succ]
          refine wpAnyH_take (i := 4) (v := ?vv3) (by rfl) (by kernel_rfl) (by kernel_rfl) (by kernel_rfl) (by intro _ _ _ h; exact h) (Or.inl ⟨by kernel_rfl, ?hy3⟩) (by assumption) ?rest3
          case hy3 =>
            intro w' hSw
            have hSw : Mods (· = R + 1) wg w' := hSw
            clear hSw
            go_simp
            try with_reducible rfl
          change wpAnyH _ _ _ _ _ _ _ (Act.put _ (some 62) _) _
          try simp only [Act.put, List.setIfInBounds_toArray, List.set_cons_zero, List.set_cons_succ]
          refine wpAnyH_take (i := 7) (v := ?vv4) (by rfl) (by kernel_rfl) (by kernel_rfl) (by kernel_rfl) (by intro _ _ _ h; exact h) (Or.inl ⟨by kernel_rfl, ?hy4⟩) (by assumption) ?rest4
          case hy4 =>
            intro w' hSw
            have hSw : Mods (· = R + 1) wg w' := hSw
            have hx := hSw.cell hq0 hqX
            have hy := hSw.cell hq1 hqX
            clear hSw
            go_simp
            try with_reducible rfl
          change wpAnyH _ _ _ _ _ _ _ (Act.put _ (some 65) _) _
          try simp only [Act.put, List.setIfInBounds_toArray, List.set_cons_zero, List.set_cons_succ]
          refine wpAnyH_ready (rs := [0, 2, 8]) (by kernel_rfl) (by simp) ?_
          refine AllReadyH.cons (o := _) rfl (fun K hK => ?_) ?_
          · go_simp
            obtain ⟨g0, hg0⟩ : ∃ g, g = (World.heap xs).size := ⟨_, rfl⟩
            have hge0 : wg.heap.size ≤ g0 := by rw [hg0]; exact hHeld.size
            have H0 : Hid (World.ownsRow (World.alloc xs (.cells #[] 202)) wg.heap.size 202 2 (.slice (some ⟨g0, 0, none⟩) 0 0) 0 []) := Lib.hid (ownsRow_zero hg0 hge0)
            have HX := Lib.hid (HX.out.alloc (.cells #[] 202))
            have hb := hHeld.alloc (.cells #[] 202)
            have hlt0 : g0 < (World.alloc xs (.cells #[] 202)).heap.size := by rw [alloc_size]; omega
            have HG0 := Lib.hid hg0
            clear hg0
            generalize World.alloc xs (.cells #[] 202) = x0 at *
            refine hK.out _ _ hb (fun _ => ?_)
            clear hK K hHeld
            have hHeld : Mods (· = R + 1) wg x0 := hb
            clear hb
            try simp only [Act.put, List.setIfInBounds_toArray, List.set_cons_zero, List.set_cons_succ]
            refine wpAnyH_ready (rs := [2, 8]) (by kernel_rfl) (by simp) ?_
            refine AllReadyH.cons (o := _) rfl (fun K hK => ?_) ?_
            · have hx : World.cell? x0 ⟨R + 1, 1, none⟩ = some (.slice (some ⟨gg, 0, none⟩) (gl.length + 1) capg) := by rw [HX.out.cell]; rfl
              go_simp
              clear hx
              have hb := hHeld
              refine hK.out _ _ hb (fun _ => ?_)
              clear hK K hHeld
              have hHeld : Mods (· = R + 1) wg x0 := hb
              clear hb
              try simp only [Act.put, List.setIfInBounds_toArray, List.set_cons_zero, List.set_cons_succ]
              refine wpAnyH_take (i := 5) (v := ?vv5) (by rfl) (by kernel_rfl) (by kernel_rfl) (by kernel_rfl) (by intro _ _ _ h; exact h) (Or.inl ⟨by kernel_rfl, ?hy5⟩) (by assumption) ?rest5
              case hy5 =>
                intro w' hSw
                have hSw : Mods (· = R + 1) wg w' := hSw
                clear hSw
                go_simp
                try with_reducible rfl
              change wpAnyH _ _ _ _ _ _ _ (Act.put _ (some 63) _) _
              try simp only [Act.put, List.setIfInBounds_toArray, List.set_cons_zero, List.set_cons_succ]
              refine wpAnyH_ready (rs := [6, 8]) (by kernel_rfl) (by simp) ?_
              refine AllReadyH.cons (o := _) rfl (fun K hK => ?_) ?_
              · refine step_app (base := wg.heap.size) gapok (by decide) rfl _ _ rfl (.slice (some ⟨g0, 0, none⟩) 0 0) 0 gl.length capg ⟨gg, 0, none⟩ [] (gl.flatMap gapC) (congrArg (fun g => Value.slice (some ⟨g, 0, none⟩) 0 0) HG0.out.symm) rfl H0.out HLen.out.1 (HC.out _ hHeld) HLen.out.2 (by omega) (by decide) hHeld.size ?_
                intro v6 x6 ho6 hg6
                rw [Nat.zero_add, List.nil_append] at ho6
                have H6 := Lib.hid ho6
                have HX := Lib.hid (HX.out.grown hg6 (by simp [Value.ownBlock]; omega))
                have hb := hHeld.grown hg6 (fun k hk hlt => by simp [Value.ownBlock] at hk; omega)
                clear ho6 hg6 H0
                show K (Act.put _ (some 64) v6) x6
                refine hK.out _ _ hb (fun _ => ?_)
                clear hK K hHeld
                have hHeld : Mods (· = R + 1) wg x6 := hb
                clear hb
                try simp only [Act.put, List.setIfInBounds_toArray, List.set_cons_zero, List.set_cons_succ]
                refine wpAnyH_ready (rs := [8]) (by kernel_rfl) (by simp) ?_
                refine AllReadyH.cons (o := _) rfl (fun K hK => ?_) ?_
                · go_simp
                  obtain ⟨b8, hb8⟩ : ∃ g, g = (World.heap x6).size := ⟨_, rfl⟩
                  have HB8 : Hid (Blk (World.alloc x6 (.cells #[.int .i64 (g : Int), .int .i64 ((u : Int) + 1)] 202)) b8 202 #[.int .i64 (g : Int), .int .i64 ((u : Int) + 1)]) := Lib.hid (Blk.new _ _ _ hb8)
                  have HX := Lib.hid (HX.out.alloc (.cells #[.int .i64 (g : Int), .int .i64 ((u : Int) + 1)] 202))
                  have H6 := Lib.hid (ownsRow_keeps H6.out ((Keeps.refl _).alloc (.cells #[.int .i64 (g : Int), .int .i64 ((u : Int) + 1)] 202)))
                  have hb := hHeld.alloc (.cells #[.int .i64 (g : Int), .int .i64 ((u : Int) + 1)] 202)
                  have HBB := Lib.hid hb8
                  clear hb8
                  generalize World.alloc x6 (.cells #[.int .i64 (g : Int), .int .i64 ((u : Int) + 1)] 202) = x8 at *
                  refine hK.out _ _ hb (fun _ => ?_)
                  clear hK K hHeld
                  have hHeld : Mods (· = R + 1) wg x8 := hb
                  clear hb
                  try simp only [Act.put, List.setIfInBounds_toArray, List.set_cons_zero, List.set_cons_succ]
                  refine wpAnyH_ready (rs := [9]) (by kernel_rfl) (by simp) ?_
                  refine AllReadyH.cons (o := _) rfl (fun K hK => ?_) ?_
                  · refine step_app (base := wg.heap.size) gapok (by decide) rfl _ _ rfl v6 gl.length 1 1 ⟨b8, 0, none⟩ (gl.flatMap gapC) [.int .i64 (g : Int), .int .i64 ((u : Int) + 1)] rfl (congrArg (fun g => Value.slice (some ⟨g, 0, none⟩) 1 1) HBB.out.symm) H6.out rfl (fun j y hy => by rw [Go.WideShapes.add_plain, HB8.out.cell, Nat.zero_add]; simpa using hy) (by simp [Value.oneCell']) (by omega) (by decide) hHeld.size ?_
                    intro v9 x9 ho9 hg9
                    obtain ⟨p9, c9, rfl, -, -⟩ := ownsRow_form ho9
                    have H9 := Lib.hid ho9
                    have HX := Lib.hid (HX.out.grown hg9 (ownsRow_ne H6.out HX.out (by decide)))
                    have hb := hHeld.grown hg9 (fun k hk hlt => by have := ownsRow_base H6.out k hk; omega)
                    clear ho9 hg9 H6 HB8
                    show K (Act.put _ (some 67) _) x9
                    refine hK.out _ _ hb (fun _ => ?_)
                    clear hK K hHeld
                    have hHeld : Mods (· = R + 1) wg x9 := hb
                    clear hb
                    try simp only [Act.put, List.setIfInBounds_toArray, List.set_cons_zero, List.set_cons_succ]
                    refine wpAnyH_take (i := 10) (v := ?vv6) (by rfl) (by kernel_rfl) (by kernel_rfl) (by kernel_rfl) (by intro _ _ _ h; exact h) (Or.inl ⟨by kernel_rfl, ?hy6⟩) (by assumption) ?rest6
                    case hy6 =>
                      intro w' hSw
                      have hSw : Mods (· = R + 1) wg w' := hSw
                      clear hSw
                      go_simp
                      try with_reducible rfl
                    change wpAnyH _ _ _ _ _ _ _ (Act.put _ (some 68) _) _
                    try simp only [Act.put, List.setIfInBounds_toArray, List.set_cons_zero, List.set_cons_succ]
                    refine wpAnyH_ready (rs := [11]) (by kernel_rfl) (by simp) ?_
                    refine AllReadyH.cons (o := _) rfl (fun K hK => ?_) ?_
                    · have hx : World.cell? x9 ⟨R + 1, 1, none⟩ = some (.slice (some ⟨gg, 0, none⟩) (gl.length + 1) capg) := by rw [HX.out.cell]; rfl
                      have hz : World.frozen? x9 ⟨R + 1, 1, none⟩ = false := HX.out.frozen 1
                      go_simp
                      have HX3 := Lib.hid (HX.out.set_ 1 (.slice p9 (gl.length + 1) c9))
                      have H9s := Lib.hid (ownsRow_store (i := 1) H9.out HX.out (by decide) (.slice p9 (gl.length + 1) c9))
                      have hb := hHeld.setCell (p := ⟨R + 1, 1, none⟩) (fun _ => rfl) (.slice p9 (gl.length + 1) c9)
                      clear hx hz HX H9
                      generalize World.setCell x9 ⟨R + 1, 1, none⟩ (.slice p9 (gl.length + 1) c9) = xF at *
                      refine hK.out _ _ hb (fun _ => ?_)
                      clear hK K hHeld
                      have hHeld : Mods (· = R + 1) wg xF := hb
                      clear hb
                      try simp only [Act.put, List.setIfInBounds_toArray, List.set_cons_zero, List.set_cons_succ]
                      refine wpAnyH_done (by kernel_rfl) ?_ _
                      refine NoPanic.normal ?_
                      go_wp2_with fail
                      go_roundg k'
                      case rel =>
                        have hgl2 : (glen gl g (u + 1)).length = gl.length + 1 := by rw [HGG.out.2]; simp
                        refine ⟨u + 1, g, fl, gl, .slice po fl.length capo, .slice p9 (gl.length + 1) c9, by simp, HFg.out.modsX HXg.out (by decide) (by decide) hHeld, ?_, by simpa using HX3.out, HRg.out.mods hHeld (by simp), hHeld.keeps HKg.out (fun x hx => by omega), by omega, by omega, by omega, by rw [hgl2]; omega, by omega, HLast.out, ?_, ?_⟩
                        · unfold GapsAt
                          rw [HGG.out.2, List.length_append, List.flatMap_append]
                          exact ownsRow_lower H9s.out (by have := HKg.out.size; omega)
                        · rw [HE.out.1, herr.out]
                        · rw [HE.out.2, herr.out]
                      case measure => omega
                    exact AllReadyH.nil
                  exact AllReadyH.nil
                exact AllReadyH.nil
              refine AllReadyH.cons (o := _) rfl (fun K hK => ?_) ?_
              · go_simp
                obtain ⟨b8, hb8⟩ : ∃ g, g = (World.heap x0).size := ⟨_, rfl⟩
                have HB8 : Hid (Blk (World.alloc x0 (.cells #[.int .i64 (g : Int), .int .i64 ((u : Int) + 1)] 202)) b8 202 #[.int .i64 (g : Int), .int .i64 ((u : Int) + 1)]) := Lib.hid (Blk.new _ _ _ hb8)
                have HX := Lib.hid (HX.out.alloc (.cells #[.int .i64 (g : Int), .int .i64 ((u : Int) + 1)] 202))
                have H0 := Lib.hid (ownsRow_keeps H0.out ((Keeps.refl _).alloc (.cells #[.int .i64 (g : Int), .int .i64 ((u : Int) + 1)] 202)))
                have hne80 : b8 ≠ g0 := by omega
                have hb := hHeld.alloc (.cells #[.int .i64 (g : Int), .int .i64 ((u : Int) + 1)] 202)
                have HBB := Lib.hid hb8
                clear hb8
                generalize World.alloc x0 (.cells #[.int .i64 (g : Int), .int .i64 ((u : Int) + 1)] 202) = x8 at *
                refine hK.out _ _ hb (fun _ => ?_)
                clear hK K hHeld
                have hHeld : Mods (· = R + 1) wg x8 := hb
                clear hb
                try simp only [Act.put, List.setIfInBounds_toArray, List.set_cons_zero, List.set_cons_succ]
                refine wpAnyH_ready (rs := [6]) (by kernel_rfl) (by simp) ?_
                refine AllReadyH.cons (o := _) rfl (fun K hK => ?_) ?_
                · refine step_app (base := wg.heap.size) gapok (by decide) rfl _ _ rfl (.slice (some ⟨g0, 0, none⟩) 0 0) 0 gl.length capg ⟨gg, 0, none⟩ [] (gl.flatMap gapC) (congrArg (fun g => Value.slice (some ⟨g, 0, none⟩) 0 0) HG0.out.symm) rfl H0.out HLen.out.1 (HC.out _ hHeld) HLen.out.2 (by omega) (by decide) hHeld.size ?_
                  intro v6 x6 ho6 hg6
                  rw [Nat.zero_add, List.nil_append] at ho6
                  have H6 := Lib.hid ho6
                  have HX := Lib.hid (HX.out.grown hg6 (by simp [Value.ownBlock]; omega))
                  have HB8 := Lib.hid (HB8.out.grown hg6 (by simp [Value.ownBlock]; omega))
                  have hb := hHeld.grown hg6 (fun k hk hlt => by simp [Value.ownBlock] at hk; omega)
                  clear ho6 hg6 H0
                  show K (Act.put _ (some 64) v6) x6
                  refine hK.out _ _ hb (fun _ => ?_)
                  clear hK K hHeld
                  have hHeld : Mods (· = R + 1) wg x6 := hb
                  clear hb
                  try simp only [Act.put, List.setIfInBounds_toArray, List.set_cons_zero, List.set_cons_succ]
                  refine wpAnyH_ready (rs := [9]) (by kernel_rfl) (by simp) ?_
                  refine AllReadyH.cons (o := _) rfl (fun K hK => ?_) ?_
                  · refine step_app (base := wg.heap.size) gapok (by decide) rfl _ _ rfl v6 gl.length 1 1 ⟨b8, 0, none⟩ (gl.flatMap gapC) [.int .i64 (g : Int), .int .i64 ((u : Int) + 1)] rfl (congrArg (fun g => Value.slice (some ⟨g, 0, none⟩) 1 1) HBB.out.symm) H6.out rfl (fun j y hy => by rw [Go.WideShapes.add_plain, HB8.out.cell, Nat.zero_add]; simpa using hy) (by simp [Value.oneCell']) (by omega) (by decide) hHeld.size ?_
                    intro v9 x9 ho9 hg9
                    obtain ⟨p9, c9, rfl, -, -⟩ := ownsRow_form ho9
                    have H9 := Lib.hid ho9
                    have HX := Lib.hid (HX.out.grown hg9 (ownsRow_ne H6.out HX.out (by decide)))
                    have hb := hHeld.grown hg9 (fun k hk hlt => by have := ownsRow_base H6.out k hk; omega)
                    clear ho9 hg9 H6 HB8
                    show K (Act.put _ (some 67) _) x9
                    refine hK.out _ _ hb (fun _ => ?_)
                    clear hK K hHeld
                    have hHeld : Mods (· = R + 1) wg x9 := hb
                    clear hb
                    try simp only [Act.put, List.setIfInBounds_toArray, List.set_cons_zero, List.set_cons_succ]
                    refine wpAnyH_take (i := 10) (v := ?vv7) (by rfl) (by kernel_rfl) (by kernel_rfl) (by kernel_rfl) (by intro _ _ _ h; exact h) (Or.inl ⟨by kernel_rfl, ?hy7⟩) (by assumption) ?rest7
                    case hy7 =>
                      intro w' hSw
                      have hSw : Mods (· = R + 1) wg w' := hSw
                      clear hSw
                      go_simp
                      try with_reducible rfl
                    change wpAnyH _ _ _ _ _ _ _ (Act.put _ (some 68) _) _
                    try simp only [Act.put, List.setIfInBounds_toArray, List.set_cons_zero, List.set_cons_succ]
                    refine wpAnyH_ready (rs := [11]) (by kernel_rfl) (by simp) ?_
                    refine AllReadyH.cons (o := _) rfl (fun K hK => ?_) ?_
                    · have hx : World.cell? x9 ⟨R + 1, 1, none⟩ = some (.slice (some ⟨gg, 0, none⟩) (gl.length + 1) capg) := by rw [HX.out.cell]; rfl
                      have hz : World.frozen? x9 ⟨R + 1, 1, none⟩ = false := HX.out.frozen 1
                      go_simp
                      have HX3 := Lib.hid (HX.out.set_ 1 (.slice p9 (gl.length + 1) c9))
                      have H9s := Lib.hid (ownsRow_store (i := 1) H9.out HX.out (by decide) (.slice p9 (gl.length + 1) c9))
                      have hb := hHeld.setCell (p := ⟨R + 1, 1, none⟩) (fun _ => rfl) (.slice p9 (gl.length + 1) c9)
                      clear hx hz HX H9
                      generalize World.setCell x9 ⟨R + 1, 1, none⟩ (.slice p9 (gl.length + 1) c9) = xF at *
                      refine hK.out _ _ hb (fun _ => ?_)
                      clear hK K hHeld
                      have hHeld : Mods (· = R + 1) wg xF := hb
                      clear hb
                      try simp only [Act.put, List.setIfInBounds_toArray, List.set_cons_zero, List.set_cons_succ]
                      refine wpAnyH_done (by kernel_rfl) ?_ _
                      refine NoPanic.normal ?_
                      go_wp2_with fail
                      go_roundg k'
                      case rel =>
                        have hgl2 : (glen gl g (u + 1)).length = gl.length + 1 := by rw [HGG.out.2]; simp
                        refine ⟨u + 1, g, fl, gl, .slice po fl.length capo, .slice p9 (gl.length + 1) c9, by simp, HFg.out.modsX HXg.out (by decide) (by decide) hHeld, ?_, by simpa using HX3.out, HRg.out.mods hHeld (by simp), hHeld.keeps HKg.out (fun x hx => by omega), by omega, by omega, by omega, by rw [hgl2]; omega, by omega, HLast.out, ?_, ?_⟩
                        · unfold GapsAt
                          rw [HGG.out.2, List.length_append, List.flatMap_append]
                          exact ownsRow_lower H9s.out (by have := HKg.out.size; omega)
                        · rw [HE.out.1, herr.out]
                        · rw [HE.out.2, herr.out]
                      case measure => omega
                    exact AllReadyH.nil
                  exact AllReadyH.nil
                exact AllReadyH.nil
              exact AllReadyH.nil
            refine AllReadyH.cons (o := _) rfl (fun K hK => ?_) ?_
            · go_simp
              obtain ⟨b8, hb8⟩ : ∃ g, g = (World.heap x0).size := ⟨_, rfl⟩
              have HB8 : Hid (Blk (World.alloc x0 (.cells #[.int .i64 (g : Int), .int .i64 ((u : Int) + 1)] 202)) b8 202 #[.int .i64 (g : Int), .int .i64 ((u : Int) + 1)]) := Lib.hid (Blk.new _ _ _ hb8)
              have HX := Lib.hid (HX.out.alloc (.cells #[.int .i64 (g : Int), .int .i64 ((u : Int) + 1)] 202))
              have H0 := Lib.hid (ownsRow_keeps H0.out ((Keeps.refl _).alloc (.cells #[.int .i64 (g : Int), .int .i64 ((u : Int) + 1)] 202)))
              have hne80 : b8 ≠ g0 := by omega
              have hb := hHeld.alloc (.cells #[.int .i64 (g : Int), .int .i64 ((u : Int) + 1)] 202)
              have HBB := Lib.hid hb8
              clear hb8
              generalize World.alloc x0 (.cells #[.int .i64 (g : Int), .int .i64 ((u : Int) + 1)] 202) = x8 at *
              refine hK.out _ _ hb (fun _ => ?_)
              clear hK K hHeld
              have hHeld : Mods (· = R + 1) wg x8 := hb
              clear hb
              try simp only [Act.put, List.setIfInBounds_toArray, List.set_cons_zero, List.set_cons_succ]
              refine wpAnyH_ready (rs := [2]) (by kernel_rfl) (by simp) ?_
              refine AllReadyH.cons (o := _) rfl (fun K hK => ?_) ?_
              · have hx : World.cell? x8 ⟨R + 1, 1, none⟩ = some (.slice (some ⟨gg, 0, none⟩) (gl.length + 1) capg) := by rw [HX.out.cell]; rfl
                go_simp
                clear hx
                have hb := hHeld
                refine hK.out _ _ hb (fun _ => ?_)
                clear hK K hHeld
                have hHeld : Mods (· = R + 1) wg x8 := hb
                clear hb
                try simp only [Act.put, List.setIfInBounds_toArray, List.set_cons_zero, List.set_cons_succ]
                refine wpAnyH_take (i := 5) (v := ?vv8) (by rfl) (by kernel_rfl) (by kernel_rfl) (by kernel_rfl) (by intro _ _ _ h; exact h) (Or.inl ⟨by kernel_rfl, ?hy8⟩) (by assumption) ?rest8
                case hy8 =>
                  intro w' hSw
                  have hSw : Mods (· = R + 1) wg w' := hSw
                  clear hSw
                  go_simp
                  try with_reducible rfl
                change wpAnyH _ _ _ _ _ _ _ (Act.put _ (some 63) _) _
                try simp only [Act.put, List.setIfInBounds_toArray, List.set_cons_zero, List.set_cons_succ]
                refine wpAnyH_ready (rs := [6]) (by kernel_rfl) (by simp) ?_
                refine AllReadyH.cons (o := _) rfl (fun K hK => ?_) ?_
                · refine step_app (base := wg.heap.size) gapok (by decide) rfl _ _ rfl (.slice (some ⟨g0, 0, none⟩) 0 0) 0 gl.length capg ⟨gg, 0, none⟩ [] (gl.flatMap gapC) (congrArg (fun g => Value.slice (some ⟨g, 0, none⟩) 0 0) HG0.out.symm) rfl H0.out HLen.out.1 (HC.out _ hHeld) HLen.out.2 (by omega) (by decide) hHeld.size ?_
                  intro v6 x6 ho6 hg6
                  rw [Nat.zero_add, List.nil_append] at ho6
                  have H6 := Lib.hid ho6
                  have HX := Lib.hid (HX.out.grown hg6 (by simp [Value.ownBlock]; omega))
                  have HB8 := Lib.hid (HB8.out.grown hg6 (by simp [Value.ownBlock]; omega))
                  have hb := hHeld.grown hg6 (fun k hk hlt => by simp [Value.ownBlock] at hk; omega)
                  clear ho6 hg6 H0
                  show K (Act.put _ (some 64) v6) x6
                  refine hK.out _ _ hb (fun _ => ?_)
                  clear hK K hHeld
                  have hHeld : Mods (· = R + 1) wg x6 := hb
                  clear hb
                  try simp only [Act.put, List.setIfInBounds_toArray, List.set_cons_zero, List.set_cons_succ]
                  refine wpAnyH_ready (rs := [9]) (by kernel_rfl) (by simp) ?_
                  refine AllReadyH.cons (o := _) rfl (fun K hK => ?_) ?_
                  · refine step_app (base := wg.heap.size) gapok (by decide) rfl _ _ rfl v6 gl.length 1 1 ⟨b8, 0, none⟩ (gl.flatMap gapC) [.int .i64 (g : Int), .int .i64 ((u : Int) + 1)] rfl (congrArg (fun g => Value.slice (some ⟨g, 0, none⟩) 1 1) HBB.out.symm) H6.out rfl (fun j y hy => by rw [Go.WideShapes.add_plain, HB8.out.cell, Nat.zero_add]; simpa using hy) (by simp [Value.oneCell']) (by omega) (by decide) hHeld.size ?_
                    intro v9 x9 ho9 hg9
                    obtain ⟨p9, c9, rfl, -, -⟩ := ownsRow_form ho9
                    have H9 := Lib.hid ho9
                    have HX := Lib.hid (HX.out.grown hg9 (ownsRow_ne H6.out HX.out (by decide)))
                    have hb := hHeld.grown hg9 (fun k hk hlt => by have := ownsRow_base H6.out k hk; omega)
                    clear ho9 hg9 H6 HB8
                    show K (Act.put _ (some 67) _) x9
                    refine hK.out _ _ hb (fun _ => ?_)
                    clear hK K hHeld
                    have hHeld : Mods (· = R + 1) wg x9 := hb
                    clear hb
                    try simp only [Act.put, List.setIfInBounds_toArray, List.set_cons_zero, List.set_cons_succ]
                    refine wpAnyH_take (i := 10) (v := ?vv9) (by rfl) (by kernel_rfl) (by kernel_rfl) (by kernel_rfl) (by intro _ _ _ h; exact h) (Or.inl ⟨by kernel_rfl, ?hy9⟩) (by assumption) ?rest9
                    case hy9 =>
                      intro w' hSw
                      have hSw : Mods (· = R + 1) wg w' := hSw
                      clear hSw
                      go_simp
                      try with_reducible rfl
                    change wpAnyH _ _ _ _ _ _ _ (Act.put _ (some 68) _) _
                    try simp only [Act.put, List.setIfInBounds_toArray, List.set_cons_zero, List.set_cons_succ]
                    refine wpAnyH_ready (rs := [11]) (by kernel_rfl) (by simp) ?_
                    refine AllReadyH.cons (o := _) rfl (fun K hK => ?_) ?_
                    · have hx : World.cell? x9 ⟨R + 1, 1, none⟩ = some (.slice (some ⟨gg, 0, none⟩) (gl.length + 1) capg) := by rw [HX.out.cell]; rfl
                      have hz : World.frozen? x9 ⟨R + 1, 1, none⟩ = false := HX.out.frozen 1
                      go_simp
                      have HX3 := Lib.hid (HX.out.set_ 1 (.slice p9 (gl.length + 1) c9))
                      have H9s := Lib.hid (ownsRow_store (i := 1) H9.out HX.out (by decide) (.slice p9 (gl.length + 1) c9))
                      have hb := hHeld.setCell (p := ⟨R + 1, 1, none⟩) (fun _ => rfl) (.slice p9 (gl.length + 1) c9)
                      clear hx hz HX H9
                      generalize World.setCell x9 ⟨R + 1, 1, none⟩ (.slice p9 (gl.length + 1) c9) = xF at *
                      refine hK.out _ _ hb (fun _ => ?_)
                      clear hK K hHeld
                      have hHeld : Mods (· = R + 1) wg xF := hb
                      clear hb
                      try simp only [Act.put, List.setIfInBounds_toArray, List.set_cons_zero, List.set_cons_succ]
                      refine wpAnyH_done (by kernel_rfl) ?_ _
                      refine NoPanic.normal ?_
                      go_wp2_with fail
                      go_roundg k'
                      case rel =>
                        have hgl2 : (glen gl g (u + 1)).length = gl.length + 1 := by rw [HGG.out.2]; simp
                        refine ⟨u + 1, g, fl, gl, .slice po fl.length capo, .slice p9 (gl.length + 1) c9, by simp, HFg.out.modsX HXg.out (by decide) (by decide) hHeld, ?_, by simpa using HX3.out, HRg.out.mods hHeld (by simp), hHeld.keeps HKg.out (fun x hx => by omega), by omega, by omega, by omega, by rw [hgl2]; omega, by omega, HLast.out, ?_, ?_⟩
                        · unfold GapsAt
                          rw [HGG.out.2, List.length_append, List.flatMap_append]
                          exact ownsRow_lower H9s.out (by have := HKg.out.size; omega)
                        · rw [HE.out.1, herr.out]
                        · rw [HE.out.2, herr.out]
                      case measure => omega
                    exact AllReadyH.nil
                  exact AllReadyH.nil
                exact AllReadyH.nil
              exact AllReadyH.nil
            exact AllReadyH.nil
          refine AllReadyH.cons (o := _) rfl (fun K hK => ?_) ?_
          · have hx : World.cell? xs ⟨R + 1, 1, none⟩ = some (.slice (some ⟨gg, 0, none⟩) (gl.length + 1) capg) := by rw [HX.out.cell]; rfl
            go_simp
            clear hx
            have hb := hHeld
            refine hK.out _ _ hb (fun _ => ?_)
            clear hK K hHeld
            have hHeld : Mods (· = R + 1) wg xs := hb
            clear hb
            try simp only [Act.put, List.setIfInBounds_toArray, List.set_cons_zero, List.set_cons_succ]
            refine wpAnyH_take (i := 5) (v := ?vv10) (by rfl) (by kernel_rfl) (by kernel_rfl) (by kernel_rfl) (by intro _ _ _ h; exact h) (Or.inl ⟨by kernel_rfl, ?hy10⟩) (by assumption) ?rest10
            case hy10 =>
              intro w' hSw
              have hSw : Mods (· = R + 1) wg w' := hSw
              clear hSw
              go_simp
              try with_reducible rfl
            change wpAnyH _ _ _ _ _ _ _ (Act.put _ (some 63) _) _
            try simp only [Act.put, List.setIfInBounds_toArray, List.set_cons_zero, List.set_cons_succ]
            refine wpAnyH_ready (rs := [0, 8]) (by kernel_rfl) (by simp) ?_
            refine AllReadyH.cons (o := _) rfl (fun K hK => ?_) ?_
            · go_simp
              obtain ⟨g0, hg0⟩ : ∃ g, g = (World.heap xs).size := ⟨_, rfl⟩
              have hge0 : wg.heap.size ≤ g0 := by rw [hg0]; exact hHeld.size
              have H0 : Hid (World.ownsRow (World.alloc xs (.cells #[] 202)) wg.heap.size 202 2 (.slice (some ⟨g0, 0, none⟩) 0 0) 0 []) := Lib.hid (ownsRow_zero hg0 hge0)
              have HX := Lib.hid (HX.out.alloc (.cells #[] 202))
              have hb := hHeld.alloc (.cells #[] 202)
              have hlt0 : g0 < (World.alloc xs (.cells #[] 202)).heap.size := by rw [alloc_size]; omega
              have HG0 := Lib.hid hg0
              clear hg0
              generalize World.alloc xs (.cells #[] 202) = x0 at *
              refine hK.out _ _ hb (fun _ => ?_)
              clear hK K hHeld
              have hHeld : Mods (· = R + 1) wg x0 := hb
              clear hb
              try simp only [Act.put, List.setIfInBounds_toArray, List.set_cons_zero, List.set_cons_succ]
              refine wpAnyH_ready (rs := [6, 8]) (by kernel_rfl) (by simp) ?_
              refine AllReadyH.cons (o := _) rfl (fun K hK => ?_) ?_
              · refine step_app (base := wg.heap.size) gapok (by decide) rfl _ _ rfl (.slice (some ⟨g0, 0, none⟩) 0 0) 0 gl.length capg ⟨gg, 0, none⟩ [] (gl.flatMap gapC) (congrArg (fun g => Value.slice (some ⟨g, 0, none⟩) 0 0) HG0.out.symm) rfl H0.out HLen.out.1 (HC.out _ hHeld) HLen.out.2 (by omega) (by decide) hHeld.size ?_
                intro v6 x6 ho6 hg6
                rw [Nat.zero_add, List.nil_append] at ho6
                have H6 := Lib.hid ho6
                have HX := Lib.hid (HX.out.grown hg6 (by simp [Value.ownBlock]; omega))
                have hb := hHeld.grown hg6 (fun k hk hlt => by simp [Value.ownBlock] at hk; omega)
                clear ho6 hg6 H0
                show K (Act.put _ (some 64) v6) x6
                refine hK.out _ _ hb (fun _ => ?_)
                clear hK K hHeld
                have hHeld : Mods (· = R + 1) wg x6 := hb
                clear hb
                try simp only [Act.put, List.setIfInBounds_toArray, List.set_cons_zero, List.set_cons_succ]
                refine wpAnyH_ready (rs := [8]) (by kernel_rfl) (by simp) ?_
                refine AllReadyH.cons (o := _) rfl (fun K hK => ?_) ?_
                · go_simp
                  obtain ⟨b8, hb8⟩ : ∃ g, g = (World.heap x6).size := ⟨_, rfl⟩
                  have HB8 : Hid (Blk (World.alloc x6 (.cells #[.int .i64 (g : Int), .int .i64 ((u : Int) + 1)] 202)) b8 202 #[.int .i64 (g : Int), .int .i64 ((u : Int) + 1)]) := Lib.hid (Blk.new _ _ _ hb8)
                  have HX := Lib.hid (HX.out.alloc (.cells #[.int .i64 (g : Int), .int .i64 ((u : Int) + 1)] 202))
                  have H6 := Lib.hid (ownsRow_keeps H6.out ((Keeps.refl _).alloc (.cells #[.int .i64 (g : Int), .int .i64 ((u : Int) + 1)] 202)))
                  have hb := hHeld.alloc (.cells #[.int .i64 (g : Int), .int .i64 ((u : Int) + 1)] 202)
                  have HBB := Lib.hid hb8
                  clear hb8
                  generalize World.alloc x6 (.cells #[.int .i64 (g : Int), .int .i64 ((u : Int) + 1)] 202) = x8 at *
                  refine hK.out _ _ hb (fun _ => ?_)
                  clear hK K hHeld
                  have hHeld : Mods (· = R + 1) wg x8 := hb
                  clear hb
                  try simp only [Act.put, List.setIfInBounds_toArray, List.set_cons_zero, List.set_cons_succ]
                  refine wpAnyH_ready (rs := [9]) (by kernel_rfl) (by simp) ?_
                  refine AllReadyH.cons (o := _) rfl (fun K hK => ?_) ?_
                  · refine step_app (base := wg.heap.size) gapok (by decide) rfl _ _ rfl v6 gl.length 1 1 ⟨b8, 0, none⟩ (gl.flatMap gapC) [.int .i64 (g : Int), .int .i64 ((u : Int) + 1)] rfl (congrArg (fun g => Value.slice (some ⟨g, 0, none⟩) 1 1) HBB.out.symm) H6.out rfl (fun j y hy => by rw [Go.WideShapes.add_plain, HB8.out.cell, Nat.zero_add]; simpa using hy) (by simp [Value.oneCell']) (by omega) (by decide) hHeld.size ?_
                    intro v9 x9 ho9 hg9
                    obtain ⟨p9, c9, rfl, -, -⟩ := ownsRow_form ho9
                    have H9 := Lib.hid ho9
                    have HX := Lib.hid (HX.out.grown hg9 (ownsRow_ne H6.out HX.out (by decide)))
                    have hb := hHeld.grown hg9 (fun k hk hlt => by have := ownsRow_base H6.out k hk; omega)
                    clear ho9 hg9 H6 HB8
                    show K (Act.put _ (some 67) _) x9
                    refine hK.out _ _ hb (fun _ => ?_)
                    clear hK K hHeld
                    have hHeld : Mods (· = R + 1) wg x9 := hb
                    clear hb
                    try simp only [Act.put, List.setIfInBounds_toArray, List.set_cons_zero, List.set_cons_succ]
                    refine wpAnyH_take (i := 10) (v := ?vv11) (by rfl) (by kernel_rfl) (by kernel_rfl) (by kernel_rfl) (by intro _ _ _ h; exact h) (Or.inl ⟨by kernel_rfl, ?hy11⟩) (by assumption) ?rest11
                    case hy11 =>
                      intro w' hSw
                      have hSw : Mods (· = R + 1) wg w' := hSw
                      clear hSw
                      go_simp
                      try with_reducible rfl
                    change wpAnyH _ _ _ _ _ _ _ (Act.put _ (some 68) _) _
                    try simp only [Act.put, List.setIfInBounds_toArray, List.set_cons_zero, List.set_cons_succ]
                    refine wpAnyH_ready (rs := [11]) (by kernel_rfl) (by simp) ?_
                    refine AllReadyH.cons (o := _) rfl (fun K hK => ?_) ?_
                    · have hx : World.cell? x9 ⟨R + 1, 1, none⟩ = some (.slice (some ⟨gg, 0, none⟩) (gl.length + 1) capg) := by rw [HX.out.cell]; rfl
                      have hz : World.frozen? x9 ⟨R + 1, 1, none⟩ = false := HX.out.frozen 1
                      go_simp
                      have HX3 := Lib.hid (HX.out.set_ 1 (.slice p9 (gl.length + 1) c9))
                      have H9s := Lib.hid (ownsRow_store (i := 1) H9.out HX.out (by decide) (.slice p9 (gl.length + 1) c9))
                      have hb := hHeld.setCell (p := ⟨R + 1, 1, none⟩) (fun _ => rfl) (.slice p9 (gl.length + 1) c9)
                      clear hx hz HX H9
                      generalize World.setCell x9 ⟨R + 1, 1, none⟩ (.slice p9 (gl.length + 1) c9) = xF at *
                      refine hK.out _ _ hb (fun _ => ?_)
                      clear hK K hHeld
                      have hHeld : Mods (· = R + 1) wg xF := hb
                      clear hb
                      try simp only [Act.put, List.setIfInBounds_toArray, List.set_cons_zero, List.set_cons_succ]
                      refine wpAnyH_done (by kernel_rfl) ?_ _
                      refine NoPanic.normal ?_
                      go_wp2_with fail
                      go_roundg k'
                      case rel =>
                        have hgl2 : (glen gl g (u + 1)).length = gl.length + 1 := by rw [HGG.out.2]; simp
                        refine ⟨u + 1, g, fl, gl, .slice po fl.length capo, .slice p9 (gl.length + 1) c9, by simp, HFg.out.modsX HXg.out (by decide) (by decide) hHeld, ?_, by simpa using HX3.out, HRg.out.mods hHeld (by simp), hHeld.keeps HKg.out (fun x hx => by omega), by omega, by omega, by omega, by rw [hgl2]; omega, by omega, HLast.out, ?_, ?_⟩
                        · unfold GapsAt
                          rw [HGG.out.2, List.length_append, List.flatMap_append]
                          exact ownsRow_lower H9s.out (by have := HKg.out.size; omega)
                        · rw [HE.out.1, herr.out]
                        · rw [HE.out.2, herr.out]
                      case measure => omega
                    exact AllReadyH.nil
                  exact AllReadyH.nil
                exact AllReadyH.nil
              refine AllReadyH.cons (o := _) rfl (fun K hK => ?_) ?_
              · go_simp
                obtain ⟨b8, hb8⟩ : ∃ g, g = (World.heap x0).size := ⟨_, rfl⟩
                have HB8 : Hid (Blk (World.alloc x0 (.cells #[.int .i64 (g : Int), .int .i64 ((u : Int) + 1)] 202)) b8 202 #[.int .i64 (g : Int), .int .i64 ((u : Int) + 1)]) := Lib.hid (Blk.new _ _ _ hb8)
                have HX := Lib.hid (HX.out.alloc (.cells #[.int .i64 (g : Int), .int .i64 ((u : Int) + 1)] 202))
                have H0 := Lib.hid (ownsRow_keeps H0.out ((Keeps.refl _).alloc (.cells #[.int .i64 (g : Int), .int .i64 ((u : Int) + 1)] 202)))
                have hne80 : b8 ≠ g0 := by omega
                have hb := hHeld.alloc (.cells #[.int .i64 (g : Int), .int .i64 ((u : Int) + 1)] 202)
                have HBB := Lib.hid hb8
                clear hb8
                generalize World.alloc x0 (.cells #[.int .i64 (g : Int), .int .i64 ((u : Int) + 1)] 202) = x8 at *
                refine hK.out _ _ hb (fun _ => ?_)
                clear hK K hHeld
                have hHeld : Mods (· = R + 1) wg x8 := hb
                clear hb
                try simp only [Act.put, List.setIfInBounds_toArray, List.set_cons_zero, List.set_cons_succ]
                refine wpAnyH_ready (rs := [6]) (by kernel_rfl) (by simp) ?_
                refine AllReadyH.cons (o := _) rfl (fun K hK => ?_) ?_
                · refine step_app (base := wg.heap.size) gapok (by decide) rfl _ _ rfl (.slice (some ⟨g0, 0, none⟩) 0 0) 0 gl.length capg ⟨gg, 0, none⟩ [] (gl.flatMap gapC) (congrArg (fun g => Value.slice (some ⟨g, 0, none⟩) 0 0) HG0.out.symm) rfl H0.out HLen.out.1 (HC.out _ hHeld) HLen.out.2 (by omega) (by decide) hHeld.size ?_
                  intro v6 x6 ho6 hg6
                  rw [Nat.zero_add, List.nil_append] at ho6
                  have H6 := Lib.hid ho6
                  have HX := Lib.hid (HX.out.grown hg6 (by simp [Value.ownBlock]; omega))
                  have HB8 := Lib.hid (HB8.out.grown hg6 (by simp [Value.ownBlock]; omega))
                  have hb := hHeld.grown hg6 (fun k hk hlt => by simp [Value.ownBlock] at hk; omega)
                  clear ho6 hg6 H0
                  show K (Act.put _ (some 64) v6) x6
                  refine hK.out _ _ hb (fun _ => ?_)
                  clear hK K hHeld
                  have hHeld : Mods (· = R + 1) wg x6 := hb
                  clear hb
                  try simp only [Act.put, List.setIfInBounds_toArray, List.set_cons_zero, List.set_cons_succ]
                  refine wpAnyH_ready (rs := [9]) (by kernel_rfl) (by simp) ?_
                  refine AllReadyH.cons (o := _) rfl (fun K hK => ?_) ?_
                  · refine step_app (base := wg.heap.size) gapok (by decide) rfl _ _ rfl v6 gl.length 1 1 ⟨b8, 0, none⟩ (gl.flatMap gapC) [.int .i64 (g : Int), .int .i64 ((u : Int) + 1)] rfl (congrArg (fun g => Value.slice (some ⟨g, 0, none⟩) 1 1) HBB.out.symm) H6.out rfl (fun j y hy => by rw [Go.WideShapes.add_plain, HB8.out.cell, Nat.zero_add]; simpa using hy) (by simp [Value.oneCell']) (by omega) (by decide) hHeld.size ?_
                    intro v9 x9 ho9 hg9
                    obtain ⟨p9, c9, rfl, -, -⟩ := ownsRow_form ho9
                    have H9 := Lib.hid ho9
                    have HX := Lib.hid (HX.out.grown hg9 (ownsRow_ne H6.out HX.out (by decide)))
                    have hb := hHeld.grown hg9 (fun k hk hlt => by have := ownsRow_base H6.out k hk; omega)
                    clear ho9 hg9 H6 HB8
                    show K (Act.put _ (some 67) _) x9
                    refine hK.out _ _ hb (fun _ => ?_)
                    clear hK K hHeld
                    have hHeld : Mods (· = R + 1) wg x9 := hb
                    clear hb
                    try simp only [Act.put, List.setIfInBounds_toArray, List.set_cons_zero, List.set_cons_succ]
                    refine wpAnyH_take (i := 10) (v := ?vv12) (by rfl) (by kernel_rfl) (by kernel_rfl) (by kernel_rfl) (by intro _ _ _ h; exact h) (Or.inl ⟨by kernel_rfl, ?hy12⟩) (by assumption) ?rest12
                    case hy12 =>
                      intro w' hSw
                      have hSw : Mods (· = R + 1) wg w' := hSw
                      clear hSw
                      go_simp
                      try with_reducible rfl
                    change wpAnyH _ _ _ _ _ _ _ (Act.put _ (some 68) _) _
                    try simp only [Act.put, List.setIfInBounds_toArray, List.set_cons_zero, List.set_cons_succ]
                    refine wpAnyH_ready (rs := [11]) (by kernel_rfl) (by simp) ?_
                    refine AllReadyH.cons (o := _) rfl (fun K hK => ?_) ?_
                    · have hx : World.cell? x9 ⟨R + 1, 1, none⟩ = some (.slice (some ⟨gg, 0, none⟩) (gl.length + 1) capg) := by rw [HX.out.cell]; rfl
                      have hz : World.frozen? x9 ⟨R + 1, 1, none⟩ = false := HX.out.frozen 1
                      go_simp
                      have HX3 := Lib.hid (HX.out.set_ 1 (.slice p9 (gl.length + 1) c9))
                      have H9s := Lib.hid (ownsRow_store (i := 1) H9.out HX.out (by decide) (.slice p9 (gl.length + 1) c9))
                      have hb := hHeld.setCell (p := ⟨R + 1, 1, none⟩) (fun _ => rfl) (.slice p9 (gl.length + 1) c9)
                      clear hx hz HX H9
                      generalize World.setCell x9 ⟨R + 1, 1, none⟩ (.slice p9 (gl.length + 1) c9) = xF at *
                      refine hK.out _ _ hb (fun _ => ?_)
                      clear hK K hHeld
                      have hHeld : Mods (· = R + 1) wg xF := hb
                      clear hb
                      try simp only [Act.put, List.setIfInBounds_toArray, List.set_cons_zero, List.set_cons_succ]
                      refine wpAnyH_done (by kernel_rfl) ?_ _
                      refine NoPanic.normal ?_
                      go_wp2_with fail
                      go_roundg k'
                      case rel =>
                        have hgl2 : (glen gl g (u + 1)).length = gl.length + 1 := by rw [HGG.out.2]; simp
                        refine ⟨u + 1, g, fl, gl, .slice po fl.length capo, .slice p9 (gl.length + 1) c9, by simp, HFg.out.modsX HXg.out (by decide) (by decide) hHeld, ?_, by simpa using HX3.out, HRg.out.mods hHeld (by simp), hHeld.keeps HKg.out (fun x hx => by omega), by omega, by omega, by omega, by rw [hgl2]; omega, by omega, HLast.out, ?_, ?_⟩
                        · unfold GapsAt
                          rw [HGG.out.2, List.length_append, List.flatMap_append]
                          exact ownsRow_lower H9s.out (by have := HKg.out.size; omega)
                        · rw [HE.out.1, herr.out]
                        · rw [HE.out.2, herr.out]
                      case measure => omega
                    exact AllReadyH.nil
                  exact AllReadyH.nil
                exact AllReadyH.nil
              exact AllReadyH.nil
            refine AllReadyH.cons (o := _) rfl (fun K hK => ?_) ?_
            · go_simp
              obtain ⟨b8, hb8⟩ : ∃ g, g = (World.heap xs).size := ⟨_, rfl⟩
              have HB8 : Hid (Blk (World.alloc xs (.cells #[.int .i64 (g : Int), .int .i64 ((u : Int) + 1)] 202)) b8 202 #[.int .i64 (g : Int), .int .i64 ((u : Int) + 1)]) := Lib.hid (Blk.new _ _ _ hb8)
              have HX := Lib.hid (HX.out.alloc (.cells #[.int .i64 (g : Int), .int .i64 ((u : Int) + 1)] 202))
              have hb := hHeld.alloc (.cells #[.int .i64 (g : Int), .int .i64 ((u : Int) + 1)] 202)
              have HBB := Lib.hid hb8
              clear hb8
              generalize World.alloc xs (.cells #[.int .i64 (g : Int), .int .i64 ((u : Int) + 1)] 202) = x8 at *
              refine hK.out _ _ hb (fun _ => ?_)
              clear hK K hHeld
              have hHeld : Mods (· = R + 1) wg x8 := hb
              clear hb
              try simp only [Act.put, List.setIfInBounds_toArray, List.set_cons_zero, List.set_cons_succ]
              refine wpAnyH_ready (rs := [0]) (by kernel_rfl) (by simp) ?_
              refine AllReadyH.cons (o := _) rfl (fun K hK => ?_) ?_
              · go_simp
                obtain ⟨g0, hg0⟩ : ∃ g, g = (World.heap x8).size := ⟨_, rfl⟩
                have hge0 : wg.heap.size ≤ g0 := by rw [hg0]; exact hHeld.size
                have H0 : Hid (World.ownsRow (World.alloc x8 (.cells #[] 202)) wg.heap.size 202 2 (.slice (some ⟨g0, 0, none⟩) 0 0) 0 []) := Lib.hid (ownsRow_zero hg0 hge0)
                have HX := Lib.hid (HX.out.alloc (.cells #[] 202))
                have hne80 : b8 ≠ g0 := by have := HB8.out.lt; omega
                have HB8 := Lib.hid (HB8.out.alloc (.cells #[] 202))
                have hb := hHeld.alloc (.cells #[] 202)
                have hlt0 : g0 < (World.alloc x8 (.cells #[] 202)).heap.size := by rw [alloc_size]; omega
                have HG0 := Lib.hid hg0
                clear hg0
                generalize World.alloc x8 (.cells #[] 202) = x0 at *
                refine hK.out _ _ hb (fun _ => ?_)
                clear hK K hHeld
                have hHeld : Mods (· = R + 1) wg x0 := hb
                clear hb
                try simp only [Act.put, List.setIfInBounds_toArray, List.set_cons_zero, List.set_cons_succ]
                refine wpAnyH_ready (rs := [6]) (by kernel_rfl) (by simp) ?_
                refine AllReadyH.cons (o := _) rfl (fun K hK => ?_) ?_
                · refine step_app (base := wg.heap.size) gapok (by decide) rfl _ _ rfl (.slice (some ⟨g0, 0, none⟩) 0 0) 0 gl.length capg ⟨gg, 0, none⟩ [] (gl.flatMap gapC) (congrArg (fun g => Value.slice (some ⟨g, 0, none⟩) 0 0) HG0.out.symm) rfl H0.out HLen.out.1 (HC.out _ hHeld) HLen.out.2 (by omega) (by decide) hHeld.size ?_
                  intro v6 x6 ho6 hg6
                  rw [Nat.zero_add, List.nil_append] at ho6
                  have H6 := Lib.hid ho6
                  have HX := Lib.hid (HX.out.grown hg6 (by simp [Value.ownBlock]; omega))
                  have HB8 := Lib.hid (HB8.out.grown hg6 (by simp [Value.ownBlock]; omega))
                  have hb := hHeld.grown hg6 (fun k hk hlt => by simp [Value.ownBlock] at hk; omega)
                  clear ho6 hg6 H0
                  show K (Act.put _ (some 64) v6) x6
                  refine hK.out _ _ hb (fun _ => ?_)
                  clear hK K hHeld
                  have hHeld : Mods (· = R + 1) wg x6 := hb
                  clear hb
                  try simp only [Act.put, List.setIfInBounds_toArray, List.set_cons_zero, List.set_cons_succ]
                  refine wpAnyH_ready (rs := [9]) (by kernel_rfl) (by simp) ?_
                  refine AllReadyH.cons (o := _) rfl (fun K hK => ?_) ?_
                  · refine step_app (base := wg.heap.size) gapok (by decide) rfl _ _ rfl v6 gl.length 1 1 ⟨b8, 0, none⟩ (gl.flatMap gapC) [.int .i64 (g : Int), .int .i64 ((u : Int) + 1)] rfl (congrArg (fun g => Value.slice (some ⟨g, 0, none⟩) 1 1) HBB.out.symm) H6.out rfl (fun j y hy => by rw [Go.WideShapes.add_plain, HB8.out.cell, Nat.zero_add]; simpa using hy) (by simp [Value.oneCell']) (by omega) (by decide) hHeld.size ?_
                    intro v9 x9 ho9 hg9
                    obtain ⟨p9, c9, rfl, -, -⟩ := ownsRow_form ho9
                    have H9 := Lib.hid ho9
                    have HX := Lib.hid (HX.out.grown hg9 (ownsRow_ne H6.out HX.out (by decide)))
                    have hb := hHeld.grown hg9 (fun k hk hlt => by have := ownsRow_base H6.out k hk; omega)
                    clear ho9 hg9 H6 HB8
                    show K (Act.put _ (some 67) _) x9
                    refine hK.out _ _ hb (fun _ => ?_)
                    clear hK K hHeld
                    have hHeld : Mods (· = R + 1) wg x9 := hb
                    clear hb
                    try simp only [Act.put, List.setIfInBounds_toArray, List.set_cons_zero, List.set_cons_succ]
                    refine wpAnyH_take (i := 10) (v := ?vv13) (by rfl) (by kernel_rfl) (by kernel_rfl) (by kernel_rfl) (by intro _ _ _ h; exact h) (Or.inl ⟨by kernel_rfl, ?hy13⟩) (by assumption) ?rest13
                    case hy13 =>
                      intro w' hSw
                      have hSw : Mods (· = R + 1) wg w' := hSw
                      clear hSw
                      go_simp
                      try with_reducible rfl
                    change wpAnyH _ _ _ _ _ _ _ (Act.put _ (some 68) _) _
                    try simp only [Act.put, List.setIfInBounds_toArray, List.set_cons_zero, List.set_cons_succ]
                    refine wpAnyH_ready (rs := [11]) (by kernel_rfl) (by simp) ?_
                    refine AllReadyH.cons (o := _) rfl (fun K hK => ?_) ?_
                    · have hx : World.cell? x9 ⟨R + 1, 1, none⟩ = some (.slice (some ⟨gg, 0, none⟩) (gl.length + 1) capg) := by rw [HX.out.cell]; rfl
                      have hz : World.frozen? x9 ⟨R + 1, 1, none⟩ = false := HX.out.frozen 1
                      go_simp
                      have HX3 := Lib.hid (HX.out.set_ 1 (.slice p9 (gl.length + 1) c9))
                      have H9s := Lib.hid (ownsRow_store (i := 1) H9.out HX.out (by decide) (.slice p9 (gl.length + 1) c9))
                      have hb := hHeld.setCell (p := ⟨R + 1, 1, none⟩) (fun _ => rfl) (.slice p9 (gl.length + 1) c9)
                      clear hx hz HX H9
                      generalize World.setCell x9 ⟨R + 1, 1, none⟩ (.slice p9 (gl.length + 1) c9) = xF at *
                      refine hK.out _ _ hb (fun _ => ?_)
                      clear hK K hHeld
                      have hHeld : Mods (· = R + 1) wg xF := hb
                      clear hb
                      try simp only [Act.put, List.setIfInBounds_toArray, List.set_cons_zero, List.set_cons_succ]
                      refine wpAnyH_done (by kernel_rfl) ?_ _
                      refine NoPanic.normal ?_
                      go_wp2_with fail
                      go_roundg k'
                      case rel =>
                        have hgl2 : (glen gl g (u + 1)).length = gl.length + 1 := by rw [HGG.out.2]; simp
                        refine ⟨u + 1, g, fl, gl, .slice po fl.length capo, .slice p9 (gl.length + 1) c9, by simp, HFg.out.modsX HXg.out (by decide) (by decide) hHeld, ?_, by simpa using HX3.out, HRg.out.mods hHeld (by simp), hHeld.keeps HKg.out (fun x hx => by omega), by omega, by omega, by omega, by rw [hgl2]; omega, by omega, HLast.out, ?_, ?_⟩
                        · unfold GapsAt
                          rw [HGG.out.2, List.length_append, List.flatMap_append]
                          exact ownsRow_lower H9s.out (by have := HKg.out.size; omega)
                        · rw [HE.out.1, herr.out]
                        · rw [HE.out.2, herr.out]
                      case measure => omega
                    exact AllReadyH.nil
                  exact AllReadyH.nil
                exact AllReadyH.nil
              exact AllReadyH.nil
            exact AllReadyH.nil
          refine AllReadyH.cons (o := _) rfl (fun K hK => ?_) ?_
          · go_simp
            obtain ⟨b8, hb8⟩ : ∃ g, g = (World.heap xs).size := ⟨_, rfl⟩
            have HB8 : Hid (Blk (World.alloc xs (.cells #[.int .i64 (g : Int), .int .i64 ((u : Int) + 1)] 202)) b8 202 #[.int .i64 (g : Int), .int .i64 ((u : Int) + 1)]) := Lib.hid (Blk.new _ _ _ hb8)
            have HX := Lib.hid (HX.out.alloc (.cells #[.int .i64 (g : Int), .int .i64 ((u : Int) + 1)] 202))
            have hb := hHeld.alloc (.cells #[.int .i64 (g : Int), .int .i64 ((u : Int) + 1)] 202)
            have HBB := Lib.hid hb8
            clear hb8
            generalize World.alloc xs (.cells #[.int .i64 (g : Int), .int .i64 ((u : Int) + 1)] 202) = x8 at *
            refine hK.out _ _ hb (fun _ => ?_)
            clear hK K hHeld
            have hHeld : Mods (· = R + 1) wg x8 := hb
            clear hb
            try simp only [Act.put, List.setIfInBounds_toArray, List.set_cons_zero, List.set_cons_succ]
            refine wpAnyH_ready (rs := [0, 2]) (by kernel_rfl) (by simp) ?_
            refine AllReadyH.cons (o := _) rfl (fun K hK => ?_) ?_
            · go_simp
              obtain ⟨g0, hg0⟩ : ∃ g, g = (World.heap x8).size := ⟨_, rfl⟩
              have hge0 : wg.heap.size ≤ g0 := by rw [hg0]; exact hHeld.size
              have H0 : Hid (World.ownsRow (World.alloc x8 (.cells #[] 202)) wg.heap.size 202 2 (.slice (some ⟨g0, 0, none⟩) 0 0) 0 []) := Lib.hid (ownsRow_zero hg0 hge0)
              have HX := Lib.hid (HX.out.alloc (.cells #[] 202))
              have hne80 : b8 ≠ g0 := by have := HB8.out.lt; omega
              have HB8 := Lib.hid (HB8.out.alloc (.cells #[] 202))
              have hb := hHeld.alloc (.cells #[] 202)
              have hlt0 : g0 < (World.alloc x8 (.cells #[] 202)).heap.size := by rw [alloc_size]; omega
              have HG0 := Lib.hid hg0
              clear hg0
              generalize World.alloc x8 (.cells #[] 202) = x0 at *
              refine hK.out _ _ hb (fun _ => ?_)
              clear hK K hHeld
              have hHeld : Mods (· = R + 1) wg x0 := hb
              clear hb
              try simp only [Act.put, List.setIfInBounds_toArray, List.set_cons_zero, List.set_cons_succ]
              refine wpAnyH_ready (rs := [2]) (by kernel_rfl) (by simp) ?_
              refine AllReadyH.cons (o := _) rfl (fun K hK => ?_) ?_
              · have hx : World.cell? x0 ⟨R + 1, 1, none⟩ = some (.slice (some ⟨gg, 0, none⟩) (gl.length + 1) capg) := by rw [HX.out.cell]; rfl
                go_simp
                clear hx
                have hb := hHeld
                refine hK.out _ _ hb (fun _ => ?_)
                clear hK K hHeld
                have hHeld : Mods (· = R + 1) wg x0 := hb
                clear hb
                try simp only [Act.put, List.setIfInBounds_toArray, List.set_cons_zero, List.set_cons_succ]
                refine wpAnyH_take (i := 5) (v := ?vv14) (by rfl) (by kernel_rfl) (by kernel_rfl) (by kernel_rfl) (by intro _ _ _ h; exact h) (Or.inl ⟨by kernel_rfl, ?hy14⟩) (by assumption) ?rest14
                case hy14 =>
                  intro w' hSw
                  have hSw : Mods (· = R + 1) wg w' := hSw
                  clear hSw
                  go_simp
                  try with_reducible rfl
                change wpAnyH _ _ _ _ _ _ _ (Act.put _ (some 63) _) _
                try simp only [Act.put, List.setIfInBounds_toArray, List.set_cons_zero, List.set_cons_succ]
                refine wpAnyH_ready (rs := [6]) (by kernel_rfl) (by simp) ?_
                refine AllReadyH.cons (o := _) rfl (fun K hK => ?_) ?_
                · refine step_app (base := wg.heap.size) gapok (by decide) rfl _ _ rfl (.slice (some ⟨g0, 0, none⟩) 0 0) 0 gl.length capg ⟨gg, 0, none⟩ [] (gl.flatMap gapC) (congrArg (fun g => Value.slice (some ⟨g, 0, none⟩) 0 0) HG0.out.symm) rfl H0.out HLen.out.1 (HC.out _ hHeld) HLen.out.2 (by omega) (by decide) hHeld.size ?_
                  intro v6 x6 ho6 hg6
                  rw [Nat.zero_add, List.nil_append] at ho6
                  have H6 := Lib.hid ho6
                  have HX := Lib.hid (HX.out.grown hg6 (by simp [Value.ownBlock]; omega))
                  have HB8 := Lib.hid (HB8.out.grown hg6 (by simp [Value.ownBlock]; omega))
                  have hb := hHeld.grown hg6 (fun k hk hlt => by simp [Value.ownBlock] at hk; omega)
                  clear ho6 hg6 H0
                  show K (Act.put _ (some 64) v6) x6
                  refine hK.out _ _ hb (fun _ => ?_)
                  clear hK K hHeld
                  have hHeld : Mods (· = R + 1) wg x6 := hb
                  clear hb
                  try simp only [Act.put, List.setIfInBounds_toArray, List.set_cons_zero, List.set_cons_succ]
                  refine wpAnyH_ready (rs := [9]) (by kernel_rfl) (by simp) ?_
                  refine AllReadyH.cons (o := _) rfl (fun K hK => ?_) ?_
                  · refine step_app (base := wg.heap.size) gapok (by decide) rfl _ _ rfl v6 gl.length 1 1 ⟨b8, 0, none⟩ (gl.flatMap gapC) [.int .i64 (g : Int), .int .i64 ((u : Int) + 1)] rfl (congrArg (fun g => Value.slice (some ⟨g, 0, none⟩) 1 1) HBB.out.symm) H6.out rfl (fun j y hy => by rw [Go.WideShapes.add_plain, HB8.out.cell, Nat.zero_add]; simpa using hy) (by simp [Value.oneCell']) (by omega) (by decide) hHeld.size ?_
                    intro v9 x9 ho9 hg9
                    obtain ⟨p9, c9, rfl, -, -⟩ := ownsRow_form ho9
                    have H9 := Lib.hid ho9
                    have HX := Lib.hid (HX.out.grown hg9 (ownsRow_ne H6.out HX.out (by decide)))
                    have hb := hHeld.grown hg9 (fun k hk hlt => by have := ownsRow_base H6.out k hk; omega)
                    clear ho9 hg9 H6 HB8
                    show K (Act.put _ (some 67) _) x9
                    refine hK.out _ _ hb (fun _ => ?_)
                    clear hK K hHeld
                    have hHeld : Mods (· = R + 1) wg x9 := hb
                    clear hb
                    try simp only [Act.put, List.setIfInBounds_toArray, List.set_cons_zero, List.set_cons_succ]
                    refine wpAnyH_take (i := 10) (v := ?vv15) (by rfl) (by kernel_rfl) (by kernel_rfl) (by kernel_rfl) (by intro _ _ _ h; exact h) (Or.inl ⟨by kernel_rfl, ?hy15⟩) (by assumption) ?rest15
                    case hy15 =>
                      intro w' hSw
                      have hSw : Mods (· = R + 1) wg w' := hSw
                      clear hSw
                      go_simp
                      try with_reducible rfl
                    change wpAnyH _ _ _ _ _ _ _ (Act.put _ (some 68) _) _
                    try simp only [Act.put, List.setIfInBounds_toArray, List.set_cons_zero, List.set_cons_succ]
                    refine wpAnyH_ready (rs := [11]) (by kernel_rfl) (by simp) ?_
                    refine AllReadyH.cons (o := _) rfl (fun K hK => ?_) ?_
                    · have hx : World.cell? x9 ⟨R + 1, 1, none⟩ = some (.slice (some ⟨gg, 0, none⟩) (gl.length + 1) capg) := by rw [HX.out.cell]; rfl
                      have hz : World.frozen? x9 ⟨R + 1, 1, none⟩ = false := HX.out.frozen 1
                      go_simp
                      have HX3 := Lib.hid (HX.out.set_ 1 (.slice p9 (gl.length + 1) c9))
                      have H9s := Lib.hid (ownsRow_store (i := 1) H9.out HX.out (by decide) (.slice p9 (gl.length + 1) c9))
                      have hb := hHeld.setCell (p := ⟨R + 1, 1, none⟩) (fun _ => rfl) (.slice p9 (gl.length + 1) c9)
                      clear hx hz HX H9
                      generalize World.setCell x9 ⟨R + 1, 1, none⟩ (.slice p9 (gl.length + 1) c9) = xF at *
                      refine hK.out _ _ hb (fun _ => ?_)
                      clear hK K hHeld
                      have hHeld : Mods (· = R + 1) wg xF := hb
                      clear hb
                      try simp only [Act.put, List.setIfInBounds_toArray, List.set_cons_zero, List.set_cons_succ]
                      refine wpAnyH_done (by kernel_rfl) ?_ _
                      refine NoPanic.normal ?_
                      go_wp2_with fail
                      go_roundg k'
                      case rel =>
                        have hgl2 : (glen gl g (u + 1)).length = gl.length + 1 := by rw [HGG.out.2]; simp
                        refine ⟨u + 1, g, fl, gl, .slice po fl.length capo, .slice p9 (gl.length + 1) c9, by simp, HFg.out.modsX HXg.out (by decide) (by decide) hHeld, ?_, by simpa using HX3.out, HRg.out.mods hHeld (by simp), hHeld.keeps HKg.out (fun x hx => by omega), by omega, by omega, by omega, by rw [hgl2]; omega, by omega, HLast.out, ?_, ?_⟩
                        · unfold GapsAt
                          rw [HGG.out.2, List.length_append, List.flatMap_append]
                          exact ownsRow_lower H9s.out (by have := HKg.out.size; omega)
                        · rw [HE.out.1, herr.out]
                        · rw [HE.out.2, herr.out]
                      case measure => omega
                    exact AllReadyH.nil
                  exact AllReadyH.nil
                exact AllReadyH.nil
              exact AllReadyH.nil
            refine AllReadyH.cons (o := _) rfl (fun K hK => ?_) ?_
            · have hx : World.cell? x8 ⟨R + 1, 1, none⟩ = some (.slice (some ⟨gg, 0, none⟩) (gl.length + 1) capg) := by rw [HX.out.cell]; rfl
              go_simp
              clear hx
              have hb := hHeld
              refine hK.out _ _ hb (fun _ => ?_)
              clear hK K hHeld
              have hHeld : Mods (· = R + 1) wg x8 := hb
              clear hb
              try simp only [Act.put, List.setIfInBounds_toArray, List.set_cons_zero, List.set_cons_succ]
              refine wpAnyH_take (i := 5) (v := ?vv16) (by rfl) (by kernel_rfl) (by kernel_rfl) (by kernel_rfl) (by intro _ _ _ h; exact h) (Or.inl ⟨by kernel_rfl, ?hy16⟩) (by assumption) ?rest16
              case hy16 =>
                intro w' hSw
                have hSw : Mods (· = R + 1) wg w' := hSw
                clear hSw
                go_simp
                try with_reducible rfl
              change wpAnyH _ _ _ _ _ _ _ (Act.put _ (some 63) _) _
              try simp only [Act.put, List.setIfInBounds_toArray, List.set_cons_zero, List.set_cons_succ]
              refine wpAnyH_ready (rs := [0]) (by kernel_rfl) (by simp) ?_
              refine AllReadyH.cons (o := _) rfl (fun K hK => ?_) ?_
              · go_simp
                obtain ⟨g0, hg0⟩ : ∃ g, g = (World.heap x8).size := ⟨_, rfl⟩
                have hge0 : wg.heap.size ≤ g0 := by rw [hg0]; exact hHeld.size
                have H0 : Hid (World.ownsRow (World.alloc x8 (.cells #[] 202)) wg.heap.size 202 2 (.slice (some ⟨g0, 0, none⟩) 0 0) 0 []) := Lib.hid (ownsRow_zero hg0 hge0)
                have HX := Lib.hid (HX.out.alloc (.cells #[] 202))
                have hne80 : b8 ≠ g0 := by have := HB8.out.lt; omega
                have HB8 := Lib.hid (HB8.out.alloc (.cells #[] 202))
                have hb := hHeld.alloc (.cells #[] 202)
                have hlt0 : g0 < (World.alloc x8 (.cells #[] 202)).heap.size := by rw [alloc_size]; omega
                have HG0 := Lib.hid hg0
                clear hg0
                generalize World.alloc x8 (.cells #[] 202) = x0 at *
                refine hK.out _ _ hb (fun _ => ?_)
                clear hK K hHeld
                have hHeld : Mods (· = R + 1) wg x0 := hb
                clear hb
                try simp only [Act.put, List.setIfInBounds_toArray, List.set_cons_zero, List.set_cons_succ]
                refine wpAnyH_ready (rs := [6]) (by kernel_rfl) (by simp) ?_
                refine AllReadyH.cons (o := _) rfl (fun K hK => ?_) ?_
                · refine step_app (base := wg.heap.size) gapok (by decide) rfl _ _ rfl (.slice (some ⟨g0, 0, none⟩) 0 0) 0 gl.length capg ⟨gg, 0, none⟩ [] (gl.flatMap gapC) (congrArg (fun g => Value.slice (some ⟨g, 0, none⟩) 0 0) HG0.out.symm) rfl H0.out HLen.out.1 (HC.out _ hHeld) HLen.out.2 (by omega) (by decide) hHeld.size ?_
                  intro v6 x6 ho6 hg6
                  rw [Nat.zero_add, List.nil_append] at ho6
                  have H6 := Lib.hid ho6
                  have HX := Lib.hid (HX.out.grown hg6 (by simp [Value.ownBlock]; omega))
                  have HB8 := Lib.hid (HB8.out.grown hg6 (by simp [Value.ownBlock]; omega))
                  have hb := hHeld.grown hg6 (fun k hk hlt => by simp [Value.ownBlock] at hk; omega)
                  clear ho6 hg6 H0
                  show K (Act.put _ (some 64) v6) x6
                  refine hK.out _ _ hb (fun _ => ?_)
                  clear hK K hHeld
                  have hHeld : Mods (· = R + 1) wg x6 := hb
                  clear hb
                  try simp only [Act.put, List.setIfInBounds_toArray, List.set_cons_zero, List.set_cons_succ]
                  refine wpAnyH_ready (rs := [9]) (by kernel_rfl) (by simp) ?_
                  refine AllReadyH.cons (o := _) rfl (fun K hK => ?_) ?_
                  · refine step_app (base := wg.heap.size) gapok (by decide) rfl _ _ rfl v6 gl.length 1 1 ⟨b8, 0, none⟩ (gl.flatMap gapC) [.int .i64 (g : Int), .int .i64 ((u : Int) + 1)] rfl (congrArg (fun g => Value.slice (some ⟨g, 0, none⟩) 1 1) HBB.out.symm) H6.out rfl (fun j y hy => by rw [Go.WideShapes.add_plain, HB8.out.cell, Nat.zero_add]; simpa using hy) (by simp [Value.oneCell']) (by omega) (by decide) hHeld.size ?_
                    intro v9 x9 ho9 hg9
                    obtain ⟨p9, c9, rfl, -, -⟩ := ownsRow_form ho9
                    have H9 := Lib.hid ho9
                    have HX := Lib.hid (HX.out.grown hg9 (ownsRow_ne H6.out HX.out (by decide)))
                    have hb := hHeld.grown hg9 (fun k hk hlt => by have := ownsRow_base H6.out k hk; omega)
                    clear ho9 hg9 H6 HB8
                    show K (Act.put _ (some 67) _) x9
                    refine hK.out _ _ hb (fun _ => ?_)
                    clear hK K hHeld
                    have hHeld : Mods (· = R + 1) wg x9 := hb
                    clear hb
                    try simp only [Act.put, List.setIfInBounds_toArray, List.set_cons_zero, List.set_cons_succ]
                    refine wpAnyH_take (i := 10) (v := ?vv17) (by rfl) (by kernel_rfl) (by kernel_rfl) (by kernel_rfl) (by intro _ _ _ h; exact h) (Or.inl ⟨by kernel_rfl, ?hy17⟩) (by assumption) ?rest17
                    case hy17 =>
                      intro w' hSw
                      have hSw : Mods (· = R + 1) wg w' := hSw
                      clear hSw
                      go_simp
                      try with_reducible rfl
                    change wpAnyH _ _ _ _ _ _ _ (Act.put _ (some 68) _) _
                    try simp only [Act.put, List.setIfInBounds_toArray, List.set_cons_zero, List.set_cons_succ]
                    refine wpAnyH_ready (rs := [11]) (by kernel_rfl) (by simp) ?_
                    refine AllReadyH.cons (o := _) rfl (fun K hK => ?_) ?_
                    · have hx : World.cell? x9 ⟨R + 1, 1, none⟩ = some (.slice (some ⟨gg, 0, none⟩) (gl.length + 1) capg) := by rw [HX.out.cell]; rfl
                      have hz : World.frozen? x9 ⟨R + 1, 1, none⟩ = false := HX.out.frozen 1
                      go_simp
                      have HX3 := Lib.hid (HX.out.set_ 1 (.slice p9 (gl.length + 1) c9))
                      have H9s := Lib.hid (ownsRow_store (i := 1) H9.out HX.out (by decide) (.slice p9 (gl.length + 1) c9))
                      have hb := hHeld.setCell (p := ⟨R + 1, 1, none⟩) (fun _ => rfl) (.slice p9 (gl.length + 1) c9)
                      clear hx hz HX H9
                      generalize World.setCell x9 ⟨R + 1, 1, none⟩ (.slice p9 (gl.length + 1) c9) = xF at *
                      refine hK.out _ _ hb (fun _ => ?_)
                      clear hK K hHeld
                      have hHeld : Mods (· = R + 1) wg xF := hb
                      clear hb
                      try simp only [Act.put, List.setIfInBounds_toArray, List.set_cons_zero, List.set_cons_succ]
                      refine wpAnyH_done (by kernel_rfl) ?_ _
                      refine NoPanic.normal ?_
                      go_wp2_with fail
                      go_roundg k'
                      case rel =>
                        have hgl2 : (glen gl g (u + 1)).length = gl.length + 1 := by rw [HGG.out.2]; simp
                        refine ⟨u + 1, g, fl, gl, .slice po fl.length capo, .slice p9 (gl.length + 1) c9, by simp, HFg.out.modsX HXg.out (by decide) (by decide) hHeld, ?_, by simpa using HX3.out, HRg.out.mods hHeld (by simp), hHeld.keeps HKg.out (fun x hx => by omega), by omega, by omega, by omega, by rw [hgl2]; omega, by omega, HLast.out, ?_, ?_⟩
                        · unfold GapsAt
                          rw [HGG.out.2, List.length_append, List.flatMap_append]
                          exact ownsRow_lower H9s.out (by have := HKg.out.size; omega)
                        · rw [HE.out.1, herr.out]
                        · rw [HE.out.2, herr.out]
                      case measure => omega
                    exact AllReadyH.nil
                  exact AllReadyH.nil
                exact AllReadyH.nil
              exact AllReadyH.nil
            exact AllReadyH.nil
          exact AllReadyH.nil
        · have hg0 : glen gl g u = gl := by rw [glen, if_neg hgu2]
          have hgeq : g = u := by omega
          have hg1 : glen gl g (u + 1) = gl ++ [⟨(u : Int), (u : Int) + 1⟩] := by rw [glen, if_pos (by omega), hgeq]; simp
          rw [hg0] at hx1 HGa hgu
          have HXb : Hid (Blk wa (R + 1) 163 #[.slice po fl.length capo, .slice pg gl.length capg]) := Lib.hid (by have := HXa.out; rwa [hg0] at this)
          have HGG := Lib.hid (And.intro hg0 hg1)
          have HGeq := Lib.hid hgeq
          clear hg0 hg1 HXa hgeq
          have HNx : Hid (Value.ownBlock (.slice pg gl.length capg) ≠ some (R + 1) ∧ Value.ownBlock (.slice pg gl.length capg) ≠ some R) := Lib.hid ⟨ownsRow_ne HGa.out HXb.out (by decide), ownsRow_ne HGa.out HRa.out (by decide)⟩
          have hcond : gl = [] ∨ ∃ gg y, 0 < gl.length ∧ pg = some ⟨gg, 0, none⟩ ∧ wa.cell? ⟨gg, (gl.length - 1) * 2 + 1, none⟩ = some (.int .i64 y) ∧ (y == (u : Int)) = false := by
            by_cases hn : gl = []
            · exact .inl hn
            · have hp : 0 < gl.length := List.length_pos_iff.2 hn
              obtain ⟨gg, cc, hv, -, -, -, hc⟩ := ownsRow_at HGa.out hp
              simp only [Value.slice.injEq] at hv
              have h9 := List.getLast?_eq_getElem? (l := gl)
              rw [List.getElem?_eq_getElem (show gl.length - 1 < gl.length by omega)] at h9
              have := hc ((gl.length - 1) * 2 + 1) (.int .i64 (gl[gl.length - 1]'(by omega)).to) (by rw [gap_at (show gl.length - 1 < gl.length by omega) (by omega)]; rfl)
              have h8 := HLast.out _ h9
              have h7 := HGeq.out
              exact .inr ⟨gg, _, hp, hv.1, this, by rw [beq_eq_false_iff_ne]; omega⟩
          have HNew : Hid (∀ v' w2, w2.ownsRow R 202 2 v' (gl.length + 1) (gl.flatMap gapC ++ [.int .i64 (u : Int), .int .i64 ((u : Int) + 1)]) → (World.alloc wa (.cells #[.int .i64 (u : Int), .int .i64 ((u : Int) + 1)] 202)).grownBy w2 (Value.ownBlock (.slice pg gl.length capg)) → FramesAt w2 R (.slice po fl.length capo) fl ∧ Blk w2 (R + 1) 163 #[.slice po fl.length capo, .slice pg gl.length capg] ∧ Blk w2 R 163 #[.slice none 0 0, .slice none 0 0] ∧ Keeps w w2) := Lib.hid (fun v' w2 ho hg => ⟨(HFa.out.keeps ((Keeps.refl _).alloc _)).grown (ownsRow_keeps HGa.out ((Keeps.refl _).alloc _)) (by decide) (by decide) hg, (HXb.out.alloc _).grown hg HNx.out.1, (HRa.out.alloc _).grown hg HNx.out.2, (HKa.out.alloc _).grown hg (fun x hx => by have := ownsRow_base HGa.out x hx; omega)⟩)
          rcases hcond with rfl | ⟨gg, y, hpos, rfl, hcy, hyu⟩
          · go_wp2_with (at_builtin; refine wpList_apps (base := R) gapok (by decide) rfl _ _ rfl (.slice _ 0 capg) (.slice (some ⟨wa.heap.size, 0, none⟩) 1 1) 0 1 ([]) [.int .i64 (u : Int), .int .i64 ((u : Int) + 1)] rfl rfl (ownsRow_keeps HGa.out ((Keeps.refl _).alloc _)) (rowS_lit rfl rfl rfl) (by simp [Value.oneCell']) (by omega) (by decide) (by simp; omega) ?_; intro v' w2 ho2 hg2 hf2; obtain ⟨hF2, hX2, hR2, hK2⟩ := HNew.out _ _ ho2 hg2; have hx1' : w2.cell? ⟨R + 1, 1, none⟩ = some (.slice _ 0 capg) := by { rw [hX2.cell]; rfl }; have hz1 : w2.frozen? ⟨R + 1, 1, none⟩ = false := hX2.frozen 1; have HF2 := Lib.hid hF2; have HX2 := Lib.hid hX2; have HR2 := Lib.hid hR2; have HK2 := Lib.hid hK2; obtain ⟨p2, cap2, rfl, -, -⟩ := ownsRow_form ho2; clear hX2 hR2 hF2 hK2)
            go_roundg k'
            case rel =>
              have hX3 := HX2.out.set_ 1 (.slice p2 (0 + 1) cap2)
              have hgl2 : (glen [] g (u + 1)).length = 0 + 1 := by rw [HGG.out.2]; simp
              refine ⟨u + 1, g, fl, [], .slice po fl.length capo, .slice p2 (0 + 1) cap2, by simp, HF2.out.store HX2.out (by decide) (by decide) _, ?_, by simpa using hX3, HR2.out.far (by simp) _, rowLine0 HK2.out (by omega) _, by omega, by omega, by omega, by rw [hgl2]; omega, by omega, HLast.out, ?_, ?_⟩
              · unfold GapsAt
                rw [HGG.out.2, List.length_append, List.flatMap_append]
                exact ownsRow_store ho2 HX2.out (by decide) _
              · rw [HE.out.1, herr.out]
              · rw [HE.out.2, herr.out]
            case measure => omega
          · have hix : ((gl.length : Int) - 1).toNat = gl.length - 1 := by omega
            have hix2 : (0 : Int) ≤ (gl.length : Int) - 1 := by omega
            go_wp2_with (at_builtin; refine wpList_apps (base := R) gapok (by decide) rfl _ _ rfl (.slice _ gl.length capg) (.slice (some ⟨wa.heap.size, 0, none⟩) 1 1) gl.length 1 (gl.flatMap gapC) [.int .i64 (u : Int), .int .i64 ((u : Int) + 1)] rfl rfl (ownsRow_keeps HGa.out ((Keeps.refl _).alloc _)) (rowS_lit rfl rfl rfl) (by simp [Value.oneCell']) (by omega) (by decide) (by simp; omega) ?_; intro v' w2 ho2 hg2 hf2; obtain ⟨hF2, hX2, hR2, hK2⟩ := HNew.out _ _ ho2 hg2; have hx1' : w2.cell? ⟨R + 1, 1, none⟩ = some (.slice _ gl.length capg) := by { rw [hX2.cell]; rfl }; have hz1 : w2.frozen? ⟨R + 1, 1, none⟩ = false := hX2.frozen 1; have HF2 := Lib.hid hF2; have HX2 := Lib.hid hX2; have HR2 := Lib.hid hR2; have HK2 := Lib.hid hK2; obtain ⟨p2, cap2, rfl, -, -⟩ := ownsRow_form ho2; clear hX2 hR2 hF2 hK2)
            go_roundg k'
            case rel =>
              have hX3 := HX2.out.set_ 1 (.slice p2 (gl.length + 1) cap2)
              have hgl2 : (glen gl g (u + 1)).length = gl.length + 1 := by rw [HGG.out.2]; simp
              refine ⟨u + 1, g, fl, gl, .slice po fl.length capo, .slice p2 (gl.length + 1) cap2, by simp, HF2.out.store HX2.out (by decide) (by decide) _, ?_, by simpa using hX3, HR2.out.far (by simp) _, rowLine0 HK2.out (by omega) _, by omega, by omega, by omega, by rw [hgl2]; omega, by omega, HLast.out, ?_, ?_⟩
              · unfold GapsAt
                rw [HGG.out.2, List.length_append, List.flatMap_append]
                exact ownsRow_store ho2 HX2.out (by decide) _
              · rw [HE.out.1, herr.out]
              · rw [HE.out.2, herr.out]
            case measure => omega
    · have hr0 : wr.cell? ⟨R, 0, none⟩ = some (.slice none 0 0) := by rw [HRb.out.cell]; rfl
      have hr1 : wr.cell? ⟨R, 1, none⟩ = some (.slice none 0 0) := by rw [HRb.out.cell]; rfl
      have hg0 : wr.frozen? ⟨R, 0, none⟩ = false := HRb.out.frozen 0
      have hg1 : wr.frozen? ⟨R, 1, none⟩ = false := HRb.out.frozen 1
      have HFin : Hid (RScanDid w (scanR l) (.returned (.agg #[.slice po fl.length capo, .slice pg (glen gl g u).length capg])) ((wr.setCell ⟨R, 0, none⟩ (.slice po fl.length capo)).setCell ⟨R, 1, none⟩ (.slice pg (glen gl g u).length capg))) := Lib.hid (by
        have hR2 := HRb.out.set_ 0 (.slice po fl.length capo)
        refine ⟨.slice po fl.length capo, fl, .slice pg (glen gl g u).length capg, rfl, ?_, ?_, ?_, ?_⟩
        · rw [HRw.out]; exact (HF.out.store HRb.out (by decide) (by decide) _).store hR2 (by decide) (by decide) _
        · rw [HE.out.1, scanN_end hlt]; simp
        · rw [HRw.out, HE.out.2, scanN_end hlt]
          have := glen_app gl [] g u
          simp only [List.append_nil] at this
          rw [this]
          exact ownsRow_store (ownsRow_store HG.out HRb.out (by decide) _) hR2 (by decide) _
        · exact rowLine0 (rowLine0 HK.out (by omega) _) (by omega) _)
      clear HE
      go_wp2_with fail
      exact bodyPost_ret (v := .agg #[.slice po fl.length capo, .slice pg (glen gl g u).length capg]) (by simp [results, Try.results103, go_sem, hr0, hr1, hg0, hg1]) rfl HFin.out
end Frm
end Go.Proofs.Ytekkjhjaacjhnaa

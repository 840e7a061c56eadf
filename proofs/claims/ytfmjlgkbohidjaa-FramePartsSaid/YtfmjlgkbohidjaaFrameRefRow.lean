/- The reference's Row. -/
import Derived.Test.YtfmjlgkbohidjaaFrameRefAt
import Derived.Test.YtfmjlgkbohidjaaFrameScan
namespace Go.Proofs.Ytfmjlgkbohidjaa
open Go.RowKit
namespace Frm
open Oct

def RRowDid (W : World) (fs : List Fr1) (u : Nat) (n : Int) (e : Ending) (w' : World) : Prop :=
  ∃ v l, e = .returned (.agg #[v, .int .i64 (u : Int), .int .i64 n]) ∧ FramesAt w' W.heap.size v l ∧ l.map (·.1) = fs ∧ Keeps W w'

/-- a store into a block of another type leaves a list of frames -/
theorem FramesAt.store {w : World} {base g i : Nat} {t : TypeId} {cs : Array Value} {v : Value} {l : List (Fr1 × Value)} (h : FramesAt w base v l) (hb : Blk w g t cs) (h1 : t ≠ 5) (h2 : t ≠ 63) (u : Value) : FramesAt (w.setCell ⟨g, i, none⟩ u) base v l := by
  have hM : Mods (· = g) w (w.setCell ⟨g, i, none⟩ u) := Mods.setCell (p := ⟨g, i, none⟩) (Mods.refl (· = g) w) (fun _ => rfl) u
  refine h.mods hM ?_ ?_
  all_goals
    rintro x rfl cs' fr hx
    unfold Blk at hb
    rw [hb] at hx
    simp only [Option.some.injEq, Obj.cells.injEq] at hx
    first | exact h1 hx.2.1 | exact h2 hx.2.1

theorem rowLine0 {W : World} {g i : Nat} {w : World} (hk : Keeps W w) (h : W.heap.size ≤ g) (u : Value) : Keeps W (w.setCell ⟨g, i, none⟩ u) := hk.setCell (p := ⟨g, i, none⟩) h u

set_option maxRecDepth 100000 in
set_option maxHeartbeats 4000000 in
theorem rRow_any (v : Value) (l : List UInt8) (w : World) (hr : Row w v (l.map u8v)) (hl : l.length ≤ 1099511627776) : Calls Try.prog 58 #[v] w (RRowDid w (rowR l).1 (rowR l).2.1 (rowR l).2.2) := by
  obtain ⟨p, cap, rfl, hc1, hc2⟩ := hr.formB
  have HR := Lib.hid hr
  clear hr
  go_enter Try.func58, Try.ntmps58
  go_wp2_with fail
  generalize hwe : World.alloc (World.alloc w _) _ = we
  have hRe : Blk we w.heap.size 88 #[.slice none 0 0, .int .i64 0, .int .i64 0] := by
    rw [← hwe]; exact (Blk.new w _ _ rfl).alloc _
  have hXe : Blk we (w.heap.size + 1) 88 #[.slice none 0 0, .int .i64 0, .int .i64 0] := by
    rw [← hwe]; exact Blk.new _ _ _ (alloc_size w _).symm
  have hKe : Keeps w we := by rw [← hwe]; exact ((Keeps.refl _).alloc _).alloc _
  clear hwe
  generalize hR : w.heap.size = R at *
  have hRR : w.heap.size ≤ R := by omega
  have HRw := Lib.hid hR
  clear hR
  go_loopg [] l.length (fun gk wr => ∃ (u : Nat) (fl : List (Fr1 × Value)) (vo : Value), FramesAt wr R vo fl ∧ Blk wr (R + 1) 88 #[vo, .int .i64 (u : Int), .int .i64 0] ∧ Blk wr R 88 #[.slice none 0 0, .int .i64 0, .int .i64 0] ∧ Keeps w wr ∧ u ≤ l.length ∧ l.length ≤ u + gk ∧ fl.length ≤ u ∧ (rowR l).1 = fl.map (·.1) ++ (rowN l gk u).1 ∧ (rowR l).2 = (rowN l gk u).2)
  case atStart => exact ⟨0, [], _, FramesAt.nil _ _, hXe, hRe, hKe, Nat.zero_le _, by omega, by simp, by simp [rowR], rfl⟩
  case round =>
    obtain ⟨u, fl, vo, hfl, hX, hRb, hK, hu, hgk, hfu, he1, he2⟩ := hrel
    obtain ⟨po, capo, rfl, hpo1, hpo2⟩ := ownsRow_form hfl.own
    have HF := Lib.hid hfl
    have HE := Lib.hid (And.intro he1 he2)
    have HK := Lib.hid hK
    have HX := Lib.hid hX
    have HRb := Lib.hid hRb
    have hRlt := hRb.lt
    have hXlt := hX.lt
    clear hfl he1 he2 hK hX hRb
    have hx0 : wr.cell? ⟨R + 1, 0, none⟩ = some (.slice po fl.length capo) := by rw [HX.out.cell]; rfl
    have hx1 : wr.cell? ⟨R + 1, 1, none⟩ = some (.int .i64 (u : Int)) := by rw [HX.out.cell]; rfl
    have hx2 : wr.cell? ⟨R + 1, 2, none⟩ = some (.int .i64 0) := by rw [HX.out.cell]; rfl
    by_cases hlt : u < l.length
    · obtain ⟨k', rfl⟩ : ∃ k', gk = k' + 1 := ⟨gk - 1, by omega⟩
      have HA := Lib.hid (rAt_any (.slice p l.length cap) l u wr (HR.out.keeps HK.out) (by omega))
      by_cases he : atE l u = 0
      · have hok := Lib.hid (rowN_ok (k := k') hlt he)
        obtain ⟨hl10, hlen, hl0⟩ := atE_len he
        rw [he] at HA
        clear he
        generalize atF l u = f at *
        obtain ⟨m, hm⟩ := Int.eq_ofNat_of_zero_le hl0
        go_wp2_with fail
        refine HA.out.mono ?_
        rintro e w1 ⟨pv, rfl, hpv, hK1⟩
        obtain ⟨pp, np, cp, rfl⟩ := piece_sl hpv
        have HP1 := Lib.hid (hpv.lower (show R ≤ wr.heap.size by omega))
        have HF1 := Lib.hid (HF.out.keeps hK1)
        have HX1 := Lib.hid (HX.out.keeps hK1)
        have HR1 := Lib.hid (HRb.out.keeps hK1)
        have HK1 := Lib.hid (HK.out.trans hK1)
        have hsz1 := hK1.size
        clear hpv hK1 HF HK HX HRb hx0 hx1 hx2
        obtain ⟨fa, fle, fk, fp⟩ := f
        unfold frV
        simp only at hm hl10 hlen hl0
        subst hm
        go_upto_region 7 with fail
        generalize hWa : World.alloc w1 _ = wa
        have hFb : Blk wa w1.heap.size 63 #[.int .i64 fa, .int .i64 (m : Int), .int .i64 fk, .slice pp np cp] := by rw [← hWa]; exact Blk.new _ _ _ rfl
        have hKa : Keeps w1 wa := by rw [← hWa]; exact (Keeps.refl _).alloc _
        have HFa := Lib.hid (HF1.out.keeps hKa)
        have HPa := Lib.hid (HP1.out.keeps hKa)
        have HXa := Lib.hid (HX1.out.keeps hKa)
        have HRa := Lib.hid (HR1.out.keeps hKa)
        have HKa := Lib.hid (HK1.out.trans hKa)
        have hsza := hKa.size
        have hc0 : wa.cell? ⟨w1.heap.size, 0, none⟩ = some (.int .i64 fa) := by rw [hFb.cell]; rfl
        have hc1' : wa.cell? ⟨w1.heap.size, 1, none⟩ = some (.int .i64 (m : Int)) := by rw [hFb.cell]; rfl
        have hc2' : wa.cell? ⟨w1.heap.size, 2, none⟩ = some (.int .i64 fk) := by rw [hFb.cell]; rfl
        have hc3 : wa.cell? ⟨w1.heap.size, 3, none⟩ = some (.slice pp np cp) := by rw [hFb.cell]; rfl
        have hx0 : wa.cell? ⟨R + 1, 0, none⟩ = some (.slice po fl.length capo) := by rw [HXa.out.cell]; rfl
        have HFb := Lib.hid hFb
        have hne : Value.ownBlock (.slice po fl.length capo) ≠ some w1.heap.size := fun h => by
          exact absurd (ownsRow_lt HF1.out.own _ h) (by omega)
        have HNe := Lib.hid hne
        have HNx : Hid (Value.ownBlock (.slice po fl.length capo) ≠ some (R + 1) ∧ Value.ownBlock (.slice po fl.length capo) ≠ some R) := Lib.hid ⟨ownsRow_ne HFa.out.own HXa.out (by decide), ownsRow_ne HFa.out.own HRa.out (by decide)⟩
        clear hWa hFb hKa HF1 HP1 HK1 hne HX1 HR1
        generalize hQ : w1.heap.size = q at *
        have hqR : R + 1 < q := by omega
        have hqR' : q ≠ R + 1 ∧ R + 1 ≠ q := by omega
        have hqa : q < wa.heap.size := HFb.out.lt
        clear hQ
        go_wp2_with (at_builtin; refine wpList_apps (base := R) frok (by decide) rfl _ _ rfl (.slice po fl.length capo) (.slice (some ⟨wa.heap.size, 0, none⟩) 1 1) fl.length 1 (fl.flatMap frC) [.int .i64 fa, .int .i64 (m : Int), .int .i64 fk, .slice pp np cp] rfl rfl (ownsRow_keeps HFa.out.own ((Keeps.refl _).alloc _)) (rowS_lit rfl rfl rfl) (by simp [Value.oneCell']) (by omega) (by decide) (by simp; omega) ?_; intro v' w2 ho2 hg2 hf2; have hB2 := (HFb.out.alloc _).grown hg2 HNe.out; have hm2 : w2.cell? ⟨q, 1, none⟩ = some (.int .i64 (m : Int)) := by { rw [hB2.cell]; rfl }; have hX2 := (HXa.out.alloc _).grown hg2 HNx.out.1; have hR2 := (HRa.out.alloc _).grown hg2 HNx.out.2; have hx0' : w2.cell? ⟨R + 1, 0, none⟩ = some (.slice po fl.length capo) := by { rw [hX2.cell]; rfl }; have hx1' : w2.cell? ⟨R + 1, 1, none⟩ = some (.int .i64 (u : Int)) := by { rw [hX2.cell]; rfl }; have hz0 : w2.frozen? ⟨R + 1, 0, none⟩ = false := hX2.frozen 0; have hz1 : w2.frozen? ⟨R + 1, 1, none⟩ = false := hX2.frozen 1; have HX2 := Lib.hid hX2; have HR2 := Lib.hid hR2; have HB2 := Lib.hid hB2; obtain ⟨p2, cap2, rfl, -, -⟩ := ownsRow_form ho2; clear hX2 hR2 hB2)
        go_roundg k'
        case rel =>
          have hL2 : FramesAt w2 R (.slice p2 (fl.length + 1) cap2) (fl ++ [(⟨fa, m, fk, fp⟩, .slice pp np cp)]) := (HFa.out.keeps ((Keeps.refl _).alloc _)).snoc (f := ⟨fa, m, fk, fp⟩) (pv := .slice pp np cp) (HPa.out.keeps ((Keeps.refl _).alloc _)) ho2 hg2
          have hX3 := HX2.out.set_ 0 (.slice p2 (fl.length + 1) cap2)
          have hX4 := hX3.set_ 1 (.int .i64 ((u : Int) + m))
          have hK2 : Keeps w w2 := (HKa.out.alloc _).grown hg2 (fun x hx => by have := ownsRow_base HFa.out.own x hx; omega)
          refine ⟨u + m, fl ++ [(⟨fa, m, fk, fp⟩, .slice pp np cp)], .slice p2 (fl.length + 1) cap2, (hL2.store HX2.out (by decide) (by decide) _).store hX3 (by decide) (by decide) _, by simpa using hX4, (HR2.out.far (by simp) _).far (by simp) _, rowLine0 (rowLine0 hK2 (by omega) _) (by omega) _, by omega, by omega, by simp; omega, ?_, ?_⟩
          · rw [HE.out.1, hok.out]; simp
          · rw [HE.out.2, hok.out]; simp
        case measure => omega
      · have herr := Lib.hid (rowN_err (k := k') hlt he)
        have hne : (atE l u != 0) = true := by simp [he]
        clear he
        go_wp2_with fail
        refine HA.out.mono ?_
        rintro e w1 ⟨pv, rfl, hpv, hK1⟩
        obtain ⟨pp, np, cp, rfl⟩ := piece_sl hpv
        have HF1 := Lib.hid (HF.out.keeps hK1)
        have HX1 := Lib.hid (HX.out.keeps hK1)
        have HR1 := Lib.hid (HRb.out.keeps hK1)
        have HK1 := Lib.hid (HK.out.trans hK1)
        have hsz1 := hK1.size
        clear hpv hK1 hx0 hx1 hx2
        generalize hER : atE l u = er at *
        have HER := Lib.hid hER
        clear hER
        unfold frV
        go_upto_region 4 with fail
        generalize hWa : World.alloc w1 _ = wa
        have hKa : Keeps w1 wa := by rw [← hWa]; exact (Keeps.refl _).alloc _
        have HFa := Lib.hid (HF1.out.keeps hKa)
        have HXa := Lib.hid (HX1.out.keeps hKa)
        have HRa := Lib.hid (HR1.out.keeps hKa)
        have HKa := Lib.hid (HK1.out.trans hKa)
        clear hWa hKa HF1 HX1 HR1 HK1
        have hx0 : wa.cell? ⟨R + 1, 0, none⟩ = some (.slice po fl.length capo) := by rw [HXa.out.cell]; rfl
        have hx1 : wa.cell? ⟨R + 1, 1, none⟩ = some (.int .i64 (u : Int)) := by rw [HXa.out.cell]; rfl
        have hx2 : wa.cell? ⟨R + 1, 2, none⟩ = some (.int .i64 0) := by rw [HXa.out.cell]; rfl
        have hf2 : wa.frozen? ⟨R + 1, 2, none⟩ = false := HXa.out.frozen 2
        have hr0 : wa.cell? ⟨R, 0, none⟩ = some (.slice none 0 0) := by rw [HRa.out.cell]; rfl
        have hr1 : wa.cell? ⟨R, 1, none⟩ = some (.int .i64 0) := by rw [HRa.out.cell]; rfl
        have hr2 : wa.cell? ⟨R, 2, none⟩ = some (.int .i64 0) := by rw [HRa.out.cell]; rfl
        have hg0 : wa.frozen? ⟨R, 0, none⟩ = false := HRa.out.frozen 0
        have hg1 : wa.frozen? ⟨R, 1, none⟩ = false := HRa.out.frozen 1
        have hg2 : wa.frozen? ⟨R, 2, none⟩ = false := HRa.out.frozen 2
        have HFin : Hid (RRowDid w (rowR l).1 (rowR l).2.1 (rowR l).2.2 (.returned (.agg #[.slice po fl.length capo, .int .i64 (u : Int), .int .i64 er])) ((((wa.setCell ⟨R + 1, 2, none⟩ (.int .i64 er)).setCell ⟨R, 0, none⟩ (.slice po fl.length capo)).setCell ⟨R, 1, none⟩ (.int .i64 (u : Int))).setCell ⟨R, 2, none⟩ (.int .i64 er))) := Lib.hid (by
          have hXs := HXa.out.set_ 2 (.int .i64 er)
          have hR1 := HRa.out.far (p := ⟨R + 1, 2, none⟩) (by simp) (.int .i64 er)
          have hR2 := hR1.set_ 0 (.slice po fl.length capo)
          have hR3 := hR2.set_ 1 (.int .i64 (u : Int))
          refine ⟨.slice po fl.length capo, fl, ?_, ?_, ?_, ?_⟩
          · rw [HE.out.2, herr.out]
          · rw [HRw.out]; exact (((HFa.out.store HXa.out (by decide) (by decide) _).store hR1 (by decide) (by decide) _).store hR2 (by decide) (by decide) _).store hR3 (by decide) (by decide) _
          · rw [HE.out.1, herr.out]; simp
          · exact rowLine0 (rowLine0 (rowLine0 (rowLine0 HKa.out (by omega) _) (by omega) _) (by omega) _) (by omega) _)
        clear herr HE
        go_wp2_with fail
        exact bodyPost_ret (v := .agg #[.slice po fl.length capo, .int .i64 (u : Int), .int .i64 er]) (by simp [results, Try.results58, go_sem, hr0, hr1, hr2, hg0, hg1, hg2]) rfl HFin.out
    · have hr0 : wr.cell? ⟨R, 0, none⟩ = some (.slice none 0 0) := by rw [HRb.out.cell]; rfl
      have hr1 : wr.cell? ⟨R, 1, none⟩ = some (.int .i64 0) := by rw [HRb.out.cell]; rfl
      have hr2 : wr.cell? ⟨R, 2, none⟩ = some (.int .i64 0) := by rw [HRb.out.cell]; rfl
      have hg0 : wr.frozen? ⟨R, 0, none⟩ = false := HRb.out.frozen 0
      have hg1 : wr.frozen? ⟨R, 1, none⟩ = false := HRb.out.frozen 1
      have hg2 : wr.frozen? ⟨R, 2, none⟩ = false := HRb.out.frozen 2
      have HFin : Hid (RRowDid w (rowR l).1 (rowR l).2.1 (rowR l).2.2 (.returned (.agg #[.slice po fl.length capo, .int .i64 (u : Int), .int .i64 0])) (((wr.setCell ⟨R, 0, none⟩ (.slice po fl.length capo)).setCell ⟨R, 1, none⟩ (.int .i64 (u : Int))).setCell ⟨R, 2, none⟩ (.int .i64 0))) := Lib.hid (by
        have hR2 := HRb.out.set_ 0 (.slice po fl.length capo)
        have hR3 := hR2.set_ 1 (.int .i64 (u : Int))
        refine ⟨.slice po fl.length capo, fl, ?_, ?_, ?_, ?_⟩
        · rw [HE.out.2, rowN_end hlt]
        · rw [HRw.out]; exact ((HF.out.store HRb.out (by decide) (by decide) _).store hR2 (by decide) (by decide) _).store hR3 (by decide) (by decide) _
        · rw [HE.out.1, rowN_end hlt]; simp
        · exact rowLine0 (rowLine0 (rowLine0 HK.out (by omega) _) (by omega) _) (by omega) _)
      clear HE
      go_wp2_with fail
      exact bodyPost_ret (v := .agg #[.slice po fl.length capo, .int .i64 (u : Int), .int .i64 0]) (by simp [results, Try.results58, go_sem, hr0, hr1, hr2, hg0, hg1, hg2]) rfl HFin.out
end Frm
end Go.Proofs.Ytfmjlgkbohidjaa

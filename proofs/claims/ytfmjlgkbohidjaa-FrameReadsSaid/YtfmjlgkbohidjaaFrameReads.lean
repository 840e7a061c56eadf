/- The law FrameReads, walked. -/
import Derived.Test.YtfmjlgkbohidjaaFrameRefRow
import Derived.Test.YtfmjlgkbohidjaaFrameSame
import Derived.Test.YtfmjlgkbohidjaaOctetLaws
namespace Go.Proofs.Ytfmjlgkbohidjaa
open Go.RowKit
namespace Frm
open Oct

theorem ownsRow_one {w : World} {base b : Nat} {e : TypeId} {cs : Array Value} {C : Nat} (hb : b = w.heap.size) (hbase : base ≤ b) (hC : cs.size = C) : (w.alloc (.cells cs e)).ownsRow base e C (.slice (some ⟨b, 0, none⟩) 1 1) 1 cs.toList := by
  subst hb hC
  refine ⟨by simp, .inr ⟨w.heap.size, 1, cs, rfl, hbase, ?_, Nat.le_refl _, by simp [maxLen], by simp, by simp; exact List.take_of_length_le (by simp)⟩⟩
  show (w.heap.push _)[w.heap.size]? = _
  simp

theorem framesAt_one {w : World} {base b : Nat} {f : Fr1} {pv : Value} (hb : b = w.heap.size) (hbase : base ≤ b) (hp : Piece w base 5 pv (f.pay.map u8v)) : FramesAt (w.alloc (.cells #[.int .i64 f.at', .int .i64 f.len, .int .i64 f.kind, pv] 63)) base (.slice (some ⟨b, 0, none⟩) 1 1) [(f, pv)] :=
  ⟨by have := ownsRow_one (e := 63) (cs := #[.int .i64 f.at', .int .i64 f.len, .int .i64 f.kind, pv]) (C := 4) hb hbase rfl; exact this, by simp; exact hp.keeps ((Keeps.refl _).alloc _)⟩

set_option maxRecDepth 100000 in
set_option maxHeartbeats 2000000 in
theorem frameReads_walk (W : World) (v0 : Value) (l : List UInt8) (a : Int) (r0 : Row W v0 (l.map u8v)) (_w1 : (Lit.int .i64 a).wf = true) : Calls Try.prog 13 #[v0, .int .i64 a] W fun e w' => e = .returned (.bool true) ∧ Keeps W w' := by
  obtain ⟨p, cap, rfl, hc1, hc2⟩ := r0.formB
  have HR := Lib.hid r0
  clear r0
  by_cases h3 : 2000 < l.length
  · go_enter Try.func13, Try.ntmps13
    go_wp2_with fail
    refine (awake_any _).mono ?_
    rintro e w1 ⟨rfl, hK1⟩
    go_wp2_with fail
    go_ret
    exact ⟨rfl, hK1⟩
  · have C1 := Lib.hid (fun w (k : Keeps W w) => at_any (.slice p l.length cap) l a w (HR.out.keeps k) (by omega))
    have C2 := Lib.hid (fun w (k : Keeps W w) => rAt_any (.slice p l.length cap) l a w (HR.out.keeps k) (by omega))
    have C3 := Lib.hid (fun w (k : Keeps W w) => row_any (.slice p l.length cap) l w (HR.out.keeps k) (by omega))
    have C4 := Lib.hid (fun w (k : Keeps W w) => rRow_any (.slice p l.length cap) l w (HR.out.keeps k) (by omega))
    have hfl : (rowR l).1.length ≤ l.length := rowN_count _ _ _
    generalize (rowR l).1 = fs at *
    generalize (rowR l).2.1 = u at *
    generalize (rowR l).2.2 = rn at *
    generalize atE l a = E at *
    generalize atF l a = f at *
    obtain ⟨fa, fle, fk, fp⟩ := f
    go_enter Try.func13, Try.ntmps13
    go_wp2_with fail
    refine (awake_any _).mono ?_
    rintro e w1 ⟨rfl, hK1⟩
    go_wp2_with fail
    refine (C1.out _ hK1).mono ?_
    rintro e w2 ⟨pa, rfl, hpa, hK2⟩
    obtain ⟨pp, np, cp, rfl⟩ := piece_sl hpa
    unfold frV
    go_upto_region 6 with fail
    generalize hWa : World.alloc w2 _ = wa
    have hFa : Blk wa w2.heap.size 63 #[.int .i64 fa, .int .i64 fle, .int .i64 fk, .slice pp np cp] := by rw [← hWa]; exact Blk.new _ _ _ rfl
    have hk : Keeps w2 wa := by rw [← hWa]; exact (Keeps.refl _).alloc _
    have HPA := Lib.hid ((hpa.keeps hk).lower (base' := W.heap.size) (hK1.size))
    have HFA := Lib.hid hFa
    have HKa := Lib.hid ((hK1.trans hK2).trans hk)
    have hsa := hk.size
    clear hWa hk hpa hK1 hK2 hFa
    generalize hq : w2.heap.size = q at *
    clear hq
    go_wp2_with fail
    refine (C2.out _ HKa.out).mono ?_
    rintro e w3 ⟨pb, rfl, hpb, hK3⟩
    obtain ⟨pp2, np2, cp2, rfl⟩ := piece_sl hpb
    unfold frV
    go_upto_region 7 with fail
    generalize hWb : World.alloc w3 _ = wb
    have hFb : Blk wb w3.heap.size 63 #[.int .i64 fa, .int .i64 fle, .int .i64 fk, .slice pp2 np2 cp2] := by rw [← hWb]; exact Blk.new _ _ _ rfl
    have hk : Keeps w3 wb := by rw [← hWb]; exact (Keeps.refl _).alloc _
    have HPB := Lib.hid ((hpb.keeps hk).lower (base' := W.heap.size) (HKa.out.size))
    have HPA2 := Lib.hid (HPA.out.keeps (hK3.trans hk))
    have hFa2 := HFA.out.keeps (hK3.trans hk)
    have HKb := Lib.hid (HKa.out.trans (hK3.trans hk))
    have ha0 : wb.cell? ⟨q, 0, none⟩ = some (.int .i64 fa) := by rw [hFa2.cell]; rfl
    have ha1 : wb.cell? ⟨q, 1, none⟩ = some (.int .i64 fle) := by rw [hFa2.cell]; rfl
    have ha2 : wb.cell? ⟨q, 2, none⟩ = some (.int .i64 fk) := by rw [hFa2.cell]; rfl
    have ha3 : wb.cell? ⟨q, 3, none⟩ = some (.slice pp np cp) := by rw [hFa2.cell]; rfl
    have hb0 : wb.cell? ⟨w3.heap.size, 0, none⟩ = some (.int .i64 fa) := by rw [hFb.cell]; rfl
    have hb1 : wb.cell? ⟨w3.heap.size, 1, none⟩ = some (.int .i64 fle) := by rw [hFb.cell]; rfl
    have hb2 : wb.cell? ⟨w3.heap.size, 2, none⟩ = some (.int .i64 fk) := by rw [hFb.cell]; rfl
    have hb3 : wb.cell? ⟨w3.heap.size, 3, none⟩ = some (.slice pp2 np2 cp2) := by rw [hFb.cell]; rfl
    have hla := hFa2.lt
    have hlb := hFb.lt
    clear hWb hk hpb hK3 hFa2 hFb HPA HFA
    generalize hq2 : w3.heap.size = q2 at *
    clear hq2
    go_wp2_with fail
    have hF5 : FramesAt (World.alloc wb (.cells #[.int .i64 fa, .int .i64 fle, .int .i64 fk, .slice pp np cp] 63)) W.heap.size (.slice (some ⟨wb.heap.size, 0, none⟩) 1 1) [(⟨fa, fle, fk, fp⟩, .slice pp np cp)] := framesAt_one (f := ⟨fa, fle, fk, fp⟩) rfl HKb.out.size HPA2.out
    have hF6 := framesAt_one (w := World.alloc wb (.cells #[.int .i64 fa, .int .i64 fle, .int .i64 fk, .slice pp np cp] 63)) (base := W.heap.size) (b := wb.heap.size + 1) (f := ⟨fa, fle, fk, fp⟩) (pv := .slice pp2 np2 cp2) (alloc_size _ _).symm (by have := HKb.out.size; omega) (HPB.out.keeps ((Keeps.refl _).alloc _))
    have hS := same_any _ _ _ _ _ _ _ (hF5.keeps ((Keeps.refl _).alloc _)) hF6 rfl (by simp)
    refine hS.mono ?_
    rintro e w7 ⟨rfl, hk7⟩
    have HK7 := Lib.hid (((HKb.out.alloc _).alloc _).trans hk7)
    clear hS hF5 hF6 hk7 ha0 ha1 ha2 ha3 hb0 hb1 hb2 hb3
    go_wp2_with fail
    refine (C3.out _ HK7.out).mono ?_
    rintro e w8 ⟨va, la, rfl, hfa, hma, hK8⟩
    obtain ⟨pa, ca, rfl, -, -⟩ := ownsRow_form hfa.own
    have hla : la.length = fs.length := by rw [← hma, List.length_map]
    have HFA := Lib.hid hfa
    have HMA := Lib.hid hma
    have HK8 := Lib.hid (HK7.out.trans hK8)
    clear hfa hma hK8
    have HLA := Lib.hid hla
    clear hla
    go_wp2_with fail
    refine (C4.out _ HK8.out).mono ?_
    rintro e w9 ⟨vb, lb, rfl, hfb, hmb, hK9⟩
    obtain ⟨pb, cb, rfl, -, -⟩ := ownsRow_form hfb.own
    have HFA9 := Lib.hid (HFA.out.keeps hK9)
    have HFB := Lib.hid hfb
    have HMB := Lib.hid hmb
    have HK9 := Lib.hid (HK8.out.trans hK9)
    clear hfb hmb hK9
    go_wp2_with fail
    have hS := same_any _ _ _ _ _ _ _ (HFA9.out.keeps ((Keeps.refl _).alloc (.cells #[.slice pb lb.length cb, .int .i64 (u : Int), .int .i64 rn] 88))) (HFB.out.keeps ((Keeps.refl _).alloc _)) (HMA.out.trans HMB.out.symm) (by rw [HLA.out]; omega)
    refine hS.mono ?_
    rintro e w10 ⟨rfl, hk10⟩
    have hB := (Blk.new w9 88 #[.slice pb lb.length cb, .int .i64 (u : Int), .int .i64 rn] rfl).keeps hk10
    have hc1' : w10.cell? ⟨w9.heap.size, 1, none⟩ = some (.int .i64 (u : Int)) := by rw [hB.cell]; rfl
    have hc2' : w10.cell? ⟨w9.heap.size, 2, none⟩ = some (.int .i64 rn) := by rw [hB.cell]; rfl
    have HK10 := Lib.hid ((HK9.out.alloc _).trans hk10)
    clear hS hB hk10
    go_wp2_with fail
    go_ret
    exact ⟨rfl, HK10.out⟩
end Frm
end Go.Proofs.Ytfmjlgkbohidjaa

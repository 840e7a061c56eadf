/- Several texts in one: RfBoot, RfWrites, TpActs. -/
import Derived.Test.YtchjncnolmiejaaGreatK42
import Derived.Test.YtchjncnolmiejaaGreatK13
/- The document's disk: Boot. -/
namespace Go.Proofs.YtchjncnolmiejaaGreat
open Go.RowKit
namespace Rf
open Vd
theorem writeAt {w : World} {v : Value} {l : List Pat} (h : w.ownsRow 0 127 2 v l.length (l.flatMap wrC)) {q : Nat} (hq : q < l.length) : ∃ b off cap, v = .slice (some ⟨b, off, none⟩) l.length cap ∧ w.rangeAt b (off + q * 2) [.int .i64 (l[q].place : Int), .string (bstr l[q].b)] := by
 obtain ⟨b, off, cap, hv, -, -, hc⟩ := RowS.at_ (rowS_of h) (by omega)
 refine ⟨b, off, cap, hv, fun i x hx => ?_⟩
 have hi : i < 2 := by
  have := (List.getElem?_eq_some_iff.1 hx).1
  simpa using this
 rw [Nat.add_assoc]
 refine hc.out (q * 2 + i) x ?_
 rw [flat_get wrC_len l q i _ (List.getElem?_eq_getElem hq) hi]
 exact hx
theorem turnsAt {w : World} {v : Value} {l : List RTurn} (h : w.ownsRow 0 131 3 v l.length (l.flatMap trC)) {q : Nat} (hq : q < l.length) : ∃ b off cap, v = .slice (some ⟨b, off, none⟩) l.length cap ∧ w.rangeAt b (off + q * 3) (trC l[q]) := by
 obtain ⟨b, off, cap, hv, -, -, hc⟩ := RowS.at_ (rowS_of h) (by omega)
 refine ⟨b, off, cap, hv, fun i x hx => ?_⟩
 have hi : i < 3 := by
  have := (List.getElem?_eq_some_iff.1 hx).1
  simpa [trC, trA] using this
 rw [Nat.add_assoc]
 refine hc.out (q * 3 + i) x ?_
 rw [flat_get trC_len l q i _ (List.getElem?_eq_getElem hq) hi]
 exact hx
theorem rowAt {w : World} {p : Option Addr} {n c : Nat} {l : List Int} (h : Row w (.slice p n c) (l.map (Value.int .i64))) {i : Nat} (hi : i < l.length) : ∃ b off, p = some ⟨b, off, none⟩ ∧ w.cell? ⟨b, off + i, none⟩ = some (.int .i64 l[i]) := by
 rcases h with ⟨a0, cap', hv, hl, -, -⟩ | ⟨b, off, cap', hv, -, -, hc⟩
 ·simp at hl
  subst hl
  simp at hi
 ·simp only [Value.slice.injEq] at hv
  exact ⟨b, off, hv.1, hc i _ (by simp [hi])⟩
theorem neg1_in : (-1 : Int) ≤ -1 ∧ (-1 : Int) ≤ 9223372036854775807 := by decide
section
variable {w : World} {M : Nat → Prop} {m : Nat} {d : RDsk} {k : Nat}
set_option maxRecDepth 100000 in
set_option maxHeartbeats 8000000 in
theorem rboot_r (h : RefAt w M m d k) (hk : k ≤ 100000) (turns : Int) (ht : (Lit.int .i64 turns).wf = true) {kv : Value} {keep : List Int} (hr : Row w kv (keep.map (Value.int .i64)))
  (hp : ∀ i (h : i < d.files.length), knownR d i = true → ∀ p ∈ d.files[i].waits, p.place + p.b.length ≤ 1000000000) (hgl : ∀ j, (goneR d.sure d.waits j).length ≤ k) (hga : ∀ j, AscN (goneR d.sure d.waits j)) (hgi : ∀ p ∈ goneR d.sure d.waits turns.toNat, p.2 < d.files.length) :
  Calls Tryz.prog 21 #[.pointer (some ⟨m, 0, none⟩), .int .i64 turns, kv] w (RDid w M m (bootR d turns keep) k) := by
 obtain ⟨fv, nv, sv, wv, fw, h⟩ := h
 have H := Lib.hid h
 obtain ⟨c0, -, c2, c3, -, c5, -⟩ := h.cells
 unfold RDid
 cases hd : d.down with
 | false =>
  rw [hd] at c5
  have HX := Lib.hid (show bootR d turns keep = (d, 13) from by unfold bootR; rw [if_pos hd])
  clear h c0 c2 c3 hd
  go_enter Tryz.func21, Tryz.ntmps21
  go_wp2_with fail
  go_ret
  rw [HX.out]
  exact ⟨rfl, ⟨_, _, _, _, _, H.out.wide (fun y hy => .inl hy)⟩, Mods.refl _ _⟩
 | true =>
  rw [hd] at c5
  obtain ⟨pf, cf, rfl, -, -⟩ := Frm.ownsRow_form h.files
  obtain ⟨ps, cs, rfl, -, -⟩ := Frm.ownsRow_form h.sure
  obtain ⟨pw, cw, rfl, -, -⟩ := Frm.ownsRow_form h.turns
  have hFk : d.files.length ≤ 100000 := Nat.le_trans h.fit.f hk
  have hWk : d.waits.length ≤ 100000 := Nat.le_trans h.fit.w hk
  have HSB := Lib.hid (fun x hx => (h.fit.b x hx).2)
  have HWL := Lib.hid (fun x hx => Nat.le_trans (h.fit.p x hx) hk)
  have HX := Lib.hid (show bootR d turns keep = ({ d with files := bootL d keep d.files.length, now := goneR d.sure d.waits turns.toNat, sure := goneR d.sure d.waits turns.toNat, waits := [], down := false, fail := -1, crash := -1 }, 0) from by unfold bootR; rw [hd]; rfl)
  have HP := Lib.hid hp
  have HGL := Lib.hid hgl
  have HGA := Lib.hid hga
  have HGI := Lib.hid hgi
  have HR := Lib.hid hr
  have HNB := Lib.hid (bootN_le (d := d) (fun x hx => HWL.out x hx) keep)
  obtain ⟨pk, ck, rfl, hck, hck2⟩ := hr.form
  rw [List.length_map] at *
  obtain ⟨F, hF⟩ : ∃ n, n = d.files.length := ⟨_, rfl⟩
  rw [← hF] at c0 hFk
  have HF := Lib.hid hF
  have hkm : keep.length ≤ 9223372036854775807 := by unfold maxLen at hck2; omega
  have HC0 := Lib.hid c0
  have HC2 := Lib.hid c2
  have HC3 := Lib.hid c3
  clear h hp hgl hga hgi hr hd hF c0 c2 c3 hck hck2
  go_enter Tryz.func21, Tryz.ntmps21
  go_wp2_with fail
  go_loopw [7, 8, 9] (fun nx fx ix wr => ∃ j : Nat, ix = .int .i64 (j : Int) ∧ j ≤ F ∧ nx = .int .i64 (bootN' d keep j : Int) ∧ Hid (∃ p c, fx = .slice p j c ∧ wr.ownsRow w.heap.size 93 3 fx j ((bootL d keep j).flatMap filZ) ∧ Keeps w wr)) (fun _ _ ix _ => F - (RowKit.intOf ix).toNat)
  case atStart => exact ⟨0, rfl, Nat.zero_le _, rfl, Lib.hid ⟨none, 0, rfl, World.ownsRow_nil _ _ _ 3, Keeps.refl _⟩⟩
  case round =>
   obtain ⟨j, rfl, hj, rfl, HI⟩ := hrel
   obtain ⟨wo, rfl⟩ : ∃ z : World, z = wr := ⟨_, rfl⟩
   obtain ⟨pq, cq, rfl, hoq, hkq⟩ := HI.out
   have HOQ := Lib.hid hoq
   have HKQ := Lib.hid hkq
   clear HI hoq hkq
   have c0 := keep1 HKQ.out HC0.out
   by_cases hlt : j < F
   ·have hjl : j < d.files.length := by rw [← HF.out]; exact hlt
    have hlt' : (j : Int) < (F : Int) := by omega
    have HIr := Lib.hid (H.out.apart (T := fun _ => False) (Mods.of_keeps HKQ.out) (fun _ _ h => h))
    obtain ⟨bf, of, cf', hvf, hrg⟩ := HIr.out.file hjl
    rw [← HF.out] at hvf
    simp only [Value.slice.injEq] at hvf
    obtain ⟨rfl, -, rfl⟩ := hvf
    have hjw : j < fw.length := by rw [H.out.len]; exact hjl
    have hwt := HIr.out.waits j hjw hjl
    obtain ⟨pv, cv, hpv, -, -⟩ := Frm.ownsRow_form hwt
    rw [hpv] at hrg hwt
    have f0 := hrg 0 _ rfl
    have f1 := hrg 1 _ rfl
    have f2 := hrg 2 _ rfl
    rw [Nat.add_zero] at f0
    have hnb := HNB.out j (by omega)
    have hnb2 : bootN' d keep j ≤ 10000000000 := by
     have : j * 100000 ≤ 100000 * 100000 := Nat.mul_le_mul_right _ (by omega)
     omega
    have HST := Lib.hid (fun q s => boot_step (d := d) keep hjl (q := q) (s := s))
    have hsb := HSB.out _ (List.getElem_mem hjl)
    have hwl := HWL.out _ (List.getElem_mem hjl)
    have HPj := Lib.hid (HP.out j hjl)
    have HWT := Lib.hid hwt
    have HKNO := Lib.hid (fun wz (hz : Keeps w wz) => known_r (d := d) (w := wz) ⟨_, _, _, _, _, H.out.apart (T := fun _ => False) (Mods.of_keeps hz) (fun _ _ h => h)⟩ (by omega) j (by omega))
    obtain ⟨n0, hn0⟩ : ∃ z, z = bootN' d keep j := ⟨_, rfl⟩
    rw [← hn0] at HST hnb2 ⊢
    generalize d.files[j] = f at *
    obtain ⟨ws, hws⟩ : ∃ z, z = f.waits.length := ⟨_, rfl⟩
    rw [← hws] at f2 hwl
    have HWS := Lib.hid hws
    clear hrg hwt hpv hnb hws hn0
    go_upto_region 9 with fail
    generalize hW : World.alloc wo _ = wa
    have HKa := Lib.hid (show Keeps wo wa from by rw [← hW]; exact (Keeps.refl _).alloc _)
    have HA := Lib.hid (show Blk wa wo.heap.size 93 #[.string (bstr f.now), .string (bstr f.sure), .slice pv ws cv] from by rw [← hW]; exact Blk.new _ _ _ rfl)
    clear hW f0 f1 f2
    obtain ⟨A, hA⟩ : ∃ z, z = wo.heap.size := ⟨_, rfl⟩
    rw [← hA] at HA ⊢
    have HAA := Lib.hid hA
    clear hA
    have a1 : wa.cell? ⟨A, 1, none⟩ = some (.string (bstr f.sure)) := by rw [HA.out.cell]; rfl
    go_wp2_with fail
    clear a1
    go_loopw [7, 11, 12] (fun nx sx qx wq => ∃ q : Nat, qx = .int .i64 (q : Int) ∧ q ≤ ws ∧ nx = .int .i64 ((n0 + q : Nat) : Int) ∧ sx = .string (bstr (bootT keep f.waits n0 f.sure q)) ∧ Hid ((0 < q → knownR d j = true) ∧ Keeps wa wq)) (fun _ _ qx _ => ws - (RowKit.intOf qx).toNat)
    case atStart => exact ⟨0, rfl, Nat.zero_le _, by simp, rfl, Lib.hid ⟨fun h => absurd h (Nat.lt_irrefl _), Keeps.refl _⟩⟩
    case round =>
     obtain ⟨q, rfl, hq, rfl, rfl, HQ⟩ := hrel
     obtain ⟨wq, rfl⟩ : ∃ z : World, z = wr := ⟨_, rfl⟩
     have a2 : wq.cell? ⟨A, 2, none⟩ = some (.slice pv ws cv) := by rw [(HA.out.keeps HQ.out.2).cell]; rfl
     have HKW := Lib.hid ((HKQ.out.trans HKa.out).trans HQ.out.2)
     have HKC := Lib.hid (HKNO.out wq HKW.out)
     cases hkb : knownR d j with
     | false =>
      rw [hkb] at HKC
      obtain rfl : q = 0 := by
       rcases Nat.eq_zero_or_pos q with h | h
       ·exact h
       ·have := HQ.out.1 h
        rw [hkb] at this
        cases this
      have HSQ := Lib.hid (HST.out 0 _ (fun h => by rw [hkb] at h; cases h) (fun _ => rfl) rfl)
      have hwz := HKQ.out.size
      have hOZ := Frm.ownsRow_keeps HOQ.out (HKa.out.trans HQ.out.2)
      have HOZ := Lib.hid hOZ
      have hsz := HKW.out.size
      clear hOZ
      generalize bootT keep f.waits n0 f.sure 0 = s at *
      go_wp2_with (first
       | (refine HKC.out.mono ?_; rintro e wz ⟨rfl, rfl⟩)
       | (at_builtin; go_loud (refine wpList_apps (base := w.heap.size) filok (by decide) rfl _ _ rfl (.slice pq j cq) (.slice (some ⟨wq.heap.size, 0, none⟩) 1 1) j 1 ((bootL d keep j).flatMap filZ) [.string (bstr s), .string (bstr s), .slice none 0 0] rfl rfl (Frm.ownsRow_keeps HOZ.out ((Keeps.refl _).alloc _)) (Frm.rowS_lit rfl rfl rfl) (by simp [Value.oneCell']) (by omega) (by decide) (by rw [Frm.alloc_size]; omega) ?_; intro v4 w4 ho4 hg4 hf4; obtain ⟨p4, c4, rfl, -, -⟩ := Frm.ownsRow_form ho4)))
      have HO4 := Lib.hid (show w4.ownsRow w.heap.size 93 3 (.slice p4 (j + 1) c4) (j + 1) ((bootL d keep (j + 1)).flatMap filZ) from by
       rw [HSQ.out.2, List.flatMap_append]
       exact ho4)
      have HK4 := Lib.hid (show Keeps w w4 from (HKW.out.alloc _).grown hg4 (Frm.ownsRow_base HOZ.out))
      clear ho4 hg4 hf4
      go_roundw
      case rel => exact ⟨j + 1, by simp, by omega, by rw [HSQ.out.1]; rfl, Lib.hid ⟨p4, c4, rfl, HO4.out, HK4.out⟩⟩
      case measure =>
       simp only [RowKit.intOf]
       omega
     | true =>
      rw [hkb] at HKC
      by_cases hqs : q < ws
      ·have hqs' : (q : Int) < (ws : Int) := by omega
       have hqw : q < f.waits.length := by rw [← HWS.out]; exact hqs
       obtain ⟨bw, ow, cw', hvw, hrw⟩ := writeAt (Frm.ownsRow_keeps HWT.out (HKa.out.trans HQ.out.2)) hqw
       rw [← HWS.out] at hvw
       simp only [Value.slice.injEq] at hvw
       obtain ⟨rfl, -, rfl⟩ := hvw
       have p0 := hrw 0 _ rfl
       have p1 := hrw 1 _ rfl
       rw [Nat.add_zero] at p0
       have HTS := Lib.hid (bootT_succ (keep := keep) (n := n0) (s := f.sure) hqw)
       have hpl := HPj.out hkb _ (List.getElem_mem hqw)
       have hKI := kept_in keep (n0 + q) f.waits[q]
       have HTL := Lib.hid (bootT_len (keep := keep) (n := n0) hsb (HPj.out hkb) q)
       generalize f.waits[q] = p at *
       generalize bootT keep f.waits n0 f.sure q = s at *
       clear hrw
       go_wp2_with fail
       refine HKC.out.mono ?_
       rintro e wz ⟨rfl, rfl⟩
       go_upto_region 15 with fail
       generalize hW : World.alloc wq _ = wb
       have HKb := Lib.hid (show Keeps wq wb from by rw [← hW]; exact (Keeps.refl _).alloc _)
       have HB := Lib.hid (show Blk wb wq.heap.size 127 #[.int .i64 (p.place : Int), .string (bstr p.b)] from by rw [← hW]; exact Blk.new _ _ _ rfl)
       clear hW p0 p1 a2
       obtain ⟨B, hB⟩ : ∃ z, z = wq.heap.size := ⟨_, rfl⟩
       rw [← hB] at HB ⊢
       clear hB
       have HTQ := Lib.hid (show Keeps wa wb from HQ.out.2.trans HKb.out)
       have HRB := Lib.hid (HR.out.keeps (HKW.out.trans HKb.out))
       have HKE : Hid (keptR keep (n0 + q) p = min (max (keep.getD (n0 + q) 0) 0) (p.b.length : Int)) := Lib.hid rfl
       have HBS : Hid (bootS keep p (n0 + q) s = if keptR keep (n0 + q) p = 0 then s else overL s p.place (p.b.take (keptR keep (n0 + q) p).toNat)) := Lib.hid rfl
       have hwn : IntKind.i64.wrap ((n0 : Int) + (q : Int) + 1) = ((n0 + (q + 1) : Nat) : Int) := by rw [IntKind.wrap_i64]; omega
       have hq0 : (0 : Int) ≤ (n0 : Int) + (q : Int) := by omega
       have hqt : ((n0 : Int) + (q : Int)).toNat = n0 + q := by omega
       clear hkb HQ HKC HKb
       by_cases hn : n0 + q < keep.length
       ·have hn' : (n0 : Int) + (q : Int) < (keep.length : Int) := by omega
        obtain ⟨bk, ok, rfl, hka⟩ := rowAt HRB.out hn
        have hGD : keep.getD (n0 + q) 0 = keep[n0 + q] := by rw [List.getD_eq_getElem?_getD, List.getElem?_eq_getElem hn]; rfl
        have hidx : ok + (n0 + q) = ok + (n0 + q) := rfl
        have HGD := Lib.hid hGD
        clear hGD hidx
        generalize keep[n0 + q] = a at *
        by_cases ha : 0 < a
        ·obtain ⟨kk, hkk⟩ : ∃ kk : Nat, (kk : Int) = keptR keep (n0 + q) p := ⟨(keptR keep (n0 + q) p).toNat, by omega⟩
         have hKl : kk ≤ p.b.length := by omega
         have hcut := run_cut_str p.b kk hKl
         have HK := Lib.hid hkk
         have hb0 : wb.cell? ⟨B, 0, none⟩ = some (.int .i64 (p.place : Int)) := by rw [HB.out.cell]; rfl
         have hb1 : wb.cell? ⟨B, 1, none⟩ = some (.string (bstr p.b)) := by rw [HB.out.cell]; rfl
         have HV := Lib.hid (show (if ((bstr p.b).size : Int) < a then ((bstr p.b).size : Int) else a) = (kk : Int) from by
          rw [bstr_size, hkk, HKE.out, HGD.out]
          split <;> omega)
         have HBK := Lib.hid (show bootS keep p (n0 + q) s = if kk = 0 then s else overL s p.place (p.b.take kk) from by
          rw [HBS.out, ← HK.out]
          by_cases h0 : kk = 0
          ·rw [if_pos (by omega), if_pos h0]
          ·rw [if_neg (by omega), if_neg h0]
           rfl)
         clear hkk HBS HKE
         go_upto_region 16 with fail
         refine wp_region_noPanic ?_
         refine wp_region_held_drew (S := fun w' => Keeps (wb) w') (by kernel_rfl) ((Keeps.refl _).drew) (fun _ => ?_)
         have hHeld : Keeps (wb) (wb).drew := (Keeps.refl _).drew
         refine tq 0 68 ?_
         refine tq 1 69 ?_
         refine tq 2 70 ?_
         refine tq 3 71 ?_ (hy := fun w' hSw => by
          have hSw : Keeps _ w' := hSw
          have hx := keep1 hSw hka
          clear hSw
          go_simp
          try with_reducible rfl)
         refine tq 4 72 ?_
         refine tq 5 73 ?_ (hy := fun w' hSw => by
          have hSw : Keeps _ w' := hSw
          have hx := keep1 hSw hb1
          clear hSw
          go_simp
          try with_reducible rfl)
         refine tq 6 74 ?_
         refine tq 7 75 ?_
         refine tq 8 14 ?_
         refine wpAnyH_done (by kernel_rfl) ?_ _
         refine NoPanic.normal ?_
         rw [HV.out]
         have HK2 := Lib.hid (show Keeps wb wb.drew from (Keeps.refl wb).drew)
         have hc0 : wb.drew.cell? ⟨B, 0, none⟩ = some (.int .i64 (p.place : Int)) := keep1 HK2.out hb0
         have hc1 : wb.drew.cell? ⟨B, 1, none⟩ = some (.string (bstr p.b)) := keep1 HK2.out hb1
         generalize wb.drew = w2 at *
         by_cases h0 : kk = 0
         ·subst h0
          have HZ := Lib.hid (HBK.out.trans (if_pos rfl))
          clear HBK hc0 hc1 hcut HK
          go_wp2_with fail
          go_roundw
          case rel => exact ⟨q + 1, by simp, by omega, by simp <;> omega, by rw [HTS.out, HZ.out], Lib.hid ⟨fun _ => trivial, HTQ.out.trans HK2.out⟩⟩
          case measure =>
           simp only [RowKit.intOf]
           omega
         ·have HZ := Lib.hid (HBK.out.trans (if_neg h0))
          have h0' : (0 : Int) < (kk : Int) := by omega
          clear HBK
          go_upto_region 19 with fail
          refine wp_region_noPanic ?_
          refine wp_region_held_drew (S := fun w' => Keeps (w2) w') (by kernel_rfl) ((Keeps.refl _).drew) (fun _ => ?_)
          have hHeld : Keeps (w2) (w2).drew := (Keeps.refl _).drew
          refine tq 0 80 ?_
          refine tq 1 81 ?_
          refine tq 2 82 ?_ (hy := fun w' hSw => by
           have hSw : Keeps _ w' := hSw
           have hx := keep1 hSw hc0
           clear hSw
           go_simp
           try with_reducible rfl)
          refine tq 3 83 ?_
          refine tq 4 84 ?_ (hy := fun w' hSw => by
           have hSw : Keeps _ w' := hSw
           have hx := keep1 hSw hc1
           clear hSw
           go_simp
           try with_reducible rfl)
          refine tq 5 85 ?_
          refine tq 6 86 ?_ (hy := fun w' hSw => by
           have hSw : Keeps _ w' := hSw
           have hx := hcut w'
           clear hSw
           go_simp
           try with_reducible rfl)
          refine rd1 7 (fun K hK => ?_)
          go_simp
          refine (over_r _ s (p.b.take kk) p.place HTL.out (by rw [List.length_take]; omega) (by omega)).mono ?_
          rintro e w3 ⟨rfl, hk⟩
          have hb : Keeps _ w3 := hHeld.trans hk
          have HK3 := Lib.hid (show Keeps w2 w3 from hHeld.trans hk)
          go_wp2_with fail
          refine bk1 hK hb ?_
          clear hK K hHeld hb hk
          intro hHeld
          refine tq 8 11 ?_
          refine wpAnyH_done (by kernel_rfl) ?_ _
          refine NoPanic.normal ?_
          clear hHeld hc0 hc1 hcut
          go_wp2_with fail
          go_roundw
          case rel => exact ⟨q + 1, by simp, by omega, by simp <;> omega, by rw [HTS.out, HZ.out], Lib.hid ⟨fun _ => trivial, (HTQ.out.trans HK2.out).trans HK3.out⟩⟩
          case measure =>
           simp only [RowKit.intOf]
           omega
        ·have ha' : decide (0 < a) = false := by simp; omega
         have HZ := Lib.hid (show bootS keep p (n0 + q) s = s from by
          rw [HBS.out, if_pos]
          rw [HKE.out]
          rw [HGD.out]; omega)
         clear HBS HKE
         go_wp2_with fail
         go_roundw
         case rel => exact ⟨q + 1, by simp, by omega, by simp <;> omega, by rw [HTS.out, HZ.out], Lib.hid ⟨fun _ => trivial, HTQ.out⟩⟩
         case measure =>
          simp only [RowKit.intOf]
          omega
       ·have hn' : decide ((n0 : Int) + (q : Int) < (keep.length : Int)) = false := by simp; omega
        have HZ := Lib.hid (show bootS keep p (n0 + q) s = s from by
         rw [HBS.out, if_pos]
         rw [HKE.out]
         rw [List.getD_eq_getElem?_getD, List.getElem?_eq_none (by omega)]; show min (max (0 : Int) 0) (p.b.length : Int) = 0; omega)
        clear HBS HKE
        go_wp2_with fail
        go_roundw
        case rel => exact ⟨q + 1, by simp, by omega, by simp <;> omega, by rw [HTS.out, HZ.out], Lib.hid ⟨fun _ => trivial, HTQ.out⟩⟩
        case measure =>
         simp only [RowKit.intOf]
         omega
      ·obtain rfl : q = ws := by omega
       have hqs' : decide ((q : Int) < (q : Int)) = false := by simp
       have HSQ := Lib.hid (HST.out q _ (fun _ => HWS.out) (fun h => by rw [hkb] at h; cases h) rfl)
       have hwz := HKQ.out.size
       have hOZ := Frm.ownsRow_keeps HOQ.out (HKa.out.trans HQ.out.2)
       have HOZ := Lib.hid hOZ
       have hsz := HKW.out.size
       clear hOZ
       generalize bootT keep f.waits n0 f.sure q = s at *
       go_wp2_with (first
        | (refine HKC.out.mono ?_; rintro e wz ⟨rfl, rfl⟩)
        | (at_builtin; go_loud (refine wpList_apps (base := w.heap.size) filok (by decide) rfl _ _ rfl (.slice pq j cq) (.slice (some ⟨wq.heap.size, 0, none⟩) 1 1) j 1 ((bootL d keep j).flatMap filZ) [.string (bstr s), .string (bstr s), .slice none 0 0] rfl rfl (Frm.ownsRow_keeps HOZ.out ((Keeps.refl _).alloc _)) (Frm.rowS_lit rfl rfl rfl) (by simp [Value.oneCell']) (by omega) (by decide) (by rw [Frm.alloc_size]; omega) ?_; intro v4 w4 ho4 hg4 hf4; obtain ⟨p4, c4, rfl, -, -⟩ := Frm.ownsRow_form ho4)))
       have HO4 := Lib.hid (show w4.ownsRow w.heap.size 93 3 (.slice p4 (j + 1) c4) (j + 1) ((bootL d keep (j + 1)).flatMap filZ) from by
        rw [HSQ.out.2, List.flatMap_append]
        exact ho4)
       have HK4 := Lib.hid (show Keeps w w4 from (HKW.out.alloc _).grown hg4 (Frm.ownsRow_base HOZ.out))
       clear ho4 hg4 hf4
       go_roundw
       case rel => exact ⟨j + 1, by simp, by omega, by rw [HSQ.out.1]; simp, Lib.hid ⟨p4, c4, rfl, HO4.out, HK4.out⟩⟩
       case measure =>
        simp only [RowKit.intOf]
        omega
   ·obtain rfl : j = F := by omega
    have hlt' : decide ((j : Int) < (j : Int)) = false := by simp
    have c2 := keep1 HKQ.out HC2.out
    have HSU := Lib.hid (H.out.sure.mods (Mods.of_keeps (S := fun _ => False) HKQ.out) (fun _ _ h => h))
    clear HNB hlt hj
    go_wp2_with fail
    go_loopw [15, 16] (fun nx ix wq => ∃ (q : Nat) (p : Option Addr) (n c : Nat), ix = .int .i64 (q : Int) ∧ q ≤ d.waits.length ∧ nx = .slice p n c ∧ Hid ((q = 0 ∨ (q : Int) ≤ turns) ∧ n = (goneR d.sure d.waits q).length ∧ NmsOwn wq 0 (.slice p n c) (goneR d.sure d.waits q) ∧ (∀ y, (Value.slice p n c).ownBlock = some y → M y ∨ w.heap.size ≤ y) ∧ Keeps wo wq)) (fun _ ix _ => d.waits.length - (RowKit.intOf ix).toNat)
    case atStart => exact ⟨0, ps, _, cs, rfl, Nat.zero_le _, rfl, Lib.hid ⟨.inl rfl, rfl, HSU.out, fun y hy => .inl (H.out.ss y hy), Keeps.refl _⟩⟩
    case round =>
     obtain ⟨q, pn, nn, cn, rfl, hq, rfl, HQ⟩ := hrel
     obtain ⟨wq, rfl⟩ : ∃ z : World, z = wr := ⟨_, rfl⟩
     have HKW := Lib.hid (HKQ.out.trans HQ.out.2.2.2.2)
     have c3 := keep1 HKW.out HC3.out
     by_cases hqs : q < d.waits.length ∧ (q : Int) < turns
     ·obtain ⟨hqs, hqt⟩ := hqs
      have hqs' : (q : Int) < (d.waits.length : Int) := by omega
      obtain ⟨b, off, cap, hv, hrw⟩ := turnsAt (Frm.ownsRow_keeps H.out.turns HKW.out) hqs
      simp only [Value.slice.injEq] at hv
      obtain ⟨rfl, -, rfl⟩ := hv
      have HGS := Lib.hid (goneR_succ (sure := d.sure) hqs)
      have HDO := Lib.hid (do_r wq HQ.out.2.2.1 (HGA.out q) d.waits[q] (by have := HGL.out q; omega))
      have HRW := Lib.hid hrw
      generalize d.waits[q] = tt at *
      generalize hW : d.waits.length = wl at *
      have HWW := Lib.hid hW
      clear hrw hW
      unfold trA at HDO
      obtain ⟨fr, ds, fi⟩ := tt
      go_wp2_with (first
       | refine wpList_ldR rfl trM HRW.out _ rfl rfl ?_
       | (refine HDO.out.mono ?_; rintro e w5 ⟨v5, rfl, ho5, hb5, hk5⟩; obtain ⟨p5, c5, rfl, -, -⟩ := Frm.ownsRow_form ho5))
      have HG2 := Lib.hid (show w5.ownsRow 0 96 2 (.slice p5 (goneR d.sure d.waits (q + 1)).length c5) (goneR d.sure d.waits (q + 1)).length ((goneR d.sure d.waits (q + 1)).flatMap enC) from by rw [HGS.out]; exact ho5)
      have hsz := HKW.out.size
      have HBB := Lib.hid (show ∀ y, (Value.slice p5 (goneR d.sure d.waits (q + 1)).length c5).ownBlock = some y → M y ∨ w.heap.size ≤ y from fun y hy => by
       rcases hb5 y (by rw [← hy]; cases p5 <;> rfl) with h | h
       ·exact HQ.out.2.2.2.1 y h
       ·exact .inr (by omega))
      have HK5 := Lib.hid (HQ.out.2.2.2.2.trans hk5)
      have HLE := Lib.hid (congrArg List.length HGS.out)
      clear ho5 hb5 hk5
      go_roundw
      case rel =>
       refine ⟨q + 1, p5, (goneR d.sure d.waits (q + 1)).length, c5, by simp, by omega, ?_, Lib.hid ⟨.inr (by omega), rfl, HG2.out, HBB.out, HK5.out⟩⟩
       rw [HLE.out]
      case measure =>
       simp only [RowKit.intOf]
       omega
     ·have HGQ := Lib.hid (show goneR d.sure d.waits q = goneR d.sure d.waits turns.toNat from by
       have h0 := HQ.out.1
       by_cases hl : q < d.waits.length
       ·have : turns.toNat = q := by omega
        rw [this]
       ·obtain rfl : q = d.waits.length := by omega
        rcases h0 with h0 | h0
        ·rw [goneR_all (j := turns.toNat) (by omega)]
        ·rw [goneR_all (j := turns.toNat) (by omega)])
      have HBm := Lib.hid (H.out.blk.keeps HKW.out)
      have HEND := Lib.hid (show ∀ wF, Mods (· = m) w wF → Mods (· = m) wq wF → Blk wF m 59 (rdA { d with files := bootL d keep d.files.length, now := goneR d.sure d.waits turns.toNat, sure := goneR d.sure d.waits turns.toNat, waits := [], down := false, fail := -1, crash := -1 } (.slice pq j cq) (.slice pn nn cn) (.slice pn nn cn) (.slice none 0 0)) → RefAt wF (More M w wF) m { d with files := bootL d keep d.files.length, now := goneR d.sure d.waits turns.toNat, sure := goneR d.sure d.waits turns.toNat, waits := [], down := false, fail := -1, crash := -1 } k ∧ Mods (· = m) w wF from by
       intro wF hM hM2 hB
       obtain ⟨-, hnn, hnow, hpb, hkq⟩ := HQ.out
       rw [HGQ.out] at hnow hnn
       have hnm : (Value.slice pn nn cn).ownBlock ≠ some m := Frm.ownsRow_ne hnow HBm.out (by decide)
       have hnF := hnow.mods hM2 (fun y hy e => hnm (by rw [hy, e]))
       have hoq := Frm.ownsRow_keeps HOQ.out hkq
       have hom := Frm.ownsRow_ne hoq HBm.out (by decide)
       have hoF := Frm.ownsRow_mods hoq hM2 (fun y hy e => hom (by rw [hy, e]))
       have hsz := hM.size
       have hlen := bootL_len d keep d.files.length
       have hfit := H.out.fit
       refine ⟨⟨.slice pq j cq, .slice pn nn cn, .slice pn nn cn, .slice none 0 0, List.replicate (bootL d keep d.files.length).length (.slice none 0 0), ?_⟩, hM⟩
       have hbn : ∀ y, (Value.slice pn nn cn).ownBlock = some y → More M w wF y := fun y hy => by
        rcases hpb y hy with h | h
        ·exact .inl h
        ·exact .inr ⟨h, (owns_ty hnF hy).lt⟩
       exact
        {blk := hB
         files := by
          show wF.ownsRow 0 93 3 (.slice pq j cq) (bootL d keep d.files.length).length _
          rw [filZ_zip, hlen, ← HF.out]
          exact ownsRow_low hoF (Nat.zero_le _)
         len := by simp
         waits := fun i h1 h2 => by
          have hw := (bootL_ok HSB.out HP.out keep d.files.length (Nat.le_refl _) _ (List.getElem_mem h2)).1
          show wF.ownsRow 0 _ 2 _ (bootL d keep d.files.length)[i].waits.length _
          rw [hw, List.getElem_replicate]
          exact World.ownsRow_nil _ _ _ 2
         now := hnF
         sure := hnF
         turns := World.ownsRow_nil _ _ _ 3
         sm := .inl H.out.sm
         sf := fun y hy => .inr ⟨Frm.ownsRow_base hoF y hy, (owns_ty hoF hy).lt⟩
         sn := hbn, ss := hbn
         st := fun y hy => by simp [Value.ownBlock] at hy
         sw := fun v hv y hy => by
          rw [(List.mem_replicate.1 hv).2] at hy
          simp [Value.ownBlock] at hy
         fit :=
          {f := by show (bootL d keep d.files.length).length ≤ k; rw [hlen]; exact hfit.f
           n := HGL.out _, s := HGL.out _, w := Nat.zero_le _
           p := fun x hx => by rw [(bootL_ok HSB.out HP.out keep d.files.length (Nat.le_refl _) x hx).1]; exact Nat.zero_le _
           b := fun x hx => (bootL_ok HSB.out HP.out keep d.files.length (Nat.le_refl _) x hx).2
           c0 := hfit.c0, c1 := hfit.c1
           t1 := neg1_in, t2 := neg1_in
           an := HGA.out _, au := HGA.out _
           is := fun p hp => by show p.2 < (bootL d keep d.files.length).length; rw [hlen]; exact HGI.out p hp
           cap := hfit.cap } })
      have z0 : wq.frozen? ⟨m, 0, none⟩ = false := HBm.out.frozen _
      have z1 : wq.frozen? ⟨m, 1, none⟩ = false := HBm.out.frozen _
      have z2 : wq.frozen? ⟨m, 2, none⟩ = false := HBm.out.frozen _
      have z3 : wq.frozen? ⟨m, 3, none⟩ = false := HBm.out.frozen _
      have z5 : wq.frozen? ⟨m, 5, none⟩ = false := HBm.out.frozen _
      have z7 : wq.frozen? ⟨m, 7, none⟩ = false := HBm.out.frozen _
      have z8 : wq.frozen? ⟨m, 8, none⟩ = false := HBm.out.frozen _
      obtain ⟨y0, y1, y2, y3, -, y5, -, y7, y8, -⟩ := (H.out.apart (T := fun _ => False) (Mods.of_keeps HKW.out) (fun _ _ h => h)).cells
      rw [← HF.out] at y0
      generalize hW : d.waits.length = wl at *
      by_cases hl : q < wl
      ·have hl' : (q : Int) < (wl : Int) := by omega
       have ht' : decide ((q : Int) < turns) = false := by simp; omega
       go_wp2_with fail
       go_ret
       rw [HX.out]
       have hM := (((((((Mods.of_keeps (S := (· = m)) HKW.out).setCell (p := ⟨m, 0, none⟩) (fun _ => rfl) (.slice pq j cq)).setCell (p := ⟨m, 1, none⟩) (fun _ => rfl) (.slice pn nn cn)).setCell (p := ⟨m, 2, none⟩) (fun _ => rfl) (.slice pn nn cn)).setCell (p := ⟨m, 3, none⟩) (fun _ => rfl) (.slice none 0 0)).setCell (p := ⟨m, 5, none⟩) (fun _ => rfl) (.bool false)).setCell (p := ⟨m, 7, none⟩) (fun _ => rfl) (.int .i64 (-1))).setCell (p := ⟨m, 8, none⟩) (fun _ => rfl) (.int .i64 (-1))
       have hM2 := (((((((Mods.refl (· = m) wq).setCell (p := ⟨m, 0, none⟩) (fun _ => rfl) (.slice pq j cq)).setCell (p := ⟨m, 1, none⟩) (fun _ => rfl) (.slice pn nn cn)).setCell (p := ⟨m, 2, none⟩) (fun _ => rfl) (.slice pn nn cn)).setCell (p := ⟨m, 3, none⟩) (fun _ => rfl) (.slice none 0 0)).setCell (p := ⟨m, 5, none⟩) (fun _ => rfl) (.bool false)).setCell (p := ⟨m, 7, none⟩) (fun _ => rfl) (.int .i64 (-1))).setCell (p := ⟨m, 8, none⟩) (fun _ => rfl) (.int .i64 (-1))
       have hB := ((((((HBm.out.set_ 0 (.slice pq j cq)).set_ 1 (.slice pn nn cn)).set_ 2 (.slice pn nn cn)).set_ 3 (.slice none 0 0)).set_ 5 (.bool false)).set_ 7 (.int .i64 (-1))).set_ 8 (.int .i64 (-1))
       exact ⟨rfl, HEND.out _ hM hM2 hB⟩
      ·have hl' : decide ((q : Int) < (wl : Int)) = false := by simp; omega
       go_wp2_with fail
       go_ret
       rw [HX.out]
       have hM := (((((((Mods.of_keeps (S := (· = m)) HKW.out).setCell (p := ⟨m, 0, none⟩) (fun _ => rfl) (.slice pq j cq)).setCell (p := ⟨m, 1, none⟩) (fun _ => rfl) (.slice pn nn cn)).setCell (p := ⟨m, 2, none⟩) (fun _ => rfl) (.slice pn nn cn)).setCell (p := ⟨m, 3, none⟩) (fun _ => rfl) (.slice none 0 0)).setCell (p := ⟨m, 5, none⟩) (fun _ => rfl) (.bool false)).setCell (p := ⟨m, 7, none⟩) (fun _ => rfl) (.int .i64 (-1))).setCell (p := ⟨m, 8, none⟩) (fun _ => rfl) (.int .i64 (-1))
       have hM2 := (((((((Mods.refl (· = m) wq).setCell (p := ⟨m, 0, none⟩) (fun _ => rfl) (.slice pq j cq)).setCell (p := ⟨m, 1, none⟩) (fun _ => rfl) (.slice pn nn cn)).setCell (p := ⟨m, 2, none⟩) (fun _ => rfl) (.slice pn nn cn)).setCell (p := ⟨m, 3, none⟩) (fun _ => rfl) (.slice none 0 0)).setCell (p := ⟨m, 5, none⟩) (fun _ => rfl) (.bool false)).setCell (p := ⟨m, 7, none⟩) (fun _ => rfl) (.int .i64 (-1))).setCell (p := ⟨m, 8, none⟩) (fun _ => rfl) (.int .i64 (-1))
       have hB := ((((((HBm.out.set_ 0 (.slice pq j cq)).set_ 1 (.slice pn nn cn)).set_ 2 (.slice pn nn cn)).set_ 3 (.slice none 0 0)).set_ 5 (.bool false)).set_ 7 (.int .i64 (-1))).set_ 8 (.int .i64 (-1))
       exact ⟨rfl, HEND.out _ hM hM2 hB⟩
end
end Rf
end Go.Proofs.YtchjncnolmiejaaGreat

/- The document's disk: how many writes wait. -/
namespace Go.Proofs.YtchjncnolmiejaaGreat
open Go.RowKit
namespace Rf
open Vd
def wrTo (d : RDsk) (j : Nat) : Nat := (((List.range j).filter (knownR d)).map fun i => (filAt d i).waits.length).sum
section
variable {w : World} {M : Nat → Prop} {m : Nat} {d : RDsk} {k : Nat}
end
end Rf
end Go.Proofs.YtchjncnolmiejaaGreat

/- The acts of txlog's law: how they lie in memory; few. -/
namespace Go.Proofs.YtchjncnolmiejaaGreat
open Go.RowKit
namespace Txl
open Vd Frm
structure ActT where
 kind : Int
 iv : Value
 items : List (Value × List UInt8)
 n : Int
 code : Int
 kv : Value
 keep : List Int
def tpC (x : ActT) : List Value := [.int .i64 x.kind, x.iv, .int .i64 x.n, .int .i64 x.code, x.kv]
theorem tpC_len (x : ActT) : (tpC x).length = 5 := rfl
structure TpOk (w : World) (x : ActT) : Prop where
 its : Row w x.iv (x.items.map (·.1))
 pay : ∀ y ∈ x.items, payOk w y
 n : (Lit.int .i64 x.n).wf = true
 row : Row w x.kv (x.keep.map (Value.int .i64))
theorem TpOk.keeps {w w' : World} {x : ActT} (h : TpOk w x) (k : Keeps w w') : TpOk w' x := ⟨h.its.keeps k, fun y hy => (h.pay y hy).keeps k, h.n, h.row.keeps k⟩
theorem cActT : Tryz.prog.cellsOf 47 = 5 := by kernel_rfl
theorem cTrT : Tryz.prog.cellsOf 44 = 1 := by kernel_rfl
theorem opens_actT {H : Type} {enc : TypeId × Value → H} {w : World} {base : Nat} {sp : Nat → Bool} {held : Bool} : Opens enc Tryz.prog w base sp held 47 tpC (TpOk w) := by
 have hk := opens_slice (enc := enc) (w := w) (base := base) (sp := sp) (held := held) Tryz.underlying45 cI (by decide) (fun _ => rfl) (opens_int (enc := enc) (P := Tryz.prog) (w := w) (base := base) (sp := sp) (held := held) Tryz.underlying3)
 have hi := opens_slice (enc := enc) (w := w) (base := base) (sp := sp) (held := held) Tryz.underlying44 c22 (by decide) payC_len opens_pay
 have h := opens_struct (enc := enc) (w := w) (base := base) (sp := sp) (held := held) Tryz.underlying47 cActT
  (opensF_cons rfl cI (opens_int Tryz.underlying3) (opensF_cons rfl cTrT hi
   (opensF_cons rfl cI (opens_int Tryz.underlying3) (opensF_cons rfl cErrno (opens_int Tryz.underlying38) (opensF_cons rfl cInts hk opensF_nil)))))
 refine opens_map h (fun x => ⟨x.1, x.2.1.1, x.2.1.2, x.2.2.1, x.2.2.2.1, x.2.2.2.2.1.1, x.2.2.2.2.1.2⟩) ?_ ?_
 ·rintro ⟨a, ⟨b, bs⟩, c, d, ⟨f, ks⟩, _⟩ _
  rfl
 ·rintro ⟨a, ⟨b, bs⟩, c, d, ⟨f, ks⟩, _⟩ ⟨h1, ⟨h2, h3⟩, h4, h5, ⟨h6, h7⟩, _⟩
  refine ⟨?_, h3, h4, ?_⟩
  ·have := h2.row
   rw [pay_map] at this
   exact this
  ·have := h6.row
   rw [ints_map] at this
   exact this
theorem tp_at {l : List ActT} {i : Nat} (h : i < l.length) {j : Nat} (hj : j < 5) : (l.flatMap tpC)[i * 5 + j]? = (tpC l[i])[j]? := flat_get tpC_len l i j _ (List.getElem?_eq_getElem h) hj
def FewT (w : World) (l : List ActT) (e : Ending) (w' : World) : Prop := ∃ b, e = .returned (.bool b) ∧ (b = true → l.length ≤ 40) ∧ w = w'
theorem fewT_no {w : World} {l : List ActT} : FewT w l (.returned (.bool false)) w := ⟨false, rfl, fun h => (by cases h), rfl⟩
theorem fewT_yes {w : World} {l : List ActT} (h : l.length ≤ 40) : FewT w l (.returned (.bool true)) w := ⟨true, rfl, fun _ => h, rfl⟩
set_option maxRecDepth 100000 in
set_option maxHeartbeats 2000000 in
theorem few17_any (v : Value) (l : List ActT) (w : World) (hr : RowS w 5 v l.length (l.flatMap tpC)) (hok : ∀ x ∈ l, TpOk w x) : Calls Tryz.prog 6 #[v] w (FewT w l) := by
 have HOK := Lib.hid hok
 obtain ⟨p, cap, rfl, -, -⟩ := hr.form
 have HR := Lib.hid hr
 clear hr hok
 by_cases h40 : 40 < l.length
 ·go_enter Tryz.func6, Tryz.ntmps6
  go_wp2_with fail
  go_ret
  exact fewT_no
 ·have HL := Lib.hid (show l.length ≤ 40 from by omega)
  go_enter Tryz.func6, Tryz.ntmps6
  go_wp2_with fail
  go_loopw [3] (fun i wr => ∃ j : Nat, i = .int .i64 (j : Int) ∧ j ≤ l.length ∧ w = wr) (fun i _ => l.length - (intOf i).toNat)
  case atStart => exact ⟨0, rfl, Nat.zero_le _, rfl⟩
  case round =>
   obtain ⟨j, rfl, hj, hw⟩ := hrel
   subst hw
   by_cases hlt : j < l.length
   ·obtain ⟨b, off, cap, hv, -, -, HC⟩ := HR.out.at_ (by omega)
    simp only [Value.slice.injEq] at hv
    obtain ⟨rfl, -, rfl⟩ := hv
    have hlt' : (j : Int) < (l.length : Int) := by omega
    have hok := HOK.out _ (List.getElem_mem hlt)
    have h1 : w.cell? ⟨b, off + j * 5 + 1, none⟩ = some l[j].iv := by
     rw [Nat.add_assoc]
     exact HC.out (j * 5 + 1) _ (by rw [tp_at hlt (by decide)]; rfl)
    have h4 : w.cell? ⟨b, off + j * 5 + 4, none⟩ = some l[j].kv := by
     rw [Nat.add_assoc]
     exact HC.out (j * 5 + 4) _ (by rw [tp_at hlt (by decide)]; rfl)
    obtain ⟨pi, ci, hiv, -, -⟩ := hok.its.form
    obtain ⟨pk, ck, hkv, -, -⟩ := hok.row.form
    rw [List.length_map] at hiv hkv
    have HBK := Lib.hid (bulkD_any 300 (by decide) l[j].iv l[j].items w hok.its hok.pay)
    unfold BulkD at HBK
    rw [hiv] at h1 HBK
    rw [hkv] at h4
    generalize l[j] = x at *
    clear hok hiv hkv
    by_cases ha : 10 < x.items.length
    ·go_wp2_with fail
     go_ret
     exact fewT_no
    ·have ha' : decide ((10 : Int) < (x.items.length : Int)) = false := by simp; omega
     by_cases hb : 60 < x.keep.length
     ·have hb' : (60 : Int) < (x.keep.length : Int) := by omega
      go_wp2_with fail
      refine HBK.out.mono ?_
      rintro e w2 ⟨q, rfl, hq, -, rfl⟩
      by_cases hq3 : 300 < q
      ·have hq4 : (300 : Int) < (q : Int) := by omega
       go_wp2_with fail
       go_ret
       exact fewT_no
      ·have hq4 : decide ((300 : Int) < (q : Int)) = false := by simp; omega
       go_wp2_with fail
       go_ret
       exact fewT_no
     ·have hb' : decide ((60 : Int) < (x.keep.length : Int)) = false := by simp; omega
      go_wp2_with fail
      refine HBK.out.mono ?_
      rintro e w2 ⟨q, rfl, hq, -, rfl⟩
      by_cases hq3 : 300 < q
      ·have hq4 : (300 : Int) < (q : Int) := by omega
       go_wp2_with fail
       go_ret
       exact fewT_no
      ·have hq4 : decide ((300 : Int) < (q : Int)) = false := by simp; omega
       go_wp2_with fail
       go_roundw
       case rel => exact ⟨j + 1, by simp, by omega, trivial⟩
       case measure =>
        simp only [intOf]
        omega
   ·have hlt' : decide ((j : Int) < (l.length : Int)) = false := by simp; omega
    go_wp2_with fail
    go_ret
    exact fewT_yes HL.out
end Txl
end Go.Proofs.YtchjncnolmiejaaGreat

/- The document's transactions of a file's bytes: pigeonholeref17.Replay. -/
import Derived.Test.YtchjncnolmiejaaGreatK20
import Derived.Test.YtchjncnolmiejaaGreatTxRefBytes
import Derived.Test.YtchjncnolmiejaaGreatFrameRefAt
import Derived.Test.YtchjncnolmiejaaGreatDrawn
namespace Go.Proofs.YtchjncnolmiejaaGreat
open Go.RowKit
namespace Txl
open Oct Frm
theorem rowN_more (l : List UInt8) : ∀ (k k' u : Nat), l.length ≤ u + k → l.length ≤ u + k' → rowN l k u = rowN l k' u
 | 0, k', u, h, _ => by rw [rowN_end (by omega), rowN_end (by omega)]
 | k + 1, k', u, h, h' => by
  by_cases hu : u < l.length
  ·obtain ⟨k2, rfl⟩ : ∃ k2, k' = k2 + 1 := ⟨k' - 1, by omega⟩
   by_cases he : atE l u = 0
   ·obtain ⟨h1, h2, h3⟩ := atE_len he
    rw [rowN_ok hu he, rowN_ok hu he, rowN_more l k k2 (u + (atF l u).len.toNat) (by omega) (by omega)]
   ·rw [rowN_err hu he, rowN_err hu he]
  ·rw [rowN_end hu, rowN_end hu]
/-- the frames from a place on -/
def rowsAt (l : List UInt8) (u : Nat) : List Fr1 := (rowN l l.length u).1
theorem rowsAt_err {l : List UInt8} {u : Nat} (h : atE l u ≠ 0) : rowsAt l u = [] := by
 unfold rowsAt
 by_cases hu : u < l.length
 ·obtain ⟨k, hk⟩ : ∃ k, l.length = k + 1 := ⟨l.length - 1, by omega⟩
  rw [hk, rowN_err hu h]
 ·rw [rowN_end hu]
theorem rowsAt_ok {l : List UInt8} {u m : Nat} (h : atE l u = 0) (hm : (atF l u).len = (m : Int)) : rowsAt l u = atF l u :: rowsAt l (u + m) ∧ u + m ≤ l.length := by
 obtain ⟨h1, h2, h3⟩ := atE_len h
 have hu : u < l.length := by omega
 have hm2 : (atF l u).len.toNat = m := by omega
 refine ⟨?_, by omega⟩
 unfold rowsAt
 obtain ⟨k, hk⟩ : ∃ k, l.length = k + 1 := ⟨l.length - 1, by omega⟩
 rw [show rowN l l.length u = rowN l (k + 1) u from by rw [hk], rowN_ok hu h, hm2, rowN_more l k l.length (u + m) (by omega) (by omega)]
theorem rowR_at (l : List UInt8) : (rowR l).1 = rowsAt l 0 := rfl
theorem TxsAt.blk {w w' : World} {base R : Nat} {v : Value} {X : List TxX} (h : TxsAt w base v X) {t : TypeId} {cs : Array Value} (hB : Blk w R t cs) (h1 : 106 ≠ t) (h2 : 22 ≠ t) (h3 : 5 ≠ t) (hm : Mods (· = R) w w') : TxsAt w' base v X := by
 have hn : ∀ e, e ≠ t → ∀ x, x = R → ∀ cs' fr, w.heap[x]? ≠ some (.cells cs' e fr) := fun e he x hx cs' fr hc => by
  subst hx
  unfold Blk at hB
  rw [hB] at hc
  simp only [Option.some.injEq, Obj.cells.injEq] at hc
  exact he hc.2.1.symm
 exact ⟨Frm.ownsRow_mods h.own hm (fun y hy e => ownsRow_ne h.own hB h1 (by rw [hy, e])), fun x hx => own_modsT (h.its x hx) hm (hn _ h2), fun x hx y hy => (h.pay x hx y hy).modsT hm (hn _ h3)⟩
theorem numP_be {p : List UInt8} {n : Nat} (hn : n < 18446744073709551616) (h : 8 ≤ p.length) : numP p = n ↔ p.take 8 = be 8 n := by
 unfold numP
 rw [if_pos h]
 have hl : (p.take 8).length = 8 := by rw [List.length_take]; omega
 constructor
 ·intro e
  have := be_valOf (p.take 8)
  rw [hl, e] at this
  exact this.symm
 ·intro e
  rw [e, valOf_be]
  exact Nat.mod_eq_of_lt (by simpa using hn)
theorem cntP_get {p : List UInt8} (h : p.length = 10) : getV p 8 2 = cntP p := by
 unfold getV cntP
 rw [if_pos (by simp [getB, okk]; omega), if_pos (by omega)]
 rfl
def RRepDid (W : World) (r : List (Nat × List Item) × Int) (e : Ending) (w' : World) : Prop := ∃ v X, e = .returned (.agg #[v, .int .i64 r.2]) ∧ TxsAt w' W.heap.size v X ∧ X.map txP = r.1 ∧ Keeps W w'
theorem oneK_kind {n : Nat} {f : Fr1} {r : List Fr1} (h : beginB n f = false) : oneK n (f :: r) = none := by rw [oneK_cons, if_neg (by rw [h]; simp)]
theorem oneK_short {n : Nat} {f : Fr1} {r : List Fr1} (h : r.length ≤ cntP f.pay) : oneK n (f :: r) = none := by rw [oneK_cons, if_neg (fun hh => by have := hh.2.1; omega)]
theorem oneK_item {n : Nat} {f : Fr1} {r : List Fr1} {i : Nat} (hi : i < cntP f.pay) (hr : i < r.length) (h : itemB r[i] = false) : oneK n (f :: r) = none := by
 rw [oneK_cons, if_neg (fun hh => ?_)]
 have := List.all_eq_true.1 hh.2.2.2 r[i] (by rw [List.mem_take_iff_getElem]; exact ⟨i, by omega, rfl⟩)
 rw [h] at this
 cases this
theorem oneK_end {n : Nat} {f : Fr1} {r : List Fr1} (hr : cntP f.pay < r.length) (h : commitB n r[cntP f.pay] = false) : oneK n (f :: r) = none := by
 rw [oneK_cons, if_neg (fun hh => ?_)]
 have h2 := hh.2.2.1
 rw [List.getD_eq_getElem?_getD, List.getElem?_eq_getElem hr] at h2
 rw [show (some r[cntP f.pay]).getD ⟨0, 0, 0, []⟩ = r[cntP f.pay] from rfl, h] at h2
 cases h2
theorem oneK_all {n : Nat} {f : Fr1} {done : List Fr1} {g : Fr1} {r : List Fr1} (hb : beginB n f = true) (hd : done.length = cntP f.pay) (hg : commitB n g = true) (hi : ∀ x ∈ done, itemB x = true) : oneK n (f :: (done ++ g :: r)) = some done.length := by
 rw [oneK_cons, if_pos, hd]
 refine ⟨hb, by rw [List.length_append, List.length_cons]; omega, ?_, ?_⟩
 ·rw [List.getD_eq_getElem?_getD, ← hd, List.getElem?_append_right (Nat.le_refl _), Nat.sub_self]
  exact hg
 ·rw [← hd, List.take_append_of_le_length (Nat.le_refl _), List.take_of_length_le (Nat.le_refl _)]
  exact List.all_eq_true.2 hi
theorem replay_step {k n : Nat} {f g : Fr1} {done rest : List Fr1} (h : oneK n (f :: (done ++ g :: rest)) = some done.length) : replayN (k + 1) n (f :: (done ++ g :: rest)) = ((n, done.map (·.pay)) :: (replayN k (n + 1) rest).1, f.len + lenS done + g.len + (replayN k (n + 1) rest).2) := by
 rw [replayN_some h]
 have h1 : ((f :: (done ++ g :: rest)).drop 1).take done.length = done := by
  show (done ++ g :: rest).take done.length = done
  rw [List.take_append_of_le_length (Nat.le_refl _), List.take_of_length_le (Nat.le_refl _)]
 have h2 : (f :: (done ++ g :: rest)).drop (done.length + 2) = rest := by
  show (done ++ g :: rest).drop (done.length + 1) = rest
  rw [List.drop_append]
  simp
 have h3 : (f :: (done ++ g :: rest)).take (done.length + 2) = f :: (done ++ [g]) := by
  show f :: (done ++ g :: rest).take (done.length + 1) = _
  rw [List.take_append, List.take_of_length_le (by omega), show done.length + 1 - done.length = 1 from by omega]
  rfl
 rw [h1, h2, h3, lenS_cons, lenS_append, lenS_cons, lenS_nil]
 refine Prod.ext rfl ?_
 simp only
 omega
set_option maxRecDepth 100000 in
set_option maxHeartbeats 8000000 in
theorem rreplay_any (v : Value) (l : List UInt8) (w : World) (hr : Row w v (l.map u8v)) (hl : l.length ≤ 549755813887) : Calls Tryz.prog 44 #[v] w (RRepDid w (replayF (rowR l).1)) := by
 obtain ⟨p, cap, rfl, hc1, hc2⟩ := hr.formB
 have HRO := Lib.hid hr
 obtain ⟨N, hN⟩ : ∃ N, N = (rowsAt l 0).length := ⟨_, rfl⟩
 have hNl : N ≤ l.length := by have := (rowR_all l).2.2; rw [rowR_at] at this; omega
 have HR0 := Lib.hid (show replayF (rowR l).1 = replayN N 1 (rowsAt l 0) from by rw [rowR_at, hN]; rfl)
 have HN0 := Lib.hid (show (rowsAt l 0).length ≤ N from by omega)
 clear hr hN
 go_enter Tryz.func44, Tryz.ntmps44
 go_wp2_with fail
 generalize hwe : World.alloc (World.alloc w _) _ = we
 have HRe := Lib.hid (show Blk we w.heap.size 103 #[.slice none 0 0, .int .i64 0] from by rw [← hwe]; exact (Blk.new w _ _ rfl).alloc _)
 have HBe := Lib.hid (show Blk we (w.heap.size + 1) 103 #[.slice none 0 0, .int .i64 0] from by rw [← hwe]; exact Blk.new _ _ _ (alloc_size w _).symm)
 have HKe := Lib.hid (show Keeps w we from by rw [← hwe]; exact ((Keeps.refl _).alloc _).alloc _)
 clear hwe
 obtain ⟨R, hR⟩ : ∃ R, R = w.heap.size := ⟨_, rfl⟩
 obtain ⟨B, hB⟩ : ∃ B, B = w.heap.size + 1 := ⟨_, rfl⟩
 rw [← hB] at HBe ⊢
 rw [← hR] at HRe ⊢
 have HRW := Lib.hid (show w.heap.size ≤ R ∧ w.heap.size ≤ B ∧ R ≠ B from by omega)
 clear hR hB
 go_loopg [] N (fun gk wr => ∃ (X : List TxX) (px : Option Addr) (cx u : Nat), Hid (Blk wr B 103 #[.slice px X.length cx, .int .i64 (u : Int)]) ∧ Hid (TxsAt wr w.heap.size (.slice px X.length cx) X) ∧ Hid (Blk wr R 103 #[.slice none 0 0, .int .i64 0]) ∧ Hid (Keeps w wr) ∧ u ≤ l.length ∧ X.length + gk ≤ N ∧ Hid ((rowsAt l u).length ≤ gk ∧ replayF (rowR l).1 = (X.map txP ++ (replayN gk (X.length + 1) (rowsAt l u)).1, (u : Int) + (replayN gk (X.length + 1) (rowsAt l u)).2)))
 case atStart => exact ⟨[], none, 0, 0, HBe, Lib.hid (TxsAt.nil _ _), HRe, HKe, Nat.zero_le _, by simp, Lib.hid ⟨HN0.out, by rw [HR0.out]; simp⟩⟩
 case round =>
  clear HBe HRe HKe HR0 HN0
  obtain ⟨X, px, cx, u, HB, HT, HRb, HK, hu, hX, HI⟩ := hrel
  obtain ⟨wo, rfl⟩ : ∃ z : World, z = wr := ⟨_, rfl⟩
  have HNO := Lib.hid (fun (h : oneK (X.length + 1) (rowsAt l u) = none) => show replayF (rowR l).1 = (X.map txP, (u : Int)) from by rw [HI.out.2, replayN_none h]; simp)
  have HA := Lib.hid (rAt_any (.slice p l.length cap) l (u : Int) wo (HRO.out.keeps HK.out) (by omega))
  have b0 : wo.cell? ⟨B, 0, none⟩ = some (.slice px X.length cx) := by rw [HB.out.cell]; rfl
  have b1 : wo.cell? ⟨B, 1, none⟩ = some (.int .i64 (u : Int)) := by rw [HB.out.cell]; rfl
  unfold AtDid frV at HA
  by_cases he : atE l u = 0
  ·have HAE := Lib.hid he
   rw [he] at HA
   obtain ⟨m, hm⟩ : ∃ m : Nat, (atF l u).len = (m : Int) := Int.eq_ofNat_of_zero_le (atE_len he).2.2
   obtain ⟨ho1, ho2⟩ := rowsAt_ok he hm
   have HROW := Lib.hid ho1
   have HPL := Lib.hid (atE_pay he)
   clear he ho1
   generalize atF l u = f at *
   obtain ⟨fa, fl, fk, fp⟩ := f
   have hm : fl = (m : Int) := hm
   subst hm
   simp only at HA HPL
   go_wp2_with fail
   refine HA.out.mono ?_
   rintro e w2 ⟨pv, rfl, hp, hk2⟩
   obtain ⟨pp, pc, hpv, -, -⟩ := hp.form
   rw [List.length_map] at hpv
   subst hpv
   have HP2 := Lib.hid (hp.lower HK.out.size)
   have HK2 := Lib.hid hk2
   clear hp hk2 HA
   go_upto_region 6 with fail
   generalize hW : World.alloc w2 _ = w3
   have hk3 : Keeps w2 w3 := by rw [← hW]; exact (Keeps.refl _).alloc _
   have HF3 := Lib.hid (show Blk w3 w2.heap.size 147 #[.int .i64 fa, .int .i64 (m : Int), .int .i64 fk, .slice pp fp.length pc] from by rw [← hW]; exact Blk.new _ _ _ rfl)
   have HKr := Lib.hid (HK2.out.trans hk3)
   have HK3 := Lib.hid (HK.out.trans HKr.out)
   have HB3 := Lib.hid (HB.out.keeps HKr.out)
   have HR3 := Lib.hid (HRb.out.keeps HKr.out)
   have HT3 := Lib.hid (HT.out.keeps HKr.out)
   have HP3 := Lib.hid (HP2.out.keeps hk3)
   have HFB := Lib.hid (show w.heap.size ≤ w2.heap.size ∧ B < w2.heap.size ∧ R < w2.heap.size ∧ wo.heap.size ≤ w2.heap.size from ⟨(HK.out.trans HK2.out).size, (HB.out.keeps HK2.out).lt, (HRb.out.keeps HK2.out).lt, HK2.out.size⟩)
   clear hW hk3 b0 b1
   obtain ⟨F, hF⟩ : ∃ F, F = w2.heap.size := ⟨_, rfl⟩
   rw [← hF] at HF3 HFB ⊢
   clear hF HK2 HP2
   have f2 : w3.cell? ⟨F, 2, none⟩ = some (.int .i64 fk) := by rw [HF3.out.cell]; rfl
   have f3 : w3.cell? ⟨F, 3, none⟩ = some (.slice pp fp.length pc) := by rw [HF3.out.cell]; rfl
   by_cases hk : fk = 32
   ·have e1 : (fk != 32) = false := by simp [hk]
    have e1' : (fk == 32) = true := by simp [hk]
    by_cases h10 : fp.length = 10
    ·have e2 : ((fp.length : Int) != 10) = false := by simp [h10]
     have e2' : ((fp.length : Int) == 10) = true := by simp [h10]
     have HKD := Lib.hid (And.intro hk h10)
     clear hk
     have HG := Lib.hid (rGet_any (.slice pp fp.length pc) fp 8 2 w3 HP3.out.row)
     rw [cntP_get h10] at HG
     have hcl := cntP_lt fp
     have hwn : 8 ≤ fp.length := by omega
     have HNB := Lib.hid (numP_be (p := fp) (n := X.length + 1) (by omega) hwn)
     obtain ⟨p8, hp8⟩ := cutS_sl 1 pp 0 8 pc
     rw [Nat.sub_zero, Nat.sub_zero] at hp8
     have hpc8 : 8 ≤ pc := by
      obtain ⟨_, _, e1, e2, -⟩ := HP3.out.form
      simp only [Value.slice.injEq, List.length_map] at e1 e2
      omega
     have hcut8 : ∀ w', (Instr.slice 22 (.slice pp fp.length pc) none (some (.int .i64 8)) none).run Tryz.prog w' = .ok (.slice p8 8 pc) w' := fun w' => by
      rw [← hp8]
      exact run_cutS_h w' Tryz.underlying22 (by intro w; kernel_rfl) pp fp.length pc 8 hpc8
     have HCU := Lib.hid hcut8
     have HC8 := Lib.hid (show Row w3 (.slice p8 8 pc) ((fp.take 8).map u8v) from by
      have h0 := HP3.out.row.s
      rw [List.length_map] at h0
      have := h0.cut (lo := 0) (hi := 8) (Nat.zero_le _) hwn
      rw [hp8] at this
      have e : ((fp.map u8v).drop (0 * 1)).take ((8 - 0) * 1) = (fp.take 8).map u8v := by simp [List.map_take]
      rw [e] at this
      exact this.row)
     have HPU := Lib.hid (fun w' => rput17_any (X.length + 1) (by omega) 8 w')
     rw [putL8 (by omega), show ((X.length + 1 : Nat) : Int) = (X.length : Int) + 1 from by omega] at HPU
     generalize getB fp 8 2 = gb at *
     have HF3c := Lib.hid f3
     clear hcut8 hp8 h10 hwn
     go_wp2_with fail
     refine HG.out.mono ?_
     rintro e w4 ⟨rfl, rfl⟩
     clear HG f2 f3
     go_upto_region 9 with fail
     by_cases hnum : fp.take 8 = be 8 (X.length + 1)
     ·have tn : ((bstr (fp.take 8)).toList == (bstr (be 8 (X.length + 1))).toList) = true := by rw [hnum]; simp
      have HNM := Lib.hid (HNB.out.2 hnum)
      clear hnum
      by_cases hcnt : cntP fp ≤ 1000
      ·have HBG := Lib.hid (show beginB (X.length + 1) ⟨fa, (m : Int), fk, fp⟩ = true from by
        unfold beginB
        rw [HKD.out.1, HKD.out.2, HNM.out]
        simp
        exact hcnt)
       have tc : decide (1000 < (cntP fp : Int)) = false := by simp; omega
       have tc2 : decide (1000 < cntP fp) = false := by simp; omega
       refine wp_region_noPanic ?_
       refine wp_region_held_drew (S := fun w' => Keeps (w3) w') (by kernel_rfl) ((Keeps.refl _).drew) (fun _ => ?_)
       have hHeld : Keeps (w3) (w3).drew := (Keeps.refl _).drew
       refine tq 0 45 ?_
       refine tq 1 46 ?_ (hy := fun w' hSw => by
        have hSw : Keeps _ w' := hSw
        have hx := keep1 hSw HF3c.out
        clear hSw
        go_simp
        try with_reducible rfl)
       refine tq 2 47 ?_ (hy := fun w' hSw => by
        have hSw : Keeps _ w' := hSw
        have hx := HCU.out w'
        clear hSw
        go_simp
        try with_reducible rfl)
       refine tq 3 48 ?_ (hy := fun w' hSw => by
        have hSw : Keeps _ w' := hSw
        have hc := str_at' (HC8.out.keeps hSw)
        clear hSw
        go_simp
        try with_reducible rfl)
       refine tq 4 49 ?_
       refine rd1 5 (fun K hK => ?_)
       go_simp
       refine (HPU.out _).mono ?_
       rintro e w4 ⟨rfl, hk⟩
       have hb : Keeps _ w4 := hHeld.trans hk
       have HK34 := Lib.hid ((Keeps.refl w3).drew.trans hk)
       go_wp2_with fail
       refine bk1 hK hb ?_
       clear hK K hHeld hb hk
       intro hHeld
       refine tq 6 51 ?_
       refine tq 7 52 ?_
       refine tq 8 53 ?_
       refine tq 9 54 ?_
       refine tq 10 55 ?_
       refine wpAnyH_done (by kernel_rfl) ?_ _
       refine NoPanic.normal ?_
       clear hHeld
       have HF4 := Lib.hid (HF3.out.keeps HK34.out)
       have HB4 := Lib.hid (HB3.out.keeps HK34.out)
       have HR4 := Lib.hid (HR3.out.keeps HK34.out)
       have HT4 := Lib.hid (HT3.out.keeps HK34.out)
       have HK4 := Lib.hid (HK3.out.trans HK34.out)
       have HKo4 := Lib.hid (HKr.out.trans HK34.out)
       have f1 : w4.cell? ⟨F, 1, none⟩ = some (.int .i64 (m : Int)) := by rw [HF4.out.cell]; rfl
       obtain ⟨c, hcc⟩ : ∃ c, c = cntP fp := ⟨_, rfl⟩
       have HCN := Lib.hid hcc
       rw [← hcc] at hcl hcnt ⊢
       have hwc : IntKind.i64.wrap (c : Int) = (c : Int) := by rw [IntKind.wrap_i64]; omega
       have HWC := Lib.hid hwc
       clear hcc tc tc2 tn HCU HC8 HPU HNB HF3 HB3 HR3 HT3 HK3 HK34 HF3c HP3 HKr hwc hpc8
       go_wp2_with fail
       go_loopw [5, 6, 11] (fun av tv iv wx => ∃ (i a : Nat) (pi : Option Addr) (ci : Nat) (its : List (Value × Item)) (ff : Fr1) (pf : Value), av = .int .i64 (a : Int) ∧ tv = .slice pi i ci ∧ iv = .int .i64 (i : Int) ∧ i ≤ c ∧ a ≤ l.length ∧ Hid (its.length = i ∧ Own wx wo.heap.size 22 (.slice pi i ci) (its.map (·.1)) ∧ ∀ y ∈ its, Piece wx w.heap.size 5 y.1 (y.2.map u8v)) ∧ Hid (Blk wx F 147 #[.int .i64 ff.at', .int .i64 ff.len, .int .i64 ff.kind, pf]) ∧ Hid (Keeps wo wx) ∧ Hid (∃ done : List Fr1, rowsAt l (u + m) = done ++ rowsAt l a ∧ done.length = i ∧ done.map (·.pay) = its.map (·.2) ∧ (∀ x ∈ done, itemB x = true) ∧ (a : Int) = (u : Int) + m + lenS done)) (fun _ _ iv _ => c - (intOf iv).toNat)
       case atStart => exact ⟨0, u + m, none, 0, [], ⟨fa, (m : Int), fk, fp⟩, .slice pp fp.length pc, by simp, rfl, rfl, Nat.zero_le _, ho2, Lib.hid ⟨rfl, by simpa using Own.nil _ _ _, by simp⟩, HF4, HKo4, Lib.hid ⟨[], by simp, rfl, rfl, by simp, by simp [lenS]⟩⟩
       case round =>
        clear HF4 HB4 HT4 HR4 HK4 HKo4
        obtain ⟨i, a, pi, ci, its, ff, pf, rfl, rfl, rfl, hi, ha, HIt, HFi, HKo, HDi⟩ := hrel
        have HBi := Lib.hid (HB.out.keeps HKo.out)
        have HTi := Lib.hid (HT.out.keeps HKo.out)
        have HRi := Lib.hid (HRb.out.keeps HKo.out)
        have HKi := Lib.hid (HK.out.trans HKo.out)
        have hwc := HWC.out
        have HAI := Lib.hid (rAt_any (.slice p l.length cap) l (a : Int) wr (HRO.out.keeps HKi.out) (by omega))
        unfold AtDid frV at HAI
        by_cases hlt : i < c
        ·have hlti : (i : Int) < (c : Int) := by omega
         by_cases he2 : atE l a = 0
         ·obtain ⟨m2, hm2⟩ : ∃ m2 : Nat, (atF l a).len = (m2 : Int) := Int.eq_ofNat_of_zero_le (atE_len he2).2.2
          obtain ⟨hr1, hr2⟩ := rowsAt_ok he2 hm2
          have HRA := Lib.hid hr1
          have HPL2 := Lib.hid (atE_pay he2)
          rw [he2] at HAI
          clear hr1 he2
          generalize atF l a = h at *
          obtain ⟨ga, gl, gk2, gp⟩ := h
          have hm2 : gl = (m2 : Int) := hm2
          subst hm2
          simp only at HAI HPL2
          go_wp2_with fail
          refine HAI.out.mono ?_
          rintro e w5 ⟨pw, rfl, hp, hk⟩
          obtain ⟨pz, pzc, hpv, -, -⟩ := hp.form
          rw [List.length_map] at hpv
          subst hpv
          have HPa := Lib.hid (hp.lower HKi.out.size)
          have HFa := Lib.hid (HFi.out.keeps hk)
          have HBa := Lib.hid (HBi.out.keeps hk)
          have HRa := Lib.hid (HRi.out.keeps hk)
          have HTa := Lib.hid (HTi.out.keeps hk)
          have HKa := Lib.hid (HKi.out.trans hk)
          have HKoa := Lib.hid (HKo.out.trans hk)
          have HIa := Lib.hid (show Own w5 wo.heap.size 22 (.slice pi i ci) (its.map (·.1)) ∧ ∀ y ∈ its, Piece w5 w.heap.size 5 y.1 (y.2.map u8v) from ⟨HIt.out.2.1.keeps hk, fun y hy => (HIt.out.2.2 y hy).keeps hk⟩)
          have g0 : w5.cell? ⟨F, 0, none⟩ = some (.int .i64 ff.at') := by rw [HFa.out.cell]; rfl
          have g1 : w5.cell? ⟨F, 1, none⟩ = some (.int .i64 ff.len) := by rw [HFa.out.cell]; rfl
          have g2 : w5.cell? ⟨F, 2, none⟩ = some (.int .i64 ff.kind) := by rw [HFa.out.cell]; rfl
          have g3 : w5.cell? ⟨F, 3, none⟩ = some pf := by rw [HFa.out.cell]; rfl
          have y0 : w5.frozen? ⟨F, 0, none⟩ = false := HFa.out.frozen _
          have y1 : w5.frozen? ⟨F, 1, none⟩ = false := HFa.out.frozen _
          have y2 : w5.frozen? ⟨F, 2, none⟩ = false := HFa.out.frozen _
          have y3 : w5.frozen? ⟨F, 3, none⟩ = false := HFa.out.frozen _
          clear hp hk HAI
          go_upto_region 16 with fail
          have hMF : Mods (· = F) w5 ((((w5.setCell ⟨F, 0, none⟩ (.int .i64 ga)).setCell ⟨F, 1, none⟩ (.int .i64 (m2 : Int))).setCell ⟨F, 2, none⟩ (.int .i64 gk2)).setCell ⟨F, 3, none⟩ (.slice pz gp.length pzc)) := ((((Mods.refl (· = F) w5).setCell (p := ⟨F, 0, none⟩) (fun _ => rfl) _).setCell (p := ⟨F, 1, none⟩) (fun _ => rfl) _).setCell (p := ⟨F, 2, none⟩) (fun _ => rfl) _).setCell (p := ⟨F, 3, none⟩) (fun _ => rfl) _
          have HF6 := Lib.hid (show Blk ((((w5.setCell ⟨F, 0, none⟩ (.int .i64 ga)).setCell ⟨F, 1, none⟩ (.int .i64 (m2 : Int))).setCell ⟨F, 2, none⟩ (.int .i64 gk2)).setCell ⟨F, 3, none⟩ (.slice pz gp.length pzc)) F 147 #[.int .i64 ga, .int .i64 (m2 : Int), .int .i64 gk2, .slice pz gp.length pzc] from (((HFa.out.set_ 0 _).set_ 1 _).set_ 2 _).set_ 3 _)
          clear g0 g1 g2 g3 y0 y1 y2 y3
          generalize World.setCell _ ⟨F, 3, none⟩ _ = w6 at *
          have hnF : ∀ e, e ≠ 147 → ∀ x, x = F → ∀ cs fr, w5.heap[x]? ≠ some (.cells cs e fr) := fun e he x hx cs fr hc => by
           subst hx
           have hb := HFa.out
           unfold Blk at hb
           rw [hb] at hc
           simp only [Option.some.injEq, Obj.cells.injEq] at hc
           exact he hc.2.1.symm
          have HB6 := Lib.hid (HBa.out.mods hMF (fun e => Nat.ne_of_lt HFB.out.2.1 e))
          have HR6 := Lib.hid (HRa.out.mods hMF (fun e => Nat.ne_of_lt HFB.out.2.2.1 e))
          have HT6 := Lib.hid (HTa.out.blk HFa.out (by decide) (by decide) (by decide) hMF)
          have HK6 := Lib.hid (hMF.keeps HKa.out (fun x hx => by subst hx; exact HFB.out.1))
          have HKo6 := Lib.hid (hMF.keeps HKoa.out (fun x hx => by subst hx; exact HFB.out.2.2.2))
          have HI6 := Lib.hid (show Own w6 wo.heap.size 22 (.slice pi i ci) (its.map (·.1)) ∧ ∀ y ∈ its, Piece w6 w.heap.size 5 y.1 (y.2.map u8v) from ⟨own_modsT HIa.out.1 hMF (hnF _ (by decide)), fun y hy => (HIa.out.2 y hy).modsT hMF (hnF _ (by decide))⟩)
          have HP6 := Lib.hid (HPa.out.modsT hMF (hnF _ (by decide)))
          clear hMF hnF HFa HBa HRa HTa HIa HPa HKa HKoa
          have HBAD := Lib.hid (fun (hb : itemB ⟨ga, (m2 : Int), gk2, gp⟩ = false) => HNO.out (by
           obtain ⟨done, d1, d2, d3, d4, d5⟩ := HDi.out
           rw [HROW.out, d1, HRA.out]
           have hx : (done ++ (⟨ga, (m2 : Int), gk2, gp⟩ : Fr1) :: rowsAt l (a + m2))[i]? = some ⟨ga, (m2 : Int), gk2, gp⟩ := by rw [List.getElem?_append_right (by omega), d2, Nat.sub_self]; rfl
           obtain ⟨hlx, hex⟩ := List.getElem?_eq_some_iff.1 hx
           exact oneK_item (i := i) (by show i < cntP fp; rw [← HCN.out]; exact hlt) hlx (by rw [hex]; exact hb)))
          have g1 : w6.cell? ⟨F, 1, none⟩ = some (.int .i64 (m2 : Int)) := by rw [HF6.out.cell]; rfl
          have g2 : w6.cell? ⟨F, 2, none⟩ = some (.int .i64 gk2) := by rw [HF6.out.cell]; rfl
          have g3 : w6.cell? ⟨F, 3, none⟩ = some (.slice pz gp.length pzc) := by rw [HF6.out.cell]; rfl
          by_cases hk2 : gk2 = 33
          ·have e1 : (gk2 != 33) = false := by simp [hk2]
           have e1' : (gk2 == 33) = true := by simp [hk2]
           by_cases hbig : 4096 < gp.length
           ·have HE := Lib.hid (HBAD.out (by unfold itemB; simp; intro; omega))
            clear hk2
            have b0 : w6.cell? ⟨B, 0, none⟩ = some (.slice px X.length cx) := by rw [HB6.out.cell]; rfl
            have b1 : w6.cell? ⟨B, 1, none⟩ = some (.int .i64 (u : Int)) := by rw [HB6.out.cell]; rfl
            have r0 : w6.cell? ⟨R, 0, none⟩ = some (.slice none 0 0) := by rw [HR6.out.cell]; rfl
            have r1 : w6.cell? ⟨R, 1, none⟩ = some (.int .i64 0) := by rw [HR6.out.cell]; rfl
            have z0 : w6.frozen? ⟨R, 0, none⟩ = false := HR6.out.frozen _
            have z1 : w6.frozen? ⟨R, 1, none⟩ = false := HR6.out.frozen _
            go_wp2_with fail
            have hMR : Mods (· = R) w6 ((w6.setCell ⟨R, 0, none⟩ (.slice px X.length cx)).setCell ⟨R, 1, none⟩ (.int .i64 (u : Int))) := ((Mods.refl (· = R) w6).setCell (p := ⟨R, 0, none⟩) (fun _ => rfl) _).setCell (p := ⟨R, 1, none⟩) (fun _ => rfl) _
            refine bodyPost_ret (v := .agg #[.slice px X.length cx, .int .i64 (u : Int)]) (by simp [results, Tryz.results44, go_sem, r0, r1]) rfl ?_
            rw [HE.out]
            exact ⟨_, X, rfl, HT6.out.blk HR6.out (by decide) (by decide) (by decide) hMR, rfl, hMR.keeps HK6.out (fun x hx => by have := HRW.out; omega)⟩
           ·have HIB := Lib.hid (show itemB ⟨ga, (m2 : Int), gk2, gp⟩ = true from by unfold itemB; simp [hk2]; omega)
            have hs6 := HKo6.out.size
            clear hk2
            go_upto_region 19 with (at_builtin; go_loud (refine wpList_app1 (base := wo.heap.size) payok rfl _ _ rfl (.slice pi i ci) (.slice (some ⟨w6.heap.size, 0, none⟩) 1 1) (its.map (·.1)) [.slice pz gp.length pzc] rfl rfl (HI6.out.1.alloc _) (row_alloc rfl rfl rfl (by unfold maxLen; simp)) (by simp [Value.oneCell']) (by rw [List.length_map, HIt.out.1]; simp; omega) (by decide) (by rw [Frm.alloc_size]; omega) ?_; intro v7 w7 ho7 hg7 hf7; have hl7 : (its.map (·.1) ++ [Value.slice pz gp.length pzc]).length = i + 1 := by { rw [List.length_append, List.length_map, HIt.out.1]; rfl }; obtain ⟨p7, c7, hv7, -, -⟩ := Frm.ownsRow_form ho7; rw [hl7] at hv7; subst hv7; have HO7 := Lib.hid ho7; have HM7 := Lib.hid (show Mods (fun x => (Value.slice pi i ci).ownBlock = some x) w6 w7 from ((Mods.refl _ w6).alloc _).grown hg7 (fun k hk _ => hk)); have HK7 := Lib.hid ((HKo6.out.alloc _).grown hg7 (fun k hk => HI6.out.1.base k hk)); clear ho7 hg7 hf7 hl7))
            have hty := fun e (he : 22 ≠ e) => ownsRow_ty (e' := e) HI6.out.1 he
            have HF7 := Lib.hid (HF6.out.mods HM7.out (fun hy => hty 147 (by decide) F hy _ _ HF6.out))
            have HP7 := Lib.hid (show ∀ y ∈ its ++ [((Value.slice pz gp.length pzc), gp)], Piece w7 w.heap.size 5 y.1 (y.2.map u8v) from fun y hy => by
             rcases List.mem_append.1 hy with hy | hy
             ·exact (HI6.out.2 y hy).modsT HM7.out (fun x hx => hty 5 (by decide) x hx)
             ·simp only [List.mem_singleton] at hy
              subst hy
              exact HP6.out.modsT HM7.out (fun x hx => hty 5 (by decide) x hx))
            clear hty g1 g2 g3
            have f1 : w7.cell? ⟨F, 1, none⟩ = some (.int .i64 (m2 : Int)) := by rw [HF7.out.cell]; rfl
            go_wp2_with fail
            go_roundw
            case rel =>
             refine ⟨i + 1, a + m2, p7, c7, its ++ [((Value.slice pz gp.length pzc), gp)], ⟨ga, (m2 : Int), gk2, gp⟩, .slice pz gp.length pzc, by simp, rfl, by simp, by omega, hr2, Lib.hid ⟨by rw [List.length_append, HIt.out.1]; rfl, by rw [List.map_append]; exact HO7.out, HP7.out⟩, HF7, HK7, Lib.hid ?_⟩
             obtain ⟨done, d1, d2, d3, d4, d5⟩ := HDi.out
             refine ⟨done ++ [⟨ga, (m2 : Int), gk2, gp⟩], by rw [d1, HRA.out]; simp, by rw [List.length_append, d2]; rfl, by simp [d3], fun x hx => ?_, by rw [lenS_append, lenS_cons, lenS_nil]; simp only; omega⟩
             rcases List.mem_append.1 hx with hx | hx
             ·exact d4 x hx
             ·simp only [List.mem_singleton] at hx; subst hx; exact HIB.out
            case measure =>
             simp only [intOf]
             omega
          ·have e1 : (gk2 != 33) = true := by simp [hk2]
           have e1' : (gk2 == 33) = false := by simp [hk2]
           have HE := Lib.hid (HBAD.out (by unfold itemB; simp [hk2]))
           clear hk2
           have b0 : w6.cell? ⟨B, 0, none⟩ = some (.slice px X.length cx) := by rw [HB6.out.cell]; rfl
           have b1 : w6.cell? ⟨B, 1, none⟩ = some (.int .i64 (u : Int)) := by rw [HB6.out.cell]; rfl
           have r0 : w6.cell? ⟨R, 0, none⟩ = some (.slice none 0 0) := by rw [HR6.out.cell]; rfl
           have r1 : w6.cell? ⟨R, 1, none⟩ = some (.int .i64 0) := by rw [HR6.out.cell]; rfl
           have z0 : w6.frozen? ⟨R, 0, none⟩ = false := HR6.out.frozen _
           have z1 : w6.frozen? ⟨R, 1, none⟩ = false := HR6.out.frozen _
           go_wp2_with fail
           have hMR : Mods (· = R) w6 ((w6.setCell ⟨R, 0, none⟩ (.slice px X.length cx)).setCell ⟨R, 1, none⟩ (.int .i64 (u : Int))) := ((Mods.refl (· = R) w6).setCell (p := ⟨R, 0, none⟩) (fun _ => rfl) _).setCell (p := ⟨R, 1, none⟩) (fun _ => rfl) _
           refine bodyPost_ret (v := .agg #[.slice px X.length cx, .int .i64 (u : Int)]) (by simp [results, Tryz.results44, go_sem, r0, r1]) rfl ?_
           rw [HE.out]
           exact ⟨_, X, rfl, HT6.out.blk HR6.out (by decide) (by decide) (by decide) hMR, rfl, hMR.keeps HK6.out (fun x hx => by have := HRW.out; omega)⟩
         ·have HE := Lib.hid (HNO.out (by
           obtain ⟨done, d1, d2, d3, d4, d5⟩ := HDi.out
           rw [HROW.out, d1, rowsAt_err he2, List.append_nil]
           exact oneK_short (by show done.length ≤ cntP fp; rw [← HCN.out]; omega)))
          have HZ := Lib.hid (atF_zero he2)
          rw [HZ.out] at HAI
          generalize atE l a = er at *
          have t1 : (er != 0) = true := by simp [he2]
          have t2 : (er == 0) = false := by simp [he2]
          clear he2
          go_wp2_with fail
          refine HAI.out.mono ?_
          rintro e w5 ⟨pw, rfl, hp, hk⟩
          obtain ⟨pz, pzc, hpv, -, -⟩ := hp.form
          rw [List.length_map] at hpv
          subst hpv
          have HPa := Lib.hid (hp.lower HKi.out.size)
          have HFa := Lib.hid (HFi.out.keeps hk)
          have HBa := Lib.hid (HBi.out.keeps hk)
          have HRa := Lib.hid (HRi.out.keeps hk)
          have HTa := Lib.hid (HTi.out.keeps hk)
          have HKa := Lib.hid (HKi.out.trans hk)
          have HKoa := Lib.hid (HKo.out.trans hk)
          have HIa := Lib.hid (show Own w5 wo.heap.size 22 (.slice pi i ci) (its.map (·.1)) ∧ ∀ y ∈ its, Piece w5 w.heap.size 5 y.1 (y.2.map u8v) from ⟨HIt.out.2.1.keeps hk, fun y hy => (HIt.out.2.2 y hy).keeps hk⟩)
          have g0 : w5.cell? ⟨F, 0, none⟩ = some (.int .i64 ff.at') := by rw [HFa.out.cell]; rfl
          have g1 : w5.cell? ⟨F, 1, none⟩ = some (.int .i64 ff.len) := by rw [HFa.out.cell]; rfl
          have g2 : w5.cell? ⟨F, 2, none⟩ = some (.int .i64 ff.kind) := by rw [HFa.out.cell]; rfl
          have g3 : w5.cell? ⟨F, 3, none⟩ = some pf := by rw [HFa.out.cell]; rfl
          have y0 : w5.frozen? ⟨F, 0, none⟩ = false := HFa.out.frozen _
          have y1 : w5.frozen? ⟨F, 1, none⟩ = false := HFa.out.frozen _
          have y2 : w5.frozen? ⟨F, 2, none⟩ = false := HFa.out.frozen _
          have y3 : w5.frozen? ⟨F, 3, none⟩ = false := HFa.out.frozen _
          clear hp hk HAI
          go_upto_region 16 with fail
          have hMF : Mods (· = F) w5 ((((w5.setCell ⟨F, 0, none⟩ (.int .i64 0)).setCell ⟨F, 1, none⟩ (.int .i64 0)).setCell ⟨F, 2, none⟩ (.int .i64 0)).setCell ⟨F, 3, none⟩ (.slice pz ([] : List UInt8).length pzc)) := ((((Mods.refl (· = F) w5).setCell (p := ⟨F, 0, none⟩) (fun _ => rfl) _).setCell (p := ⟨F, 1, none⟩) (fun _ => rfl) _).setCell (p := ⟨F, 2, none⟩) (fun _ => rfl) _).setCell (p := ⟨F, 3, none⟩) (fun _ => rfl) _
          have HF6 := Lib.hid (show Blk ((((w5.setCell ⟨F, 0, none⟩ (.int .i64 0)).setCell ⟨F, 1, none⟩ (.int .i64 0)).setCell ⟨F, 2, none⟩ (.int .i64 0)).setCell ⟨F, 3, none⟩ (.slice pz ([] : List UInt8).length pzc)) F 147 #[.int .i64 0, .int .i64 0, .int .i64 0, .slice pz ([] : List UInt8).length pzc] from (((HFa.out.set_ 0 _).set_ 1 _).set_ 2 _).set_ 3 _)
          clear g0 g1 g2 g3 y0 y1 y2 y3
          generalize World.setCell _ ⟨F, 3, none⟩ _ = w6 at *
          have hnF : ∀ e, e ≠ 147 → ∀ x, x = F → ∀ cs fr, w5.heap[x]? ≠ some (.cells cs e fr) := fun e he x hx cs fr hc => by
           subst hx
           have hb := HFa.out
           unfold Blk at hb
           rw [hb] at hc
           simp only [Option.some.injEq, Obj.cells.injEq] at hc
           exact he hc.2.1.symm
          have HB6 := Lib.hid (HBa.out.mods hMF (fun e => Nat.ne_of_lt HFB.out.2.1 e))
          have HR6 := Lib.hid (HRa.out.mods hMF (fun e => Nat.ne_of_lt HFB.out.2.2.1 e))
          have HT6 := Lib.hid (HTa.out.blk HFa.out (by decide) (by decide) (by decide) hMF)
          have HK6 := Lib.hid (hMF.keeps HKa.out (fun x hx => by subst hx; exact HFB.out.1))
          have HKo6 := Lib.hid (hMF.keeps HKoa.out (fun x hx => by subst hx; exact HFB.out.2.2.2))
          have HI6 := Lib.hid (show Own w6 wo.heap.size 22 (.slice pi i ci) (its.map (·.1)) ∧ ∀ y ∈ its, Piece w6 w.heap.size 5 y.1 (y.2.map u8v) from ⟨own_modsT HIa.out.1 hMF (hnF _ (by decide)), fun y hy => (HIa.out.2 y hy).modsT hMF (hnF _ (by decide))⟩)
          have HP6 := Lib.hid (HPa.out.modsT hMF (hnF _ (by decide)))
          clear hMF hnF HFa HBa HRa HTa HIa HPa HKa HKoa
          have b0 : w6.cell? ⟨B, 0, none⟩ = some (.slice px X.length cx) := by rw [HB6.out.cell]; rfl
          have b1 : w6.cell? ⟨B, 1, none⟩ = some (.int .i64 (u : Int)) := by rw [HB6.out.cell]; rfl
          have r0 : w6.cell? ⟨R, 0, none⟩ = some (.slice none 0 0) := by rw [HR6.out.cell]; rfl
          have r1 : w6.cell? ⟨R, 1, none⟩ = some (.int .i64 0) := by rw [HR6.out.cell]; rfl
          have z0 : w6.frozen? ⟨R, 0, none⟩ = false := HR6.out.frozen _
          have z1 : w6.frozen? ⟨R, 1, none⟩ = false := HR6.out.frozen _
          go_wp2_with fail
          have hMR : Mods (· = R) w6 ((w6.setCell ⟨R, 0, none⟩ (.slice px X.length cx)).setCell ⟨R, 1, none⟩ (.int .i64 (u : Int))) := ((Mods.refl (· = R) w6).setCell (p := ⟨R, 0, none⟩) (fun _ => rfl) _).setCell (p := ⟨R, 1, none⟩) (fun _ => rfl) _
          refine bodyPost_ret (v := .agg #[.slice px X.length cx, .int .i64 (u : Int)]) (by simp [results, Tryz.results44, go_sem, r0, r1]) rfl ?_
          rw [HE.out]
          exact ⟨_, X, rfl, HT6.out.blk HR6.out (by decide) (by decide) (by decide) hMR, rfl, hMR.keeps HK6.out (fun x hx => by have := HRW.out; omega)⟩
        ·have hlt' : decide ((i : Int) < (c : Int)) = false := by simp; omega
         by_cases he2 : atE l a = 0
         ·obtain ⟨m2, hm2⟩ : ∃ m2 : Nat, (atF l a).len = (m2 : Int) := Int.eq_ofNat_of_zero_le (atE_len he2).2.2
          obtain ⟨hr1, hr2⟩ := rowsAt_ok he2 hm2
          have HRA := Lib.hid hr1
          rw [he2] at HAI
          clear hr1 he2
          generalize atF l a = h at *
          obtain ⟨ga, gl, gk2, gp⟩ := h
          have hm2 : gl = (m2 : Int) := hm2
          subst hm2
          simp only at HAI
          obtain ⟨k', hgk⟩ : ∃ k', gk = k' + 1 := ⟨gk - 1, by have := HI.out.1; rw [HROW.out] at this; simp at this; omega⟩
          go_wp2_with fail
          refine HAI.out.mono ?_
          rintro e w5 ⟨pw, rfl, hp, hk⟩
          obtain ⟨pz, pzc, hpv, -, -⟩ := hp.form
          rw [List.length_map] at hpv
          subst hpv
          have HPa := Lib.hid (hp.lower HKi.out.size)
          have HFa := Lib.hid (HFi.out.keeps hk)
          have HBa := Lib.hid (HBi.out.keeps hk)
          have HRa := Lib.hid (HRi.out.keeps hk)
          have HTa := Lib.hid (HTi.out.keeps hk)
          have HKa := Lib.hid (HKi.out.trans hk)
          have HKoa := Lib.hid (HKo.out.trans hk)
          have HIa := Lib.hid (show Own w5 wo.heap.size 22 (.slice pi i ci) (its.map (·.1)) ∧ ∀ y ∈ its, Piece w5 w.heap.size 5 y.1 (y.2.map u8v) from ⟨HIt.out.2.1.keeps hk, fun y hy => (HIt.out.2.2 y hy).keeps hk⟩)
          have g0 : w5.cell? ⟨F, 0, none⟩ = some (.int .i64 ff.at') := by rw [HFa.out.cell]; rfl
          have g1 : w5.cell? ⟨F, 1, none⟩ = some (.int .i64 ff.len) := by rw [HFa.out.cell]; rfl
          have g2 : w5.cell? ⟨F, 2, none⟩ = some (.int .i64 ff.kind) := by rw [HFa.out.cell]; rfl
          have g3 : w5.cell? ⟨F, 3, none⟩ = some pf := by rw [HFa.out.cell]; rfl
          have y0 : w5.frozen? ⟨F, 0, none⟩ = false := HFa.out.frozen _
          have y1 : w5.frozen? ⟨F, 1, none⟩ = false := HFa.out.frozen _
          have y2 : w5.frozen? ⟨F, 2, none⟩ = false := HFa.out.frozen _
          have y3 : w5.frozen? ⟨F, 3, none⟩ = false := HFa.out.frozen _
          clear hp hk HAI
          go_upto_region 21 with fail
          have hMF : Mods (· = F) w5 ((((w5.setCell ⟨F, 0, none⟩ (.int .i64 ga)).setCell ⟨F, 1, none⟩ (.int .i64 (m2 : Int))).setCell ⟨F, 2, none⟩ (.int .i64 gk2)).setCell ⟨F, 3, none⟩ (.slice pz gp.length pzc)) := ((((Mods.refl (· = F) w5).setCell (p := ⟨F, 0, none⟩) (fun _ => rfl) _).setCell (p := ⟨F, 1, none⟩) (fun _ => rfl) _).setCell (p := ⟨F, 2, none⟩) (fun _ => rfl) _).setCell (p := ⟨F, 3, none⟩) (fun _ => rfl) _
          have HF6 := Lib.hid (show Blk ((((w5.setCell ⟨F, 0, none⟩ (.int .i64 ga)).setCell ⟨F, 1, none⟩ (.int .i64 (m2 : Int))).setCell ⟨F, 2, none⟩ (.int .i64 gk2)).setCell ⟨F, 3, none⟩ (.slice pz gp.length pzc)) F 147 #[.int .i64 ga, .int .i64 (m2 : Int), .int .i64 gk2, .slice pz gp.length pzc] from (((HFa.out.set_ 0 _).set_ 1 _).set_ 2 _).set_ 3 _)
          clear g0 g1 g2 g3 y0 y1 y2 y3
          generalize World.setCell _ ⟨F, 3, none⟩ _ = w6 at *
          have hnF : ∀ e, e ≠ 147 → ∀ x, x = F → ∀ cs fr, w5.heap[x]? ≠ some (.cells cs e fr) := fun e he x hx cs fr hc => by
           subst hx
           have hb := HFa.out
           unfold Blk at hb
           rw [hb] at hc
           simp only [Option.some.injEq, Obj.cells.injEq] at hc
           exact he hc.2.1.symm
          have HB6 := Lib.hid (HBa.out.mods hMF (fun e => Nat.ne_of_lt HFB.out.2.1 e))
          have HR6 := Lib.hid (HRa.out.mods hMF (fun e => Nat.ne_of_lt HFB.out.2.2.1 e))
          have HT6 := Lib.hid (HTa.out.blk HFa.out (by decide) (by decide) (by decide) hMF)
          have HK6 := Lib.hid (hMF.keeps HKa.out (fun x hx => by subst hx; exact HFB.out.1))
          have HKo6 := Lib.hid (hMF.keeps HKoa.out (fun x hx => by subst hx; exact HFB.out.2.2.2))
          have HI6 := Lib.hid (show Own w6 wo.heap.size 22 (.slice pi i ci) (its.map (·.1)) ∧ ∀ y ∈ its, Piece w6 w.heap.size 5 y.1 (y.2.map u8v) from ⟨own_modsT HIa.out.1 hMF (hnF _ (by decide)), fun y hy => (HIa.out.2 y hy).modsT hMF (hnF _ (by decide))⟩)
          have HP6 := Lib.hid (HPa.out.modsT hMF (hnF _ (by decide)))
          clear hMF hnF HFa HBa HRa HTa HIa HPa HKa HKoa
          have HBAD := Lib.hid (fun (hb : commitB (X.length + 1) ⟨ga, (m2 : Int), gk2, gp⟩ = false) => HNO.out (by
           obtain ⟨done, d1, d2, d3, d4, d5⟩ := HDi.out
           rw [HROW.out, d1, HRA.out]
           have hce : cntP fp = i := by rw [← HCN.out]; omega
           have hx : (done ++ (⟨ga, (m2 : Int), gk2, gp⟩ : Fr1) :: rowsAt l (a + m2))[cntP fp]? = some ⟨ga, (m2 : Int), gk2, gp⟩ := by rw [hce, List.getElem?_append_right (by omega), d2, Nat.sub_self]; rfl
           obtain ⟨hlx, hex⟩ := List.getElem?_eq_some_iff.1 hx
           exact oneK_end hlx ((congrArg (commitB (X.length + 1)) hex).trans hb)))
          have HPU2 := Lib.hid (fun w' => rput17_any (X.length + 1) (by omega) 8 w')
          rw [putL8 (by omega), show ((X.length + 1 : Nat) : Int) = (X.length : Int) + 1 from by omega] at HPU2
          have HG2 := Lib.hid (show w6.cell? ⟨F, 2, none⟩ = some (.int .i64 gk2) from by rw [HF6.out.cell]; rfl)
          have HG3 := Lib.hid (show w6.cell? ⟨F, 3, none⟩ = some (.slice pz gp.length pzc) from by rw [HF6.out.cell]; rfl)
          by_cases hk2 : gk2 = 34
          ·have e1 : (gk2 != 34) = false := by simp [hk2]
           have e1' : (gk2 == 34) = true := by simp [hk2]
           by_cases hnum : gp = be 8 (X.length + 1)
           ·have tn : ((bstr gp).toList == (bstr (be 8 (X.length + 1))).toList) = true := by rw [hnum]; simp
            have HCM := Lib.hid (show commitB (X.length + 1) ⟨ga, (m2 : Int), gk2, gp⟩ = true from by
             have hl8 : gp.length = 8 := by rw [hnum, be_length]
             have hnn : numP gp = X.length + 1 := (numP_be (by omega) (by omega)).2 (by rw [List.take_of_length_le (by omega)]; exact hnum)
             unfold commitB
             simp [hnn, hl8, hk2])
            clear hnum hk2
            refine wp_region_noPanic ?_
            refine wp_region_held_drew (S := fun w' => Keeps (w6) w') (by kernel_rfl) ((Keeps.refl _).drew) (fun _ => ?_)
            have hHeld : Keeps (w6) (w6).drew := (Keeps.refl _).drew
            refine tq 0 102 ?_
            refine tq 1 103 ?_
            refine tq 2 104 ?_
            refine tq 3 105 ?_
            refine tq 4 106 ?_ (hy := fun w' hSw => by
             have hSw : Keeps _ w' := hSw
             have hx := keep1 hSw HG2.out
             clear hSw
             go_simp
             try with_reducible rfl)
            refine tq 5 107 ?_
            refine tq 6 108 ?_
            refine tq 7 109 ?_
            refine tq 8 110 ?_
            refine tq 9 111 ?_ (hy := fun w' hSw => by
             have hSw : Keeps _ w' := hSw
             have hx := keep1 hSw HG3.out
             clear hSw
             go_simp
             try with_reducible rfl)
            refine tq 10 112 ?_ (hy := fun w' hSw => by
             have hSw : Keeps _ w' := hSw
             have hc := str_at' (HP6.out.row.keeps hSw)
             clear hSw
             go_simp
             try with_reducible rfl)
            refine tq 11 113 ?_
            refine rd1 12 (fun K hK => ?_)
            go_simp
            refine (HPU2.out _).mono ?_
            rintro e w7 ⟨rfl, hk⟩
            have hb : Keeps _ w7 := hHeld.trans hk
            have HK67 := Lib.hid ((Keeps.refl w6).drew.trans hk)
            go_wp2_with fail
            refine bk1 hK hb ?_
            clear hK K hHeld hb hk
            intro hHeld
            refine tq 13 115 ?_
            refine tq 14 116 ?_
            refine wpAnyH_done (by kernel_rfl) ?_ _
            refine NoPanic.normal ?_
            clear hHeld
            have HF7 := Lib.hid (HF6.out.keeps HK67.out)
            have HB7 := Lib.hid (HB6.out.keeps HK67.out)
            have HR7 := Lib.hid (HR6.out.keeps HK67.out)
            have HT7 := Lib.hid (HT6.out.keeps HK67.out)
            have HK7 := Lib.hid (HK6.out.trans HK67.out)
            have HI7 := Lib.hid (show Own w7 w.heap.size 22 (.slice pi i ci) (its.map (·.1)) ∧ ∀ y ∈ its, Piece w7 w.heap.size 5 y.1 (y.2.map u8v) from ⟨(HI6.out.1.lower HK.out.size).keeps HK67.out, fun y hy => (HI6.out.2 y hy).keeps HK67.out⟩)
            clear tn e1 e1' HBAD HPU2 HG2 HG3 HF6 HB6 HR6 HT6 HK6 HI6 HP6 HKo6
            have b0 : w7.cell? ⟨B, 0, none⟩ = some (.slice px X.length cx) := by rw [HB7.out.cell]; rfl
            have hs7 := HK7.out.size
            have hXb : X.length ≤ 549755813887 := by omega
            go_upto_region 24 with (at_builtin; go_loud (refine wpList_apps (base := w.heap.size) txok (by decide) rfl _ _ rfl (.slice px X.length cx) (.slice (some ⟨w7.heap.size, 0, none⟩) 1 1) X.length 1 (X.flatMap txC) [.int .i64 ((X.length : Int) + 1), .slice pi i ci] rfl rfl (ownsRow_keeps HT7.out.own ((Keeps.refl _).alloc _)) (rowS_lit rfl rfl rfl) (by simp [Value.oneCell']) (by omega) (by decide) (by rw [Frm.alloc_size]; omega) ?_; intro v9 w9 ho9 hg9 hf9; obtain ⟨p9, c9, hv9, -, -⟩ := Frm.ownsRow_form ho9; subst hv9; have HM9 := Lib.hid (show Mods (fun x => (Value.slice px X.length cx).ownBlock = some x) w7 w9 from ((Mods.refl _ w7).alloc _).grown hg9 (fun k hk _ => hk)); have HK9 := Lib.hid ((HK7.out.alloc _).grown hg9 (ownsRow_base HT7.out.own)); have HT9 := Lib.hid ((HT7.out.keeps ((Keeps.refl _).alloc _)).snoc (x := (X.length + 1, .slice pi i ci, its)) (HI7.out.1.keeps ((Keeps.refl _).alloc _)) (fun y hy => (HI7.out.2 y hy).keeps ((Keeps.refl _).alloc _)) ho9 hg9); have HB9 := Lib.hid (HB7.out.mods HM9.out (fun hy => ownsRow_ty (e' := 103) HT7.out.own (by decide) B hy _ _ HB7.out)); have HR9 := Lib.hid (HR7.out.mods HM9.out (fun hy => ownsRow_ty (e' := 103) HT7.out.own (by decide) R hy _ _ HR7.out)); have HF9 := Lib.hid (HF7.out.mods HM9.out (fun hy => ownsRow_ty (e' := 147) HT7.out.own (by decide) F hy _ _ HF7.out)); clear ho9 hg9 hf9 b0; have b0 : w9.cell? ⟨B, 0, none⟩ = some (.slice px X.length cx) := by { rw [HB9.out.cell]; rfl }; have z0 : w9.frozen? ⟨B, 0, none⟩ = false := HB9.out.frozen _))
            have b1 : w9.cell? ⟨B, 1, none⟩ = some (.int .i64 (u : Int)) := by rw [HB9.out.cell]; rfl
            have z1 : w9.frozen? ⟨B, 1, none⟩ = false := HB9.out.frozen _
            have f1 : w9.cell? ⟨F, 1, none⟩ = some (.int .i64 (m2 : Int)) := by rw [HF9.out.cell]; rfl
            go_wp2_with fail
            go_roundg k'
            case rel =>
             have hMB : Mods (· = B) w9 ((w9.setCell ⟨B, 0, none⟩ (.slice p9 (X.length + 1) c9)).setCell ⟨B, 1, none⟩ (.int .i64 ((a : Int) + (m2 : Int)))) := ((Mods.refl (· = B) w9).setCell (p := ⟨B, 0, none⟩) (fun _ => rfl) _).setCell (p := ⟨B, 1, none⟩) (fun _ => rfl) _
             have hL : (X ++ [((X.length + 1, Value.slice pi i ci, its) : TxX)]).length = X.length + 1 := by simp
             refine ⟨X ++ [(X.length + 1, .slice pi i ci, its)], p9, c9, a + m2, ?_, ?_, ?_, ?_, hr2, by rw [hL]; omega, ?_⟩
             ·rw [hL, show ((a + m2 : Nat) : Int) = (a : Int) + (m2 : Int) from by omega]
              exact Lib.hid ((HB9.out.set_ 0 _).set_ 1 _)
             ·rw [hL]
              exact Lib.hid (HT9.out.blk HB9.out (by decide) (by decide) (by decide) hMB)
             ·exact Lib.hid (HR9.out.mods hMB (fun e => HRW.out.2.2 e))
             ·exact Lib.hid (hMB.keeps HK9.out (fun x hx => by subst hx; exact HRW.out.2.1))
             ·obtain ⟨done, d1, d2, d3, d4, d5⟩ := HDi.out
              have hrr : rowsAt l u = (⟨fa, (m : Int), fk, fp⟩ : Fr1) :: (done ++ (⟨ga, (m2 : Int), gk2, gp⟩ : Fr1) :: rowsAt l (a + m2)) := by rw [HROW.out, d1, HRA.out]
              have h1 := HI.out.1
              have h2 := HI.out.2
              rw [hrr] at h1 h2
              rw [hgk, replay_step (oneK_all HBG.out (by show done.length = cntP fp; rw [← HCN.out]; omega) HCM.out d4)] at h2
              refine Lib.hid ⟨by simp at h1; omega, ?_⟩
              rw [h2, hL, d3]
              simp only [List.map_append, List.map_cons, List.map_nil, List.append_assoc, List.cons_append, List.nil_append, txP]
              refine Prod.ext rfl ?_
              simp only
              omega
            case measure => omega
           ·have tn : ((bstr gp).toList == (bstr (be 8 (X.length + 1))).toList) = false := by simp [bstr_toList, hnum]
            have HE := Lib.hid (HBAD.out (by
             show (decide (numP gp = X.length + 1) && decide (gp.length = 8) && decide (gk2 = 34)) = false
             by_cases hl8 : gp.length = 8
             ·rw [decide_eq_false (fun e => hnum (by have := (numP_be (n := X.length + 1) (by omega) (by omega)).1 e; rwa [List.take_of_length_le (by omega)] at this))]
              rfl
             ·simp [hl8]))
            clear hnum hk2
            refine wp_region_noPanic ?_
            refine wp_region_held_drew (S := fun w' => Keeps (w6) w') (by kernel_rfl) ((Keeps.refl _).drew) (fun _ => ?_)
            have hHeld : Keeps (w6) (w6).drew := (Keeps.refl _).drew
            refine tq 0 102 ?_
            refine tq 1 103 ?_
            refine tq 2 104 ?_
            refine tq 3 105 ?_
            refine tq 4 106 ?_ (hy := fun w' hSw => by
             have hSw : Keeps _ w' := hSw
             have hx := keep1 hSw HG2.out
             clear hSw
             go_simp
             try with_reducible rfl)
            refine tq 5 107 ?_
            refine tq 6 108 ?_
            refine tq 7 109 ?_
            refine tq 8 110 ?_
            refine tq 9 111 ?_ (hy := fun w' hSw => by
             have hSw : Keeps _ w' := hSw
             have hx := keep1 hSw HG3.out
             clear hSw
             go_simp
             try with_reducible rfl)
            refine tq 10 112 ?_ (hy := fun w' hSw => by
             have hSw : Keeps _ w' := hSw
             have hc := str_at' (HP6.out.row.keeps hSw)
             clear hSw
             go_simp
             try with_reducible rfl)
            refine tq 11 113 ?_
            refine rd1 12 (fun K hK => ?_)
            go_simp
            refine (HPU2.out _).mono ?_
            rintro e w7 ⟨rfl, hk⟩
            have hb : Keeps _ w7 := hHeld.trans hk
            have HK67 := Lib.hid ((Keeps.refl w6).drew.trans hk)
            go_wp2_with fail
            refine bk1 hK hb ?_
            clear hK K hHeld hb hk
            intro hHeld
            refine tq 13 115 ?_
            refine tq 14 116 ?_
            refine wpAnyH_done (by kernel_rfl) ?_ _
            refine NoPanic.normal ?_
            clear hHeld
            have HB7 := Lib.hid (HB6.out.keeps HK67.out)
            have HR7 := Lib.hid (HR6.out.keeps HK67.out)
            have HT7 := Lib.hid (HT6.out.keeps HK67.out)
            have HK7 := Lib.hid (HK6.out.trans HK67.out)
            have b0 : w7.cell? ⟨B, 0, none⟩ = some (.slice px X.length cx) := by rw [HB7.out.cell]; rfl
            have b1 : w7.cell? ⟨B, 1, none⟩ = some (.int .i64 (u : Int)) := by rw [HB7.out.cell]; rfl
            have r0 : w7.cell? ⟨R, 0, none⟩ = some (.slice none 0 0) := by rw [HR7.out.cell]; rfl
            have r1 : w7.cell? ⟨R, 1, none⟩ = some (.int .i64 0) := by rw [HR7.out.cell]; rfl
            have z0 : w7.frozen? ⟨R, 0, none⟩ = false := HR7.out.frozen _
            have z1 : w7.frozen? ⟨R, 1, none⟩ = false := HR7.out.frozen _
            go_wp2_with fail
            have hMR : Mods (· = R) w7 ((w7.setCell ⟨R, 0, none⟩ (.slice px X.length cx)).setCell ⟨R, 1, none⟩ (.int .i64 (u : Int))) := ((Mods.refl (· = R) w7).setCell (p := ⟨R, 0, none⟩) (fun _ => rfl) _).setCell (p := ⟨R, 1, none⟩) (fun _ => rfl) _
            refine bodyPost_ret (v := .agg #[.slice px X.length cx, .int .i64 (u : Int)]) (by simp [results, Tryz.results44, go_sem, r0, r1]) rfl ?_
            rw [HE.out]
            exact ⟨_, X, rfl, HT7.out.blk HR7.out (by decide) (by decide) (by decide) hMR, rfl, hMR.keeps HK7.out (fun x hx => by have := HRW.out; omega)⟩
          ·have e1 : (gk2 != 34) = true := by simp [hk2]
           have e1' : (gk2 == 34) = false := by simp [hk2]
           have HE := Lib.hid (HBAD.out (by
            show (decide (numP gp = X.length + 1) && decide (gp.length = 8) && decide (gk2 = 34)) = false
            simp [hk2]))
           clear hk2
           refine wp_region_noPanic ?_
           refine wp_region_held_drew (S := fun w' => Keeps (w6) w') (by kernel_rfl) ((Keeps.refl _).drew) (fun _ => ?_)
           have hHeld : Keeps (w6) (w6).drew := (Keeps.refl _).drew
           refine tq 0 102 ?_
           refine tq 1 103 ?_
           refine tq 2 104 ?_
           refine tq 3 105 ?_
           refine tq 4 106 ?_ (hy := fun w' hSw => by
            have hSw : Keeps _ w' := hSw
            have hx := keep1 hSw HG2.out
            clear hSw
            go_simp
            try with_reducible rfl)
           refine tq 5 107 ?_
           refine tq 6 108 ?_
           refine tq 7 109 ?_
           refine wpAnyH_take (i := 8) (v := undef) (by rfl) (by kernel_rfl) (by kernel_rfl) (by kernel_rfl) (by intro _ _ _ h; exact h) (Or.inr ⟨by kernel_rfl, rfl⟩) (by assumption) ?rest47
           change wpAnyH _ _ _ _ _ _ _ (Act.put _ (some 110) _) _
           try simp only [Act.put, List.setIfInBounds_toArray, List.set_cons_zero, List.set_cons_succ]
           refine wpAnyH_take (i := 9) (v := undef) (by rfl) (by kernel_rfl) (by kernel_rfl) (by kernel_rfl) (by intro _ _ _ h; exact h) (Or.inr ⟨by kernel_rfl, rfl⟩) (by assumption) ?rest48
           change wpAnyH _ _ _ _ _ _ _ (Act.put _ (some 111) _) _
           try simp only [Act.put, List.setIfInBounds_toArray, List.set_cons_zero, List.set_cons_succ]
           refine wpAnyH_take (i := 10) (v := undef) (by rfl) (by kernel_rfl) (by kernel_rfl) (by kernel_rfl) (by intro _ _ _ h; exact h) (Or.inr ⟨by kernel_rfl, rfl⟩) (by assumption) ?rest49
           change wpAnyH _ _ _ _ _ _ _ (Act.put _ (some 112) _) _
           try simp only [Act.put, List.setIfInBounds_toArray, List.set_cons_zero, List.set_cons_succ]
           refine wpAnyH_take (i := 11) (v := undef) (by rfl) (by kernel_rfl) (by kernel_rfl) (by kernel_rfl) (by intro _ _ _ h; exact h) (Or.inr ⟨by kernel_rfl, rfl⟩) (by assumption) ?rest50
           change wpAnyH _ _ _ _ _ _ _ (Act.put _ (some 113) _) _
           try simp only [Act.put, List.setIfInBounds_toArray, List.set_cons_zero, List.set_cons_succ]
           refine wpAnyH_take (i := 12) (v := undef) (by rfl) (by kernel_rfl) (by kernel_rfl) (by kernel_rfl) (by intro _ _ _ h; exact h) (Or.inr ⟨by kernel_rfl, rfl⟩) (by assumption) ?rest51
           change wpAnyH _ _ _ _ _ _ _ (Act.put _ (some 114) _) _
           try simp only [Act.put, List.setIfInBounds_toArray, List.set_cons_zero, List.set_cons_succ]
           refine wpAnyH_take (i := 13) (v := undef) (by rfl) (by kernel_rfl) (by kernel_rfl) (by kernel_rfl) (by intro _ _ _ h; exact h) (Or.inr ⟨by kernel_rfl, rfl⟩) (by assumption) ?rest52
           change wpAnyH _ _ _ _ _ _ _ (Act.put _ (some 115) _) _
           try simp only [Act.put, List.setIfInBounds_toArray, List.set_cons_zero, List.set_cons_succ]
           refine tq 14 116 ?_
           refine wpAnyH_done (by kernel_rfl) ?_ _
           refine NoPanic.normal ?_
           clear hHeld
           have HB7 := Lib.hid (HB6.out.keeps (Keeps.refl w6).drew)
           have HR7 := Lib.hid (HR6.out.keeps (Keeps.refl w6).drew)
           have HT7 := Lib.hid (HT6.out.keeps (Keeps.refl w6).drew)
           have HK7 := Lib.hid (HK6.out.trans (Keeps.refl w6).drew)
           generalize World.drew w6 = w7 at HB7 HR7 HT7 HK7 ⊢
           have b0 : w7.cell? ⟨B, 0, none⟩ = some (.slice px X.length cx) := by rw [HB7.out.cell]; rfl
           have b1 : w7.cell? ⟨B, 1, none⟩ = some (.int .i64 (u : Int)) := by rw [HB7.out.cell]; rfl
           have r0 : w7.cell? ⟨R, 0, none⟩ = some (.slice none 0 0) := by rw [HR7.out.cell]; rfl
           have r1 : w7.cell? ⟨R, 1, none⟩ = some (.int .i64 0) := by rw [HR7.out.cell]; rfl
           have z0 : w7.frozen? ⟨R, 0, none⟩ = false := HR7.out.frozen _
           have z1 : w7.frozen? ⟨R, 1, none⟩ = false := HR7.out.frozen _
           go_wp2_with fail
           have hMR : Mods (· = R) w7 ((w7.setCell ⟨R, 0, none⟩ (.slice px X.length cx)).setCell ⟨R, 1, none⟩ (.int .i64 (u : Int))) := ((Mods.refl (· = R) w7).setCell (p := ⟨R, 0, none⟩) (fun _ => rfl) _).setCell (p := ⟨R, 1, none⟩) (fun _ => rfl) _
           refine bodyPost_ret (v := .agg #[.slice px X.length cx, .int .i64 (u : Int)]) (by simp [results, Tryz.results44, go_sem, r0, r1]) rfl ?_
           rw [HE.out]
           exact ⟨_, X, rfl, HT7.out.blk HR7.out (by decide) (by decide) (by decide) hMR, rfl, hMR.keeps HK7.out (fun x hx => by have := HRW.out; omega)⟩
         ·have HE := Lib.hid (HNO.out (by
           obtain ⟨done, d1, d2, d3, d4, d5⟩ := HDi.out
           rw [HROW.out, d1, rowsAt_err he2, List.append_nil]
           exact oneK_short (by show done.length ≤ cntP fp; rw [← HCN.out]; omega)))
          have HZ := Lib.hid (atF_zero he2)
          rw [HZ.out] at HAI
          generalize atE l a = er at *
          have t1 : (er != 0) = true := by simp [he2]
          have t2 : (er == 0) = false := by simp [he2]
          clear he2
          go_wp2_with fail
          refine HAI.out.mono ?_
          rintro e w5 ⟨pw, rfl, hp, hk⟩
          obtain ⟨pz, pzc, hpv, -, -⟩ := hp.form
          rw [List.length_map] at hpv
          subst hpv
          have HPa := Lib.hid (hp.lower HKi.out.size)
          have HFa := Lib.hid (HFi.out.keeps hk)
          have HBa := Lib.hid (HBi.out.keeps hk)
          have HRa := Lib.hid (HRi.out.keeps hk)
          have HTa := Lib.hid (HTi.out.keeps hk)
          have HKa := Lib.hid (HKi.out.trans hk)
          have HKoa := Lib.hid (HKo.out.trans hk)
          have HIa := Lib.hid (show Own w5 wo.heap.size 22 (.slice pi i ci) (its.map (·.1)) ∧ ∀ y ∈ its, Piece w5 w.heap.size 5 y.1 (y.2.map u8v) from ⟨HIt.out.2.1.keeps hk, fun y hy => (HIt.out.2.2 y hy).keeps hk⟩)
          have g0 : w5.cell? ⟨F, 0, none⟩ = some (.int .i64 ff.at') := by rw [HFa.out.cell]; rfl
          have g1 : w5.cell? ⟨F, 1, none⟩ = some (.int .i64 ff.len) := by rw [HFa.out.cell]; rfl
          have g2 : w5.cell? ⟨F, 2, none⟩ = some (.int .i64 ff.kind) := by rw [HFa.out.cell]; rfl
          have g3 : w5.cell? ⟨F, 3, none⟩ = some pf := by rw [HFa.out.cell]; rfl
          have y0 : w5.frozen? ⟨F, 0, none⟩ = false := HFa.out.frozen _
          have y1 : w5.frozen? ⟨F, 1, none⟩ = false := HFa.out.frozen _
          have y2 : w5.frozen? ⟨F, 2, none⟩ = false := HFa.out.frozen _
          have y3 : w5.frozen? ⟨F, 3, none⟩ = false := HFa.out.frozen _
          clear hp hk HAI
          go_upto_region 21 with fail
          have hMF : Mods (· = F) w5 ((((w5.setCell ⟨F, 0, none⟩ (.int .i64 0)).setCell ⟨F, 1, none⟩ (.int .i64 0)).setCell ⟨F, 2, none⟩ (.int .i64 0)).setCell ⟨F, 3, none⟩ (.slice pz ([] : List UInt8).length pzc)) := ((((Mods.refl (· = F) w5).setCell (p := ⟨F, 0, none⟩) (fun _ => rfl) _).setCell (p := ⟨F, 1, none⟩) (fun _ => rfl) _).setCell (p := ⟨F, 2, none⟩) (fun _ => rfl) _).setCell (p := ⟨F, 3, none⟩) (fun _ => rfl) _
          have HF6 := Lib.hid (show Blk ((((w5.setCell ⟨F, 0, none⟩ (.int .i64 0)).setCell ⟨F, 1, none⟩ (.int .i64 0)).setCell ⟨F, 2, none⟩ (.int .i64 0)).setCell ⟨F, 3, none⟩ (.slice pz ([] : List UInt8).length pzc)) F 147 #[.int .i64 0, .int .i64 0, .int .i64 0, .slice pz ([] : List UInt8).length pzc] from (((HFa.out.set_ 0 _).set_ 1 _).set_ 2 _).set_ 3 _)
          clear g0 g1 g2 g3 y0 y1 y2 y3
          generalize World.setCell _ ⟨F, 3, none⟩ _ = w6 at *
          have hnF : ∀ e, e ≠ 147 → ∀ x, x = F → ∀ cs fr, w5.heap[x]? ≠ some (.cells cs e fr) := fun e he x hx cs fr hc => by
           subst hx
           have hb := HFa.out
           unfold Blk at hb
           rw [hb] at hc
           simp only [Option.some.injEq, Obj.cells.injEq] at hc
           exact he hc.2.1.symm
          have HB6 := Lib.hid (HBa.out.mods hMF (fun e => Nat.ne_of_lt HFB.out.2.1 e))
          have HR6 := Lib.hid (HRa.out.mods hMF (fun e => Nat.ne_of_lt HFB.out.2.2.1 e))
          have HT6 := Lib.hid (HTa.out.blk HFa.out (by decide) (by decide) (by decide) hMF)
          have HK6 := Lib.hid (hMF.keeps HKa.out (fun x hx => by subst hx; exact HFB.out.1))
          have HKo6 := Lib.hid (hMF.keeps HKoa.out (fun x hx => by subst hx; exact HFB.out.2.2.2))
          have HI6 := Lib.hid (show Own w6 wo.heap.size 22 (.slice pi i ci) (its.map (·.1)) ∧ ∀ y ∈ its, Piece w6 w.heap.size 5 y.1 (y.2.map u8v) from ⟨own_modsT HIa.out.1 hMF (hnF _ (by decide)), fun y hy => (HIa.out.2 y hy).modsT hMF (hnF _ (by decide))⟩)
          have HP6 := Lib.hid (HPa.out.modsT hMF (hnF _ (by decide)))
          clear hMF hnF HFa HBa HRa HTa HIa HPa HKa HKoa
          refine wp_region_noPanic ?_
          refine wp_region_held_drew (S := fun w' => Keeps (w6) w') (by kernel_rfl) ((Keeps.refl _).drew) (fun _ => ?_)
          have hHeld : Keeps (w6) (w6).drew := (Keeps.refl _).drew
          refine tq 0 102 ?_
          refine tq 1 103 ?_
          refine tq 2 104 ?_
          refine wpAnyH_take (i := 3) (v := undef) (by rfl) (by kernel_rfl) (by kernel_rfl) (by kernel_rfl) (by intro _ _ _ h; exact h) (Or.inr ⟨by kernel_rfl, rfl⟩) (by assumption) ?rest57
          change wpAnyH _ _ _ _ _ _ _ (Act.put _ (some 105) _) _
          try simp only [Act.put, List.setIfInBounds_toArray, List.set_cons_zero, List.set_cons_succ]
          refine wpAnyH_take (i := 4) (v := undef) (by rfl) (by kernel_rfl) (by kernel_rfl) (by kernel_rfl) (by intro _ _ _ h; exact h) (Or.inr ⟨by kernel_rfl, rfl⟩) (by assumption) ?rest58
          change wpAnyH _ _ _ _ _ _ _ (Act.put _ (some 106) _) _
          try simp only [Act.put, List.setIfInBounds_toArray, List.set_cons_zero, List.set_cons_succ]
          refine wpAnyH_take (i := 5) (v := undef) (by rfl) (by kernel_rfl) (by kernel_rfl) (by kernel_rfl) (by intro _ _ _ h; exact h) (Or.inr ⟨by kernel_rfl, rfl⟩) (by assumption) ?rest59
          change wpAnyH _ _ _ _ _ _ _ (Act.put _ (some 107) _) _
          try simp only [Act.put, List.setIfInBounds_toArray, List.set_cons_zero, List.set_cons_succ]
          refine tq 6 108 ?_
          refine tq 7 109 ?_
          refine wpAnyH_take (i := 8) (v := undef) (by rfl) (by kernel_rfl) (by kernel_rfl) (by kernel_rfl) (by intro _ _ _ h; exact h) (Or.inr ⟨by kernel_rfl, rfl⟩) (by assumption) ?rest62
          change wpAnyH _ _ _ _ _ _ _ (Act.put _ (some 110) _) _
          try simp only [Act.put, List.setIfInBounds_toArray, List.set_cons_zero, List.set_cons_succ]
          refine wpAnyH_take (i := 9) (v := undef) (by rfl) (by kernel_rfl) (by kernel_rfl) (by kernel_rfl) (by intro _ _ _ h; exact h) (Or.inr ⟨by kernel_rfl, rfl⟩) (by assumption) ?rest63
          change wpAnyH _ _ _ _ _ _ _ (Act.put _ (some 111) _) _
          try simp only [Act.put, List.setIfInBounds_toArray, List.set_cons_zero, List.set_cons_succ]
          refine wpAnyH_take (i := 10) (v := undef) (by rfl) (by kernel_rfl) (by kernel_rfl) (by kernel_rfl) (by intro _ _ _ h; exact h) (Or.inr ⟨by kernel_rfl, rfl⟩) (by assumption) ?rest64
          change wpAnyH _ _ _ _ _ _ _ (Act.put _ (some 112) _) _
          try simp only [Act.put, List.setIfInBounds_toArray, List.set_cons_zero, List.set_cons_succ]
          refine wpAnyH_take (i := 11) (v := undef) (by rfl) (by kernel_rfl) (by kernel_rfl) (by kernel_rfl) (by intro _ _ _ h; exact h) (Or.inr ⟨by kernel_rfl, rfl⟩) (by assumption) ?rest65
          change wpAnyH _ _ _ _ _ _ _ (Act.put _ (some 113) _) _
          try simp only [Act.put, List.setIfInBounds_toArray, List.set_cons_zero, List.set_cons_succ]
          refine wpAnyH_take (i := 12) (v := undef) (by rfl) (by kernel_rfl) (by kernel_rfl) (by kernel_rfl) (by intro _ _ _ h; exact h) (Or.inr ⟨by kernel_rfl, rfl⟩) (by assumption) ?rest66
          change wpAnyH _ _ _ _ _ _ _ (Act.put _ (some 114) _) _
          try simp only [Act.put, List.setIfInBounds_toArray, List.set_cons_zero, List.set_cons_succ]
          refine wpAnyH_take (i := 13) (v := undef) (by rfl) (by kernel_rfl) (by kernel_rfl) (by kernel_rfl) (by intro _ _ _ h; exact h) (Or.inr ⟨by kernel_rfl, rfl⟩) (by assumption) ?rest67
          change wpAnyH _ _ _ _ _ _ _ (Act.put _ (some 115) _) _
          try simp only [Act.put, List.setIfInBounds_toArray, List.set_cons_zero, List.set_cons_succ]
          refine tq 14 116 ?_
          refine wpAnyH_done (by kernel_rfl) ?_ _
          refine NoPanic.normal ?_
          clear hHeld
          have HB7 := Lib.hid (HB6.out.keeps (Keeps.refl w6).drew)
          have HR7 := Lib.hid (HR6.out.keeps (Keeps.refl w6).drew)
          have HT7 := Lib.hid (HT6.out.keeps (Keeps.refl w6).drew)
          have HK7 := Lib.hid (HK6.out.trans (Keeps.refl w6).drew)
          generalize World.drew w6 = w7 at HB7 HR7 HT7 HK7 ⊢
          have b0 : w7.cell? ⟨B, 0, none⟩ = some (.slice px X.length cx) := by rw [HB7.out.cell]; rfl
          have b1 : w7.cell? ⟨B, 1, none⟩ = some (.int .i64 (u : Int)) := by rw [HB7.out.cell]; rfl
          have r0 : w7.cell? ⟨R, 0, none⟩ = some (.slice none 0 0) := by rw [HR7.out.cell]; rfl
          have r1 : w7.cell? ⟨R, 1, none⟩ = some (.int .i64 0) := by rw [HR7.out.cell]; rfl
          have z0 : w7.frozen? ⟨R, 0, none⟩ = false := HR7.out.frozen _
          have z1 : w7.frozen? ⟨R, 1, none⟩ = false := HR7.out.frozen _
          go_wp2_with fail
          have hMR : Mods (· = R) w7 ((w7.setCell ⟨R, 0, none⟩ (.slice px X.length cx)).setCell ⟨R, 1, none⟩ (.int .i64 (u : Int))) := ((Mods.refl (· = R) w7).setCell (p := ⟨R, 0, none⟩) (fun _ => rfl) _).setCell (p := ⟨R, 1, none⟩) (fun _ => rfl) _
          refine bodyPost_ret (v := .agg #[.slice px X.length cx, .int .i64 (u : Int)]) (by simp [results, Tryz.results44, go_sem, r0, r1]) rfl ?_
          rw [HE.out]
          exact ⟨_, X, rfl, HT7.out.blk HR7.out (by decide) (by decide) (by decide) hMR, rfl, hMR.keeps HK7.out (fun x hx => by have := HRW.out; omega)⟩
      ·have HE := Lib.hid (HNO.out (by rw [HROW.out]; exact oneK_kind (by unfold beginB; simp; omega)))
       have tc : decide (1000 < (cntP fp : Int)) = true := by simp; omega
       have tc2 : decide (1000 < cntP fp) = true := by simp; omega
       refine wp_region_noPanic ?_
       refine wp_region_held_drew (S := fun w' => Keeps (w3) w') (by kernel_rfl) ((Keeps.refl _).drew) (fun _ => ?_)
       have hHeld : Keeps (w3) (w3).drew := (Keeps.refl _).drew
       refine tq 0 45 ?_
       refine tq 1 46 ?_ (hy := fun w' hSw => by
        have hSw : Keeps _ w' := hSw
        have hx := keep1 hSw HF3c.out
        clear hSw
        go_simp
        try with_reducible rfl)
       refine tq 2 47 ?_ (hy := fun w' hSw => by
        have hSw : Keeps _ w' := hSw
        have hx := HCU.out w'
        clear hSw
        go_simp
        try with_reducible rfl)
       refine tq 3 48 ?_ (hy := fun w' hSw => by
        have hSw : Keeps _ w' := hSw
        have hc := str_at' (HC8.out.keeps hSw)
        clear hSw
        go_simp
        try with_reducible rfl)
       refine tq 4 49 ?_
       refine rd1 5 (fun K hK => ?_)
       go_simp
       refine (HPU.out _).mono ?_
       rintro e w4 ⟨rfl, hk⟩
       have hb : Keeps _ w4 := hHeld.trans hk
       have HK34 := Lib.hid ((Keeps.refl w3).drew.trans hk)
       go_wp2_with fail
       refine bk1 hK hb ?_
       clear hK K hHeld hb hk
       intro hHeld
       refine tq 6 51 ?_
       refine tq 7 52 ?_
       refine tq 8 53 ?_
       refine tq 9 54 ?_
       refine tq 10 55 ?_
       refine wpAnyH_done (by kernel_rfl) ?_ _
       refine NoPanic.normal ?_
       clear hHeld
       have HB4 := Lib.hid (HB3.out.keeps HK34.out)
       have HR4 := Lib.hid (HR3.out.keeps HK34.out)
       have HT4 := Lib.hid (HT3.out.keeps HK34.out)
       have HK4 := Lib.hid (HK3.out.trans HK34.out)
       have b0 : w4.cell? ⟨B, 0, none⟩ = some (.slice px X.length cx) := by rw [HB4.out.cell]; rfl
       have b1 : w4.cell? ⟨B, 1, none⟩ = some (.int .i64 (u : Int)) := by rw [HB4.out.cell]; rfl
       have r0 : w4.cell? ⟨R, 0, none⟩ = some (.slice none 0 0) := by rw [HR4.out.cell]; rfl
       have r1 : w4.cell? ⟨R, 1, none⟩ = some (.int .i64 0) := by rw [HR4.out.cell]; rfl
       have z0 : w4.frozen? ⟨R, 0, none⟩ = false := HR4.out.frozen _
       have z1 : w4.frozen? ⟨R, 1, none⟩ = false := HR4.out.frozen _
       go_wp2_with fail
       have hMR : Mods (· = R) w4 ((w4.setCell ⟨R, 0, none⟩ (.slice px X.length cx)).setCell ⟨R, 1, none⟩ (.int .i64 (u : Int))) := ((Mods.refl (· = R) w4).setCell (p := ⟨R, 0, none⟩) (fun _ => rfl) _).setCell (p := ⟨R, 1, none⟩) (fun _ => rfl) _
       refine bodyPost_ret (v := .agg #[.slice px X.length cx, .int .i64 (u : Int)]) (by simp [results, Tryz.results44, go_sem, r0, r1]) rfl ?_
       rw [HE.out]
       exact ⟨_, X, rfl, HT4.out.blk HR4.out (by decide) (by decide) (by decide) hMR, rfl, hMR.keeps HK4.out (fun x hx => by have := HRW.out; omega)⟩
     ·have tn : ((bstr (fp.take 8)).toList == (bstr (be 8 (X.length + 1))).toList) = false := by simp [bstr_toList, hnum]
      have HE := Lib.hid (HNO.out (by rw [HROW.out]; exact oneK_kind (by unfold beginB; rw [decide_eq_false (fun e => hnum (HNB.out.1 e))]; simp)))
      clear hnum
      refine wp_region_noPanic ?_
      refine wp_region_held_drew (S := fun w' => Keeps (w3) w') (by kernel_rfl) ((Keeps.refl _).drew) (fun _ => ?_)
      have hHeld : Keeps (w3) (w3).drew := (Keeps.refl _).drew
      refine tq 0 45 ?_
      refine tq 1 46 ?_ (hy := fun w' hSw => by
       have hSw : Keeps _ w' := hSw
       have hx := keep1 hSw HF3c.out
       clear hSw
       go_simp
       try with_reducible rfl)
      refine tq 2 47 ?_ (hy := fun w' hSw => by
       have hSw : Keeps _ w' := hSw
       have hx := HCU.out w'
       clear hSw
       go_simp
       try with_reducible rfl)
      refine tq 3 48 ?_ (hy := fun w' hSw => by
       have hSw : Keeps _ w' := hSw
       have hc := str_at' (HC8.out.keeps hSw)
       clear hSw
       go_simp
       try with_reducible rfl)
      refine tq 4 49 ?_
      refine rd1 5 (fun K hK => ?_)
      go_simp
      refine (HPU.out _).mono ?_
      rintro e w4 ⟨rfl, hk⟩
      have hb : Keeps _ w4 := hHeld.trans hk
      have HK34 := Lib.hid ((Keeps.refl w3).drew.trans hk)
      go_wp2_with fail
      refine bk1 hK hb ?_
      clear hK K hHeld hb hk
      intro hHeld
      refine tq 6 51 ?_
      refine tq 7 52 ?_
      refine wpAnyH_take (i := 8) (v := undef) (by rfl) (by kernel_rfl) (by kernel_rfl) (by kernel_rfl) (by intro _ _ _ h; exact h) (Or.inr ⟨by kernel_rfl, rfl⟩) (by assumption) ?rest86
      change wpAnyH _ _ _ _ _ _ _ (Act.put _ (some 53) _) _
      try simp only [Act.put, List.setIfInBounds_toArray, List.set_cons_zero, List.set_cons_succ]
      refine wpAnyH_take (i := 9) (v := undef) (by rfl) (by kernel_rfl) (by kernel_rfl) (by kernel_rfl) (by intro _ _ _ h; exact h) (Or.inr ⟨by kernel_rfl, rfl⟩) (by assumption) ?rest87
      change wpAnyH _ _ _ _ _ _ _ (Act.put _ (some 54) _) _
      try simp only [Act.put, List.setIfInBounds_toArray, List.set_cons_zero, List.set_cons_succ]
      refine tq 10 55 ?_
      refine wpAnyH_done (by kernel_rfl) ?_ _
      refine NoPanic.normal ?_
      clear hHeld
      have HB4 := Lib.hid (HB3.out.keeps HK34.out)
      have HR4 := Lib.hid (HR3.out.keeps HK34.out)
      have HT4 := Lib.hid (HT3.out.keeps HK34.out)
      have HK4 := Lib.hid (HK3.out.trans HK34.out)
      have b0 : w4.cell? ⟨B, 0, none⟩ = some (.slice px X.length cx) := by rw [HB4.out.cell]; rfl
      have b1 : w4.cell? ⟨B, 1, none⟩ = some (.int .i64 (u : Int)) := by rw [HB4.out.cell]; rfl
      have r0 : w4.cell? ⟨R, 0, none⟩ = some (.slice none 0 0) := by rw [HR4.out.cell]; rfl
      have r1 : w4.cell? ⟨R, 1, none⟩ = some (.int .i64 0) := by rw [HR4.out.cell]; rfl
      have z0 : w4.frozen? ⟨R, 0, none⟩ = false := HR4.out.frozen _
      have z1 : w4.frozen? ⟨R, 1, none⟩ = false := HR4.out.frozen _
      go_wp2_with fail
      have hMR : Mods (· = R) w4 ((w4.setCell ⟨R, 0, none⟩ (.slice px X.length cx)).setCell ⟨R, 1, none⟩ (.int .i64 (u : Int))) := ((Mods.refl (· = R) w4).setCell (p := ⟨R, 0, none⟩) (fun _ => rfl) _).setCell (p := ⟨R, 1, none⟩) (fun _ => rfl) _
      refine bodyPost_ret (v := .agg #[.slice px X.length cx, .int .i64 (u : Int)]) (by simp [results, Tryz.results44, go_sem, r0, r1]) rfl ?_
      rw [HE.out]
      exact ⟨_, X, rfl, HT4.out.blk HR4.out (by decide) (by decide) (by decide) hMR, rfl, hMR.keeps HK4.out (fun x hx => by have := HRW.out; omega)⟩
    ·have e2 : ((fp.length : Int) != 10) = true := by simp; omega
     have e2' : ((fp.length : Int) == 10) = false := by simp; omega
     have HE := Lib.hid (HNO.out (by rw [HROW.out]; exact oneK_kind (by unfold beginB; simp [h10])))
     clear hk h10
     have b0 : w3.cell? ⟨B, 0, none⟩ = some (.slice px X.length cx) := by rw [HB3.out.cell]; rfl
     have b1 : w3.cell? ⟨B, 1, none⟩ = some (.int .i64 (u : Int)) := by rw [HB3.out.cell]; rfl
     have r0 : w3.cell? ⟨R, 0, none⟩ = some (.slice none 0 0) := by rw [HR3.out.cell]; rfl
     have r1 : w3.cell? ⟨R, 1, none⟩ = some (.int .i64 0) := by rw [HR3.out.cell]; rfl
     have z0 : w3.frozen? ⟨R, 0, none⟩ = false := HR3.out.frozen _
     have z1 : w3.frozen? ⟨R, 1, none⟩ = false := HR3.out.frozen _
     go_wp2_with fail
     have hMR : Mods (· = R) w3 ((w3.setCell ⟨R, 0, none⟩ (.slice px X.length cx)).setCell ⟨R, 1, none⟩ (.int .i64 (u : Int))) := ((Mods.refl (· = R) w3).setCell (p := ⟨R, 0, none⟩) (fun _ => rfl) _).setCell (p := ⟨R, 1, none⟩) (fun _ => rfl) _
     refine bodyPost_ret (v := .agg #[.slice px X.length cx, .int .i64 (u : Int)]) (by simp [results, Tryz.results44, go_sem, r0, r1]) rfl ?_
     rw [HE.out]
     exact ⟨_, X, rfl, HT3.out.blk HR3.out (by decide) (by decide) (by decide) hMR, rfl, hMR.keeps HK3.out (fun x hx => by have := HRW.out; omega)⟩
   ·have e1 : (fk != 32) = true := by simp [hk]
    have e1' : (fk == 32) = false := by simp [hk]
    have HE := Lib.hid (HNO.out (by rw [HROW.out]; exact oneK_kind (by unfold beginB; simp [hk])))
    clear hk
    have b0 : w3.cell? ⟨B, 0, none⟩ = some (.slice px X.length cx) := by rw [HB3.out.cell]; rfl
    have b1 : w3.cell? ⟨B, 1, none⟩ = some (.int .i64 (u : Int)) := by rw [HB3.out.cell]; rfl
    have r0 : w3.cell? ⟨R, 0, none⟩ = some (.slice none 0 0) := by rw [HR3.out.cell]; rfl
    have r1 : w3.cell? ⟨R, 1, none⟩ = some (.int .i64 0) := by rw [HR3.out.cell]; rfl
    have z0 : w3.frozen? ⟨R, 0, none⟩ = false := HR3.out.frozen _
    have z1 : w3.frozen? ⟨R, 1, none⟩ = false := HR3.out.frozen _
    go_wp2_with fail
    have hMR : Mods (· = R) w3 ((w3.setCell ⟨R, 0, none⟩ (.slice px X.length cx)).setCell ⟨R, 1, none⟩ (.int .i64 (u : Int))) := ((Mods.refl (· = R) w3).setCell (p := ⟨R, 0, none⟩) (fun _ => rfl) _).setCell (p := ⟨R, 1, none⟩) (fun _ => rfl) _
    refine bodyPost_ret (v := .agg #[.slice px X.length cx, .int .i64 (u : Int)]) (by simp [results, Tryz.results44, go_sem, r0, r1]) rfl ?_
    rw [HE.out]
    exact ⟨_, X, rfl, HT3.out.blk HR3.out (by decide) (by decide) (by decide) hMR, rfl, hMR.keeps HK3.out (fun x hx => by have := HRW.out; omega)⟩
  ·have HE := Lib.hid (HNO.out (by rw [rowsAt_err he]; rfl))
   have HZ := Lib.hid (atF_zero he)
   rw [HZ.out] at HA
   generalize atE l u = er at *
   have t1 : (er != 0) = true := by simp [he]
   have t2 : (er == 0) = false := by simp [he]
   clear he
   go_wp2_with fail
   refine HA.out.mono ?_
   rintro e w2 ⟨pv, rfl, hp, hk2⟩
   obtain ⟨pp, pc, hpv, -, -⟩ := hp.form
   rw [List.length_map] at hpv
   subst hpv
   have HP2 := Lib.hid (hp.lower HK.out.size)
   have HK2 := Lib.hid hk2
   clear hp hk2 HA
   go_upto_region 6 with fail
   generalize hW : World.alloc w2 _ = w3
   have hk3 : Keeps w2 w3 := by rw [← hW]; exact (Keeps.refl _).alloc _
   have HF3 := Lib.hid (show Blk w3 w2.heap.size 147 #[.int .i64 0, .int .i64 0, .int .i64 0, .slice pp ([] : List UInt8).length pc] from by rw [← hW]; exact Blk.new _ _ _ rfl)
   have HKr := Lib.hid (HK2.out.trans hk3)
   have HK3 := Lib.hid (HK.out.trans HKr.out)
   have HB3 := Lib.hid (HB.out.keeps HKr.out)
   have HR3 := Lib.hid (HRb.out.keeps HKr.out)
   have HT3 := Lib.hid (HT.out.keeps HKr.out)
   have HP3 := Lib.hid (HP2.out.keeps hk3)
   have HFB := Lib.hid (show w.heap.size ≤ w2.heap.size ∧ B < w2.heap.size ∧ R < w2.heap.size ∧ wo.heap.size ≤ w2.heap.size from ⟨(HK.out.trans HK2.out).size, (HB.out.keeps HK2.out).lt, (HRb.out.keeps HK2.out).lt, HK2.out.size⟩)
   clear hW hk3 b0 b1
   obtain ⟨F, hF⟩ : ∃ F, F = w2.heap.size := ⟨_, rfl⟩
   rw [← hF] at HF3 HFB ⊢
   clear hF HK2 HP2
   have b0 : w3.cell? ⟨B, 0, none⟩ = some (.slice px X.length cx) := by rw [HB3.out.cell]; rfl
   have b1 : w3.cell? ⟨B, 1, none⟩ = some (.int .i64 (u : Int)) := by rw [HB3.out.cell]; rfl
   have r0 : w3.cell? ⟨R, 0, none⟩ = some (.slice none 0 0) := by rw [HR3.out.cell]; rfl
   have r1 : w3.cell? ⟨R, 1, none⟩ = some (.int .i64 0) := by rw [HR3.out.cell]; rfl
   have z0 : w3.frozen? ⟨R, 0, none⟩ = false := HR3.out.frozen _
   have z1 : w3.frozen? ⟨R, 1, none⟩ = false := HR3.out.frozen _
   go_wp2_with fail
   have hMR : Mods (· = R) w3 ((w3.setCell ⟨R, 0, none⟩ (.slice px X.length cx)).setCell ⟨R, 1, none⟩ (.int .i64 (u : Int))) := ((Mods.refl (· = R) w3).setCell (p := ⟨R, 0, none⟩) (fun _ => rfl) _).setCell (p := ⟨R, 1, none⟩) (fun _ => rfl) _
   refine bodyPost_ret (v := .agg #[.slice px X.length cx, .int .i64 (u : Int)]) (by simp [results, Tryz.results44, go_sem, r0, r1]) rfl ?_
   rw [HE.out]
   exact ⟨_, X, rfl, HT3.out.blk HR3.out (by decide) (by decide) (by decide) hMR, rfl, hMR.keeps HK3.out (fun x hx => by have := HRW.out; omega)⟩
end Txl
end Go.Proofs.YtchjncnolmiejaaGreat

/- record.Payload and record.Frame. -/
import Derived.Test.YtekkjhjaacjhnaaRecBare
import Derived.Test.YtekkjhjaacjhnaaFrameWrap
namespace Go.Proofs.Ytekkjhjaacjhnaa
open Go.RowKit
namespace Rcd
open Oct Frm

theorem retSI {W w' : World} {l l' : List UInt8} {n m : Int} {v : Value} (ho : Own w' W.heap.size 5 v (l'.map u8v)) (hl : l = l') (hn : n = m) (hk : Keeps W w') : RetSI W l n (.returned (.tuple #[v, .int .i64 m])) w' := ⟨v, by rw [hn], by rw [hl]; exact ho, hk⟩
theorem wrapU {n : Nat} (h : n < 18446744073709551616) : IntKind.u64.wrap (n : Int) = (n : Int) := by
  rw [IntKind.wrap_u64]
  omega

set_option maxRecDepth 100000 in
set_option maxHeartbeats 2000000 in
theorem payload_any (r : Rec) (v : Value) (w : World) (hr : Row w v (r.data.map u8v)) :
    Calls Try.prog 38 #[.agg (recA r v)] w (RetSI w (payO r) (chk r)) := by
  obtain ⟨pv, cv, rfl, -, -⟩ := hr.form
  have hnl : (List.map u8v r.data).length = r.data.length := by simp
  rw [hnl] at hr ⊢
  clear hnl
  have HR := Lib.hid hr
  clear hr
  have HRA := Lib.hid (fun o h => recA_at r (.slice pv r.data.length cv) (o := o) h)
  have HCA := Lib.hid (fun w h => check_any r (.slice pv r.data.length cv) w h)
  unfold recA
  go_enter Try.func38, Try.ntmps38
  go_upto_region 1 with fail
  generalize hW : World.alloc w _ = w1
  have HK := Lib.hid (show Keeps w w1 from by rw [← hW]; exact (Keeps.refl _).alloc _)
  have HA := Lib.hid (show Blk w1 w.heap.size 30 (recA r (.slice pv r.data.length cv)) from by rw [← hW]; exact Blk.new _ _ _ rfl)
  clear hW
  obtain ⟨Q, hQ⟩ : ∃ Q, Q = w.heap.size := ⟨_, rfl⟩
  rw [← hQ] at HA ⊢
  have HQ := Lib.hid hQ
  clear hQ
  obtain ⟨a0, a1, a2, a3, a4, a5, a6, a7, a8, a9, a10, a11⟩ := rec12 HA.out
  go_wp2_with fail
  refine (HCA.out w1 (HR.out.keeps HK.out)).mono ?_
  rintro e w2 ⟨rfl, hk2⟩
  have HK := Lib.hid (HK.out.trans hk2)
  have HA := Lib.hid (HA.out.keeps hk2)
  clear hk2 a0 a1 a2 a3 a4 a5 a6 a7 a8 a9 a10 a11
  by_cases hc : chk r = 0
  · obtain ⟨hk, hok, -, hdl, -⟩ := chk_zero hc
    have HX : Hid (payO r = payL r ∧ chk r = 0) := Lib.hid ⟨by unfold payO; rw [if_pos hc], hc⟩
    have hc' : (chk r != 0) = false := by simp [hc]
    clear hc
    generalize chk r = c at *
    have HOK := Lib.hid hok
    have HK1 := Lib.hid hk
    clear hok hk
    go_wp2_with fail
    refine (newSink_any _).mono ?_
    rintro e w3 ⟨g, rfl, hg, hs, hk3⟩
    have HS := Lib.hid (Sole.new (W := w) hs (Nat.le_trans HK.out.size hg) (HK.out.trans hk3))
    have HGS := Lib.hid (Nat.lt_of_lt_of_le HA.out.lt hg)
    have HA := Lib.hid (HA.out.keeps hk3)
    clear hs hk3 hg
    go_wp2_with fail
    refine (parts_any Q _ r.kind w3 HA.out rfl).mono ?_
    rintro e w4 h4
    obtain ⟨g1, rfl, hg1, hp1, hk4⟩ := h4.some HK1.out
    have HNE := Lib.hid (show ¬ Fr g (.slice none 0 0) g1 from by
      rintro (h | h)
      · have := HS.out.sink.blk.lt; omega
      · simp [Value.ownBlock] at h)
    have HS := Lib.hid (HS.out.kept hk4)
    have HA := Lib.hid (HA.out.keeps hk4)
    have HP1 := Lib.hid hp1
    clear hp1 hk4 h4 hg1
    have hlen := partsL_len r.kind
    have HO := Lib.hid (partsL_off (k := r.kind))
    have HPO := Lib.hid (part_ok (k := r.kind))
    have HPL : Hid (payL r = numsL r (partsL r.kind) ++ r.data) := Lib.hid rfl
    generalize partsL r.kind = l at *
    go_wp2_with fail
    go_loopw [16] (fun i wr => ∃ j : Nat, i = .int .i64 (j : Int) ∧ j ≤ l.length ∧ Hid (∃ vs, Sole w wr g vs (numsL r (l.take j)) ∧ Blk wr Q 30 (recA r (.slice pv r.data.length cv)) ∧ PartsAt wr g1 Q l)) (fun i _ => l.length - (intOf i).toNat)
    case atStart => exact ⟨0, rfl, Nat.zero_le _, Lib.hid ⟨_, HS.out, HA.out, HP1.out⟩⟩
    case round =>
      obtain ⟨j, rfl, hj, HH⟩ := hrel
      clear HS HA HP1
      obtain ⟨vs, hS, hA, hP⟩ := HH.out
      clear HH
      have HNlen : Hid ((numsL r (l.take j)).length ≤ 48) := Lib.hid (by
        have := numsL_len r (l.take j) (fun p hp => (HPO.out p (List.mem_of_mem_take hp)).2.1)
        rw [List.length_take] at this
        omega)
      by_cases hlt : j < l.length
      · obtain ⟨a0, a1, a2, a3⟩ := hP.one hlt
        have hoff := HO.out l[j] (List.getElem_mem hlt)
        obtain ⟨hw1, hw8, hl0, hh1, hh2⟩ := HPO.out l[j] (List.getElem_mem hlt)
        have hok := HOK.out l[j] (List.getElem_mem hlt)
        have hq : wr.cell? ⟨Q, l[j].off, none⟩ = some (.int .i64 (fld r l[j].off)) := by rw [hA.cell]; exact HRA.out _ hoff.2
        have HN := Lib.hid (numsL_next r hlt)
        have hb : l[j].low ≤ fld r l[j].off ∧ fld r l[j].off ≤ l[j].high := by simpa [okP] using hok
        have HPT := Lib.hid (putL_fld (x := fld r l[j].off) (by omega) ⟨hw1, hw8⟩ (by omega))
        clear hok
        generalize l[j] = p at *
        generalize fld r p.off = x at *
        obtain ⟨n, rfl⟩ : ∃ n : Nat, x = (n : Int) := ⟨x.toNat, by omega⟩
        rw [Int.toNat_natCast] at HN HPT
        have hwr : IntKind.u64.wrap (n : Int) = (n : Int) := wrapU (by omega)
        go_upto_region 8 with fail
        obtain ⟨wy, hwy⟩ : ∃ wy, wy = World.alloc wr (Obj.cells #[.int .i64 p.width, .int .i64 p.low, .int .i64 p.high, .pointer (some ⟨Q, p.off, none⟩)] 143) := ⟨_, rfl⟩
        have hky : Keeps wr wy := by rw [hwy]; exact (Keeps.refl _).alloc _
        have hcy0 : wy.cell? ⟨wr.heap.size, 0, none⟩ = some (.int .i64 p.width) := by rw [hwy, (Blk.new wr _ _ rfl).cell]; rfl
        have hcy3 : wy.cell? ⟨wr.heap.size, 3, none⟩ = some (.pointer (some ⟨Q, p.off, none⟩)) := by rw [hwy, (Blk.new wr _ _ rfl).cell]; rfl
        have hqy := keep1 hky hq
        have HSd := Lib.hid ((hS.kept hky).kept (Keeps.refl wy).drew)
        have hne1 : ¬ Fr g vs wr.heap.size := fun h => by have := hS.sink.lt _ h; omega
        have hne2 : ¬ Fr g vs Q := by
          rintro (h | h)
          · have := HGS.out; omega
          · exact hS.sink.own.blk_ne hA (by decide) h
        have hne3 : ¬ Fr g vs g1 := by
          rintro (h | h)
          · exact HNE.out (.inl h)
          · obtain ⟨cs, hb1, -⟩ := hP
            exact hS.sink.own.blk_ne hb1 (by decide) h
        have HA := Lib.hid (hA.keeps hky)
        have HP := Lib.hid (hP.keeps hky)
        rw [← hwy]
        clear hwy a0 a1 a2 a3 hq hky hS hA hP
        refine wp_region_noPanic ?_
        refine wp_region_held_drew (S := fun w' => Mods (Fr g vs) wy w') (by kernel_rfl) ((Mods.refl (Fr g vs) wy).drew) (fun _ => ?_)
        have hHeld : Mods (Fr g vs) wy (wy).drew := (Mods.refl (Fr g vs) wy).drew
        generalize World.drew wy = xs at *
        refine wpAnyH_take (i := 0) (v := ?vv1) (by rfl) (by kernel_rfl) (by kernel_rfl) (by kernel_rfl) (by intro _ _ _ h; exact h) (Or.inl ⟨by kernel_rfl, ?hy1⟩) (by assumption) ?rest1
        case hy1 =>
          intro w' hSw
          have hSw : Mods (Fr g vs) wy w' := hSw
          clear hSw
          go_simp
          try with_reducible rfl
        change wpAnyH _ _ _ _ _ _ _ (Act.put _ (some 20) _) _
        try simp only [Act.put, List.setIfInBounds_toArray, List.set_cons_zero, List.set_cons_succ]
        refine wpAnyH_take (i := 1) (v := ?vv2) (by rfl) (by kernel_rfl) (by kernel_rfl) (by kernel_rfl) (by intro _ _ _ h; exact h) (Or.inl ⟨by kernel_rfl, ?hy2⟩) (by assumption) ?rest2
        case hy2 =>
          intro w' hSw
          have hSw : Mods (Fr g vs) wy w' := hSw
          clear hSw
          go_simp
          try with_reducible rfl
        change wpAnyH _ _ _ _ _ _ _ (Act.put _ (some 21) _) _
        try simp only [Act.put, List.setIfInBounds_toArray, List.set_cons_zero, List.set_cons_succ]
        refine wpAnyH_take (i := 2) (v := ?vv3) (by rfl) (by kernel_rfl) (by kernel_rfl) (by kernel_rfl) (by intro _ _ _ h; exact h) (Or.inl ⟨by kernel_rfl, ?hy3⟩) (by assumption) ?rest3
        case hy3 =>
          intro w' hSw
          have hSw : Mods (Fr g vs) wy w' := hSw
          have hc := hSw.cell hcy3 hne1
          clear hSw
          go_simp
          try with_reducible rfl
        change wpAnyH _ _ _ _ _ _ _ (Act.put _ (some 22) _) _
        try simp only [Act.put, List.setIfInBounds_toArray, List.set_cons_zero, List.set_cons_succ]
        refine wpAnyH_take (i := 3) (v := ?vv4) (by rfl) (by kernel_rfl) (by kernel_rfl) (by kernel_rfl) (by intro _ _ _ h; exact h) (Or.inl ⟨by kernel_rfl, ?hy4⟩) (by assumption) ?rest4
        case hy4 =>
          intro w' hSw
          have hSw : Mods (Fr g vs) wy w' := hSw
          clear hSw
          go_simp
          try with_reducible rfl
        change wpAnyH _ _ _ _ _ _ _ (Act.put _ (some 23) _) _
        try simp only [Act.put, List.setIfInBounds_toArray, List.set_cons_zero, List.set_cons_succ]
        refine wpAnyH_take (i := 4) (v := ?vv5) (by rfl) (by kernel_rfl) (by kernel_rfl) (by kernel_rfl) (by intro _ _ _ h; exact h) (Or.inl ⟨by kernel_rfl, ?hy5⟩) (by assumption) ?rest5
        case hy5 =>
          intro w' hSw
          have hSw : Mods (Fr g vs) wy w' := hSw
          have hc := hSw.cell hqy hne2
          clear hSw
          go_simp
          try with_reducible rfl
        change wpAnyH _ _ _ _ _ _ _ (Act.put _ (some 24) _) _
        try simp only [Act.put, List.setIfInBounds_toArray, List.set_cons_zero, List.set_cons_succ]
        refine wpAnyH_take (i := 5) (v := ?vv6) (by rfl) (by kernel_rfl) (by kernel_rfl) (by kernel_rfl) (by intro _ _ _ h; exact h) (Or.inl ⟨by kernel_rfl, ?hy6⟩) (by assumption) ?rest6
        case hy6 =>
          intro w' hSw
          have hSw : Mods (Fr g vs) wy w' := hSw
          clear hSw
          go_simp
          try with_reducible rfl
        change wpAnyH _ _ _ _ _ _ _ (Act.put _ (some 25) _) _
        try simp only [Act.put, List.setIfInBounds_toArray, List.set_cons_zero, List.set_cons_succ]
        refine wpAnyH_take (i := 6) (v := ?vv7) (by rfl) (by kernel_rfl) (by kernel_rfl) (by kernel_rfl) (by intro _ _ _ h; exact h) (Or.inl ⟨by kernel_rfl, ?hy7⟩) (by assumption) ?rest7
        case hy7 =>
          intro w' hSw
          have hSw : Mods (Fr g vs) wy w' := hSw
          clear hSw
          go_simp
          try with_reducible rfl
        change wpAnyH _ _ _ _ _ _ _ (Act.put _ (some 26) _) _
        try simp only [Act.put, List.setIfInBounds_toArray, List.set_cons_zero, List.set_cons_succ]
        refine wpAnyH_take (i := 7) (v := ?vv8) (by rfl) (by kernel_rfl) (by kernel_rfl) (by kernel_rfl) (by intro _ _ _ h; exact h) (Or.inl ⟨by kernel_rfl, ?hy8⟩) (by assumption) ?rest8
        case hy8 =>
          intro w' hSw
          have hSw : Mods (Fr g vs) wy w' := hSw
          have hc := hSw.cell hcy0 hne1
          clear hSw
          go_simp
          try with_reducible rfl
        change wpAnyH _ _ _ _ _ _ _ (Act.put _ (some 27) _) _
        try simp only [Act.put, List.setIfInBounds_toArray, List.set_cons_zero, List.set_cons_succ]
        refine wpAnyH_ready (rs := [8]) (by kernel_rfl) (by simp) ?_
        refine AllReadyH.cons (o := _) rfl (fun K hK => ?_) ?_
        · go_simp
          refine (sinkU_any g vs _ n (by omega) p.width _ HSd.out.sink (by have := HNlen.out; omega)).mono ?_
          rintro e w6 ⟨vs', rfl, hs6, hm6, hf6⟩
          have hb := hHeld.trans hm6 (fun x h _ => h)
          have HS6 := Lib.hid (HSd.out.did hs6 hm6 hf6)
          clear hs6 hm6 hf6 HSd
          go_wp2_with fail
          refine hK.out _ _ hb (fun _ => ?_)
          clear hK K hHeld
          have hHeld : Mods (Fr g vs) wy w6 := hb
          clear hb
          try simp only [Act.put, List.setIfInBounds_toArray, List.set_cons_zero, List.set_cons_succ]
          refine wpAnyH_done (by kernel_rfl) ?_ _
          refine NoPanic.normal ?_
          go_wp2_with fail
          go_roundw
          case rel =>
            have h6 := HS6.out
            rw [HPT.out, ← HN.out] at h6
            exact ⟨j + 1, by simp, by omega, Lib.hid ⟨_, h6, HA.out.mods hHeld hne2, HP.out.mods hHeld hne3⟩⟩
          case measure =>
            simp only [intOf]
            omega
        exact AllReadyH.nil
      · obtain rfl : j = l.length := by omega
        rw [List.take_length] at hS HNlen
        obtain ⟨a0, a1, a2, a3, a4, a5, a6, a7, a8, a9, a10, a11⟩ := rec12 hA
        have HS := Lib.hid hS
        have HKr := Lib.hid hS.keeps
        clear hS hA hP
        go_wp2_with fail
        refine (sinkRaw_any g vs _ (.slice pv r.data.length cv) r.data wr HS.out.sink (HR.out.keeps HKr.out) (by have := HNlen.out; omega)).mono ?_
        rintro e w7 ⟨vs', rfl, hs7, hm7, hf7⟩
        have HS7 := Lib.hid (HS.out.did hs7 hm7 hf7)
        clear hs7 hm7 hf7
        go_wp2_with fail
        refine (sinkBytes_any g vs' _ w7 HS7.out.sink (by rw [List.length_append]; have := HNlen.out; omega)).mono ?_
        rintro e w8 ⟨v8, rfl, ho8, hk8⟩
        obtain ⟨p8, n8, c8, rfl⟩ := ho8.sl
        have HO8 := Lib.hid (ho8.lower HS7.out.keeps.size)
        have HK8 := Lib.hid (HS7.out.keeps.trans hk8)
        clear ho8 hk8
        go_wp2_with fail
        go_ret2
        exact retSI HO8.out (HX.out.1.trans HPL.out) HX.out.2 HK8.out
  · have hc' : (chk r != 0) = true := by simp [hc]
    have HX : Hid (payO r = []) := Lib.hid (by unfold payO; rw [if_neg hc])
    clear hc
    go_wp2_with fail
    go_ret2
    exact retSI (l' := []) (Own.nil _ _ _) HX.out rfl HK.out

set_option maxRecDepth 100000 in
set_option maxHeartbeats 2000000 in
theorem frame_any (r : Rec) (v : Value) (w : World) (hr : Row w v (r.data.map u8v)) :
    Calls Try.prog 40 #[.agg (recA r v)] w (RetSI w (frmL r) (chk r)) := by
  obtain ⟨pv, cv, rfl, -, -⟩ := hr.form
  have hnl : (List.map u8v r.data).length = r.data.length := by simp
  rw [hnl] at hr ⊢
  clear hnl
  have HR := Lib.hid hr
  clear hr
  have HPA := Lib.hid (fun w h => payload_any r (.slice pv r.data.length cv) w h)
  have HPL : Hid (payL r = numsL r (partsL r.kind) ++ r.data) := Lib.hid rfl
  have HNL := Lib.hid (numsL_len r (partsL r.kind) (fun p hp => (part_ok p hp).2.1))
  have HLN := Lib.hid (partsL_len r.kind)
  unfold recA
  go_enter Try.func40, Try.ntmps40
  go_upto_region 1 with fail
  generalize hW : World.alloc w _ = w1
  have HK := Lib.hid (show Keeps w w1 from by rw [← hW]; exact (Keeps.refl _).alloc _)
  have HA := Lib.hid (show Blk w1 w.heap.size 30 (recA r (.slice pv r.data.length cv)) from by rw [← hW]; exact Blk.new _ _ _ rfl)
  clear hW
  obtain ⟨Q, hQ⟩ : ∃ Q, Q = w.heap.size := ⟨_, rfl⟩
  rw [← hQ] at HA ⊢
  clear hQ
  obtain ⟨a0, a1, a2, a3, a4, a5, a6, a7, a8, a9, a10, a11⟩ := rec12 HA.out
  go_wp2_with fail
  refine (HPA.out w1 (HR.out.keeps HK.out)).mono ?_
  rintro e w2 ⟨v2, rfl, ho2, hk2⟩
  obtain ⟨p2, n2, c2, rfl⟩ := ho2.sl
  have HA := Lib.hid (HA.out.keeps hk2)
  have HO := Lib.hid ho2.row
  have HKK := Lib.hid (HK.out.trans hk2)
  clear hk2 ho2 a0 a1 a2 a3 a4 a5 a6 a7 a8 a9 a10 a11
  by_cases hc : chk r = 0
  · obtain ⟨hk, hok, -, hdl, -⟩ := chk_zero hc
    have hX : payO r = payL r := by unfold payO; rw [if_pos hc]
    have HX : Hid (frmL r = wrapL r.kind (payL r) ∧ chk r = wrapE r.kind (payL r).length) := Lib.hid ⟨by unfold frmL; rw [if_pos hc], by
      rw [hc]; unfold wrapE
      rw [if_neg (by omega), if_neg (by rw [HPL.out, List.length_append]; have := HNL.out; have := HLN.out; omega)]⟩
    have hc' : (chk r != 0) = false := by simp [hc]
    rw [hX] at HO
    clear hc hX hok
    obtain ⟨a0, -⟩ := rec12 HA.out
    go_wp2_with fail
    refine (wrap_any r.kind _ (payL r) w2 HO.out).mono ?_
    rintro e w3 ⟨v3, rfl, ho3, hk3⟩
    obtain ⟨p3, n3, c3, rfl⟩ := ho3.sl
    go_wp2_with fail
    go_ret2
    exact retSI (ho3.lower HKK.out.size) HX.out.1 HX.out.2 (HKK.out.trans hk3)
  · have hc' : (chk r != 0) = true := by simp [hc]
    have HX : Hid (frmL r = []) := Lib.hid (by unfold frmL; rw [if_neg hc])
    clear hc
    go_wp2_with fail
    go_ret2
    exact retSI (l' := []) (Own.nil _ _ _) HX.out rfl HKK.out
end Rcd
end Go.Proofs.Ytekkjhjaacjhnaa

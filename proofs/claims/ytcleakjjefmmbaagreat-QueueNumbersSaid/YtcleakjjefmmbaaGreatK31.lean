/- Several texts in one: VdNew, VdAt. -/
import Derived.Test.YtcleakjjefmmbaaGreatK30
/- vdisk.New. -/
namespace Go.Proofs.YtcleakjjefmmbaaGreat
open Go.RowKit Go.Shelf
namespace Vd
open Go.Maps
set_option maxRecDepth 100000 in
set_option maxHeartbeats 8000000 in
theorem new_any (w : World) (v : Value) (fs : List FileX) (h : RowS w 2 v fs.length (fs.flatMap fileC)) (hok : ∀ f ∈ fs, FileOk w f) (cap : Int) : Calls Tryz.prog 8 #[v, .int .i64 cap] w (NewDid w (newD fs cap)) := by
 have HR := Lib.hid h
 have HOK := Lib.hid hok
 obtain ⟨pv, cv, rfl, hl1, hl2⟩ := h.form
 clear h hok
 obtain ⟨n, hn⟩ : ∃ n, n = fs.length := ⟨_, rfl⟩
 rw [← hn] at HR hl1 ⊢
 have HN := Lib.hid hn
 clear hn
 by_cases h1 : cap < 1
 ·have HX : Hid (newD fs cap = none) := Lib.hid (if_pos (.inl h1))
  go_enter Tryz.func8, Tryz.ntmps8
  go_wp2_with fail
  go_ret
  unfold NewDid
  rw [HX.out]
  exact ⟨Keeps.refl _, rfl⟩
 ·by_cases h2 : 4194304 < cap
  ·have HX : Hid (newD fs cap = none) := Lib.hid (if_pos (.inr (.inl h2)))
   go_enter Tryz.func8, Tryz.ntmps8
   go_wp2_with fail
   go_ret
   unfold NewDid
   rw [HX.out]
   exact ⟨Keeps.refl _, rfl⟩
  ·by_cases h3 : 1024 < n
   ·have HX : Hid (newD fs cap = none) := Lib.hid (if_pos (.inr (.inr (by rw [← HN.out]; exact h3))))
    go_enter Tryz.func8, Tryz.ntmps8
    go_wp2_with fail
    go_ret
    unfold NewDid
    rw [HX.out]
    exact ⟨Keeps.refl _, rfl⟩
   ·have HX : Hid (newD fs cap = (newF cap fs [] []).map fun r => ⟨cap, r.1, r.2, r.2, [], false, 0, (-1, 0), (-1, 0)⟩) := Lib.hid (if_neg (by rw [← HN.out]; omega))
    go_enter Tryz.func8, Tryz.ntmps8
    have hmk : ∀ w, (Instr.makeMap 83 none).run Tryz.prog w = .ok (.map (some w.heap.size)) (w.alloc (.map #[] 0)) := fun w => run_makeMap _ w
    have HCB := Lib.hid (show 1 ≤ cap ∧ cap ≤ 4194304 ∧ n ≤ 1024 from by omega)
    go_upto_region 4 with fail
    generalize hW : World.alloc (World.alloc w _) _ = w1
    have HB1 := Lib.hid (show HalfIn w1 (w.heap.size + 1) (newA cap (.slice none 0 0) w.heap.size) w.heap.size (.slice none 0 0) [] cap [] [] from
     {blk := by
       rw [← hW]
       exact Blk.new _ _ _ (by rw [Frm.alloc_size])
      k0 := rfl
      k1 := rfl
      k2 := rfl
      row := World.ownsRow_nil _ _ _ 1
      len := rfl
      nod := fun i h => by simp at h
      names := by
       rw [← hW]
       exact (NamesAt.new w).keeps ((Keeps.refl _).alloc _)
      is := fun p h => by simp at h
      r1 := HCB.out.1
      r2 := HCB.out.2.1
      fr := by simp [bytesN] })
    have HK1 := Lib.hid (show Keeps w w1 from by rw [← hW]; exact ((Keeps.refl _).alloc _).alloc _)
    clear hW hmk
    have hgw : w.heap.size ≤ w.heap.size + 1 := by omega
    have hbw : w.heap.size ≤ w.heap.size := Nat.le_refl _
    obtain ⟨b1, hb1⟩ : ∃ b1, b1 = w.heap.size := ⟨_, rfl⟩
    have HBE := Lib.hid hb1
    obtain ⟨g, hg⟩ : ∃ g, g = w.heap.size + 1 := ⟨_, rfl⟩
    have HGE := Lib.hid (show w.heap.size ≤ g ∧ w.heap.size ≤ b1 ∧ g ≠ b1 from by omega)
    rw [← hg, ← hb1] at HB1 ⊢
    clear hg hb1 hgw hbw
    have HS0 := Lib.hid (show NewSt w w1 g b1 cap fs 0 (.slice none 0 0) [] [] [] from
     {half := HB1.out, keep := HK1.out, gW := HGE.out.1, bW := HGE.out.2.1, nW := fun y hy => by simp [Value.ownBlock] at hy, pW := fun p hp => by simp at hp, sep := List.Pairwise.nil, nodes := fun x hx => by simp at hx, nlen := rfl, llen := Nat.le_refl _, rest := rfl })
    clear HB1 HK1
    go_wp2_with fail
    go_loopw [29] (fun ix wr => ∃ j : Nat, ix = .int .i64 (j : Int) ∧ j ≤ n ∧ Hid (∃ nv nb ns l, NewSt w wr g b1 cap fs j nv nb ns l)) (fun ix _ => n - (RowKit.intOf ix).toNat)
    case atStart => exact ⟨0, rfl, Nat.zero_le _, Lib.hid ⟨_, _, _, _, HS0.out⟩⟩
    case round =>
     obtain ⟨j, rfl, hj, HH⟩ := hrel
     obtain ⟨nv, nb, ns, l, hS⟩ := HH.out
     have HS := Lib.hid hS
     clear hS HH HS0
     obtain ⟨po, co, rfl, -, -⟩ := Frm.ownsRow_form HS.out.half.row
     have hnl : nb.length = j := by rw [HS.out.half.len, HS.out.nlen]
     rw [hnl] at HS
     by_cases hlt : j < n
     ·have hjn : j < fs.length := by rw [← HN.out]; exact hlt
      obtain ⟨f, hf⟩ : ∃ f, f = fs[j] := ⟨_, rfl⟩
      have hfo : FileOk w f := by rw [hf]; exact HOK.out _ (List.getElem_mem hjn)
      have HFO := Lib.hid hfo
      obtain ⟨bb, off, cap', hv, hrg⟩ := rowS_file (by rw [HN.out] at HR; exact HR.out.keeps HS.out.keep) hjn
      simp only [Value.slice.injEq] at hv
      obtain ⟨rfl, -, rfl⟩ := hv
      rw [← hf] at hrg
      have HRG := Lib.hid hrg
      have HDR := Lib.hid (show newF cap (fs.drop j) ns l = if (look l f.1).isSome then none else if namedB f.1 = false then none else if cap - (bytesN ns l : Int) < (f.2.1.length : Int) then none else newF cap (fs.drop (j + 1)) (ns ++ [madeN f.2.1]) (putN l f.1 ns.length) from by
       rw [hf, List.drop_eq_getElem_cons hjn, newF_cons])
      have hlt' : (j : Int) < (n : Int) := by omega
      clear hjn hf hfo hrg
      obtain ⟨x, b, dv⟩ := f
      have HROW := Lib.hid (show Row w dv (b.map u8v) from HFO.out.row)
      have hxn : x.length ≤ 9000000000000000000 := HFO.out.len
      have hxl : x.length ≤ maxLen := by unfold maxLen; omega
      obtain ⟨pd, cd, rfl, -, -⟩ := HROW.out.formB
      simp only at HDR
      go_upto_region 7 with (first
       |refine wpList_ldR rfl fileM HRG.out _ rfl rfl ?_
       |(refine wpList_st (ds := fileA (x, b, .slice pd b.length cd)) rfl fileM (Blk.new _ _ _ rfl) rfl (by simp [fileA, Value.oneCell']) _ _ rfl rfl rfl rfl ?_; intro w6 hB6 hM6))
      have HK6 := Lib.hid (show Keeps wr w6 from hM6.keeps ((Keeps.refl _).alloc _) (fun y hy => by rw [hy]; exact Nat.le_refl _))
      have HB6 := Lib.hid hB6
      obtain ⟨a6, ha6⟩ : ∃ a6, a6 = wr.heap.size := ⟨_, rfl⟩
      rw [← ha6] at HB6 ⊢
      have HA6 := Lib.hid ha6
      clear hB6 hM6 ha6
      have HS6 := Lib.hid (HS.out.half.keeps HK6.out)
      have HW6 := Lib.hid (HS.out.keep.trans HK6.out)
      obtain ⟨-, g1, g2⟩ := HS6.out.cells
      have f0 : w6.cell? ⟨a6, 0, none⟩ = some (.string (bstr x)) := by rw [HB6.out.cell]; rfl
      have f1 : w6.cell? ⟨a6, 1, none⟩ = some (.slice pd b.length cd) := by rw [HB6.out.cell]; rfl
      have HL := Lib.hid (fun w' (k : Keeps w6 w') => (HS6.out.names.keeps k).look_ok hxl)
      have HNA := Lib.hid (fun w0 => (named_any x hxn w0).mono (fun e w' h => show e = .returned (.bool (namedB x)) ∧ Keeps w0 w' from ⟨h.1, by rw [← h.2]; exact Keeps.refl _⟩))
      have HFR := Lib.hid (fun w' (k : Keeps w6 w') => freeH_any w' (HS6.out.keeps k))
      have HEND : Hid (∀ w', Keeps w6 w' → newF cap (fs.drop j) ns l = none → NewDid w (newD fs cap) (.returned (.pointer none)) w') := Lib.hid (fun w' hk he => by
       unfold NewDid
       rw [HX.out, ← HS.out.rest, he]
       exact ⟨HW6.out.trans hk, rfl⟩)
      cases hlk : look l x with
      |some i0 =>
       rw [hlk] at HL
       simp only [Option.getD_some, Option.isSome_some] at HL
       have HE := Lib.hid (fun w' hk => HEND.out w' hk (by rw [HDR.out, hlk]; rfl))
       clear HEND HDR hlk
       refine wp_region_noPanic ?_
       refine wp_region_held_drew (S := fun w' => Keeps (w6) w') (by kernel_rfl) ((Keeps.refl _).drew) (fun _ => ?_)
       have hHeld : Keeps (w6) (w6).drew := (Keeps.refl _).drew
       refine tq 0 34 ?_
       refine tq 1 35 ?_
       refine tq 2 36 ?_
       refine tq 3 37 ?_ (hy := fun w' hSw => by
        have hSw : Keeps _ w' := hSw
        have hx := keep1 hSw g2
        clear hSw
        go_simp
        try with_reducible rfl)
       refine tq 4 38 ?_
       refine tq 5 39 ?_ (hy := fun w' hSw => by
        have hSw : Keeps _ w' := hSw
        have hx := keep1 hSw f0
        clear hSw
        go_simp
        try with_reducible rfl)
       refine tq 6 40 ?_ (hy := fun w' hSw => by
        have hSw : Keeps _ w' := hSw
        have hx := HL.out w' hSw
        clear hSw
        go_simp
        try with_reducible rfl)
       refine tq 7 33 ?_
       refine tq 8 41 ?_
       refine tq 9 42 ?_
       refine tq 10 8 ?_
       refine tq 11 9 ?_
       refine wpAnyH_done (by kernel_rfl) ?_ _
       refine NoPanic.normal ?_
       have HK7 := Lib.hid (show Keeps w6 w6.drew from (Keeps.refl w6).drew)
       generalize w6.drew = w7 at *
       go_upto_region 8 with fail
       refine wp_region_noPanic ?_
       refine wp_region_held_drew (S := fun w' => Keeps (w7) w') (by kernel_rfl) ((Keeps.refl _).drew) (fun _ => ?_)
       have hHeld : Keeps (w7) (w7).drew := (Keeps.refl _).drew
       refine tq 0 43 ?_
       refine tq 1 44 ?_
       refine wpAnyH_take (i := 2) (v := undef) (by rfl) (by kernel_rfl) (by kernel_rfl) (by kernel_rfl) (by intro _ _ _ h; exact h) (Or.inr ⟨by kernel_rfl, rfl⟩) (by assumption) ?rest15
       change wpAnyH _ _ _ _ _ _ _ (Act.put _ (some 45) _) _
       try simp only [Act.put, List.setIfInBounds_toArray, List.set_cons_zero, List.set_cons_succ]
       refine wpAnyH_take (i := 3) (v := undef) (by rfl) (by kernel_rfl) (by kernel_rfl) (by kernel_rfl) (by intro _ _ _ h; exact h) (Or.inr ⟨by kernel_rfl, rfl⟩) (by assumption) ?rest16
       change wpAnyH _ _ _ _ _ _ _ (Act.put _ (some 46) _) _
       try simp only [Act.put, List.setIfInBounds_toArray, List.set_cons_zero, List.set_cons_succ]
       refine wpAnyH_take (i := 4) (v := undef) (by rfl) (by kernel_rfl) (by kernel_rfl) (by kernel_rfl) (by intro _ _ _ h; exact h) (Or.inr ⟨by kernel_rfl, rfl⟩) (by assumption) ?rest17
       change wpAnyH _ _ _ _ _ _ _ (Act.put _ (some 47) _) _
       try simp only [Act.put, List.setIfInBounds_toArray, List.set_cons_zero, List.set_cons_succ]
       refine wpAnyH_take (i := 5) (v := undef) (by rfl) (by kernel_rfl) (by kernel_rfl) (by kernel_rfl) (by intro _ _ _ h; exact h) (Or.inr ⟨by kernel_rfl, rfl⟩) (by assumption) ?rest18
       change wpAnyH _ _ _ _ _ _ _ (Act.put _ (some 48) _) _
       try simp only [Act.put, List.setIfInBounds_toArray, List.set_cons_zero, List.set_cons_succ]
       refine tq 6 49 ?_
       refine tq 7 50 ?_
       refine wpAnyH_take (i := 8) (v := undef) (by rfl) (by kernel_rfl) (by kernel_rfl) (by kernel_rfl) (by intro _ _ _ h; exact h) (Or.inr ⟨by kernel_rfl, rfl⟩) (by assumption) ?rest21
       change wpAnyH _ _ _ _ _ _ _ (Act.put _ (some 51) _) _
       try simp only [Act.put, List.setIfInBounds_toArray, List.set_cons_zero, List.set_cons_succ]
       refine wpAnyH_take (i := 9) (v := undef) (by rfl) (by kernel_rfl) (by kernel_rfl) (by kernel_rfl) (by intro _ _ _ h; exact h) (Or.inr ⟨by kernel_rfl, rfl⟩) (by assumption) ?rest22
       change wpAnyH _ _ _ _ _ _ _ (Act.put _ (some 52) _) _
       try simp only [Act.put, List.setIfInBounds_toArray, List.set_cons_zero, List.set_cons_succ]
       refine wpAnyH_take (i := 10) (v := undef) (by rfl) (by kernel_rfl) (by kernel_rfl) (by kernel_rfl) (by intro _ _ _ h; exact h) (Or.inr ⟨by kernel_rfl, rfl⟩) (by assumption) ?rest23
       change wpAnyH _ _ _ _ _ _ _ (Act.put _ (some 53) _) _
       try simp only [Act.put, List.setIfInBounds_toArray, List.set_cons_zero, List.set_cons_succ]
       refine wpAnyH_take (i := 11) (v := undef) (by rfl) (by kernel_rfl) (by kernel_rfl) (by kernel_rfl) (by intro _ _ _ h; exact h) (Or.inr ⟨by kernel_rfl, rfl⟩) (by assumption) ?rest24
       change wpAnyH _ _ _ _ _ _ _ (Act.put _ (some 54) _) _
       try simp only [Act.put, List.setIfInBounds_toArray, List.set_cons_zero, List.set_cons_succ]
       refine wpAnyH_take (i := 12) (v := undef) (by rfl) (by kernel_rfl) (by kernel_rfl) (by kernel_rfl) (by intro _ _ _ h; exact h) (Or.inr ⟨by kernel_rfl, rfl⟩) (by assumption) ?rest25
       change wpAnyH _ _ _ _ _ _ _ (Act.put _ (some 55) _) _
       try simp only [Act.put, List.setIfInBounds_toArray, List.set_cons_zero, List.set_cons_succ]
       refine wpAnyH_take (i := 13) (v := undef) (by rfl) (by kernel_rfl) (by kernel_rfl) (by kernel_rfl) (by intro _ _ _ h; exact h) (Or.inr ⟨by kernel_rfl, rfl⟩) (by assumption) ?rest26
       change wpAnyH _ _ _ _ _ _ _ (Act.put _ (some 56) _) _
       try simp only [Act.put, List.setIfInBounds_toArray, List.set_cons_zero, List.set_cons_succ]
       refine tq 14 57 ?_
       refine wpAnyH_done (by kernel_rfl) ?_ _
       refine NoPanic.normal ?_
       have HK8 := Lib.hid (HK7.out.trans (show Keeps w7 w7.drew from (Keeps.refl w7).drew))
       generalize w7.drew = w8 at *
       go_wp2_with fail
       go_ret
       exact HE.out _ HK8.out
      |none =>
       rw [hlk] at HL
       simp only [Option.getD_none, Option.isSome_none] at HL
       cases hnx : namedB x with
       |false =>
        have HE := Lib.hid (fun w' hk => HEND.out w' hk (by rw [HDR.out, hlk, if_neg (by simp), if_pos hnx]))
        rw [hnx] at HNA
        clear HEND HDR hlk hnx
        refine wp_region_noPanic ?_
        refine wp_region_held_drew (S := fun w' => Keeps (w6) w') (by kernel_rfl) ((Keeps.refl _).drew) (fun _ => ?_)
        have hHeld : Keeps (w6) (w6).drew := (Keeps.refl _).drew
        refine tq 0 34 ?_
        refine tq 1 35 ?_
        refine tq 2 36 ?_
        refine tq 3 37 ?_ (hy := fun w' hSw => by
         have hSw : Keeps _ w' := hSw
         have hx := keep1 hSw g2
         clear hSw
         go_simp
         try with_reducible rfl)
        refine tq 4 38 ?_
        refine tq 5 39 ?_ (hy := fun w' hSw => by
         have hSw : Keeps _ w' := hSw
         have hx := keep1 hSw f0
         clear hSw
         go_simp
         try with_reducible rfl)
        refine tq 6 40 ?_ (hy := fun w' hSw => by
         have hSw : Keeps _ w' := hSw
         have hx := HL.out w' hSw
         clear hSw
         go_simp
         try with_reducible rfl)
        refine tq 7 33 ?_
        refine tq 8 41 ?_
        refine tq 9 42 ?_
        refine tq 10 8 ?_
        refine tq 11 9 ?_
        refine wpAnyH_done (by kernel_rfl) ?_ _
        refine NoPanic.normal ?_
        have HK7 := Lib.hid (show Keeps w6 w6.drew from (Keeps.refl w6).drew)
        generalize w6.drew = w7 at *
        go_upto_region 8 with fail
        have f07 := keep1 HK7.out f0
        refine wp_region_noPanic ?_
        refine wp_region_held_drew (S := fun w' => Keeps (w7) w') (by kernel_rfl) ((Keeps.refl _).drew) (fun _ => ?_)
        have hHeld : Keeps (w7) (w7).drew := (Keeps.refl _).drew
        refine tq 0 43 ?_
        refine tq 1 44 ?_
        refine tq 2 45 ?_
        refine tq 3 46 ?_ (hy := fun w' hSw => by
         have hSw : Keeps _ w' := hSw
         have hx := keep1 hSw f07
         clear hSw
         go_simp
         try with_reducible rfl)
        refine rd1 4 (fun K hK => ?_)
        go_simp
        refine (HNA.out _).mono ?_
        rintro e w8 ⟨rfl, hk⟩
        have hb : Keeps _ w8 := hHeld.trans hk
        have HK8 := Lib.hid (HK7.out.trans hb)
        go_wp2_with fail
        refine bk1 hK hb ?_
        clear hK K hHeld hb hk
        intro hHeld
        refine tq 5 48 ?_
        refine tq 6 49 ?_
        refine tq 7 50 ?_
        refine wpAnyH_take (i := 8) (v := undef) (by rfl) (by kernel_rfl) (by kernel_rfl) (by kernel_rfl) (by intro _ _ _ h; exact h) (Or.inr ⟨by kernel_rfl, rfl⟩) (by assumption) ?rest47
        change wpAnyH _ _ _ _ _ _ _ (Act.put _ (some 51) _) _
        try simp only [Act.put, List.setIfInBounds_toArray, List.set_cons_zero, List.set_cons_succ]
        refine wpAnyH_take (i := 9) (v := undef) (by rfl) (by kernel_rfl) (by kernel_rfl) (by kernel_rfl) (by intro _ _ _ h; exact h) (Or.inr ⟨by kernel_rfl, rfl⟩) (by assumption) ?rest48
        change wpAnyH _ _ _ _ _ _ _ (Act.put _ (some 52) _) _
        try simp only [Act.put, List.setIfInBounds_toArray, List.set_cons_zero, List.set_cons_succ]
        refine wpAnyH_take (i := 10) (v := undef) (by rfl) (by kernel_rfl) (by kernel_rfl) (by kernel_rfl) (by intro _ _ _ h; exact h) (Or.inr ⟨by kernel_rfl, rfl⟩) (by assumption) ?rest49
        change wpAnyH _ _ _ _ _ _ _ (Act.put _ (some 53) _) _
        try simp only [Act.put, List.setIfInBounds_toArray, List.set_cons_zero, List.set_cons_succ]
        refine wpAnyH_take (i := 11) (v := undef) (by rfl) (by kernel_rfl) (by kernel_rfl) (by kernel_rfl) (by intro _ _ _ h; exact h) (Or.inr ⟨by kernel_rfl, rfl⟩) (by assumption) ?rest50
        change wpAnyH _ _ _ _ _ _ _ (Act.put _ (some 54) _) _
        try simp only [Act.put, List.setIfInBounds_toArray, List.set_cons_zero, List.set_cons_succ]
        refine wpAnyH_take (i := 12) (v := undef) (by rfl) (by kernel_rfl) (by kernel_rfl) (by kernel_rfl) (by intro _ _ _ h; exact h) (Or.inr ⟨by kernel_rfl, rfl⟩) (by assumption) ?rest51
        change wpAnyH _ _ _ _ _ _ _ (Act.put _ (some 55) _) _
        try simp only [Act.put, List.setIfInBounds_toArray, List.set_cons_zero, List.set_cons_succ]
        refine wpAnyH_take (i := 13) (v := undef) (by rfl) (by kernel_rfl) (by kernel_rfl) (by kernel_rfl) (by intro _ _ _ h; exact h) (Or.inr ⟨by kernel_rfl, rfl⟩) (by assumption) ?rest52
        change wpAnyH _ _ _ _ _ _ _ (Act.put _ (some 56) _) _
        try simp only [Act.put, List.setIfInBounds_toArray, List.set_cons_zero, List.set_cons_succ]
        refine tq 14 57 ?_
        refine wpAnyH_done (by kernel_rfl) ?_ _
        refine NoPanic.normal ?_
        go_wp2_with fail
        go_ret
        exact HE.out _ HK8.out
       |true =>
        rw [hnx] at HNA
        have HNX := Lib.hid hnx
        by_cases hfit : cap - (bytesN ns l : Int) < (b.length : Int)
        ·have HE := Lib.hid (fun w' hk => HEND.out w' hk (by rw [HDR.out, hlk, if_neg (by simp), if_neg (by simp [hnx]), if_pos hfit]))
         have ht : decide (cap - (bytesN ns l : Int) < (b.length : Int)) = true := by simp [hfit]
         clear HEND HDR hlk hnx hfit
         refine wp_region_noPanic ?_
         refine wp_region_held_drew (S := fun w' => Keeps (w6) w') (by kernel_rfl) ((Keeps.refl _).drew) (fun _ => ?_)
         have hHeld : Keeps (w6) (w6).drew := (Keeps.refl _).drew
         refine tq 0 34 ?_
         refine tq 1 35 ?_
         refine tq 2 36 ?_
         refine tq 3 37 ?_ (hy := fun w' hSw => by
          have hSw : Keeps _ w' := hSw
          have hx := keep1 hSw g2
          clear hSw
          go_simp
          try with_reducible rfl)
         refine tq 4 38 ?_
         refine tq 5 39 ?_ (hy := fun w' hSw => by
          have hSw : Keeps _ w' := hSw
          have hx := keep1 hSw f0
          clear hSw
          go_simp
          try with_reducible rfl)
         refine tq 6 40 ?_ (hy := fun w' hSw => by
          have hSw : Keeps _ w' := hSw
          have hx := HL.out w' hSw
          clear hSw
          go_simp
          try with_reducible rfl)
         refine tq 7 33 ?_
         refine tq 8 41 ?_
         refine tq 9 42 ?_
         refine tq 10 8 ?_
         refine tq 11 9 ?_
         refine wpAnyH_done (by kernel_rfl) ?_ _
         refine NoPanic.normal ?_
         have HK7 := Lib.hid (show Keeps w6 w6.drew from (Keeps.refl w6).drew)
         generalize w6.drew = w7 at *
         go_upto_region 8 with fail
         have f07 := keep1 HK7.out f0
         refine wp_region_noPanic ?_
         refine wp_region_held_drew (S := fun w' => Keeps (w7) w') (by kernel_rfl) ((Keeps.refl _).drew) (fun _ => ?_)
         have hHeld : Keeps (w7) (w7).drew := (Keeps.refl _).drew
         refine tq 0 43 ?_
         refine tq 1 44 ?_
         refine tq 2 45 ?_
         refine tq 3 46 ?_ (hy := fun w' hSw => by
          have hSw : Keeps _ w' := hSw
          have hx := keep1 hSw f07
          clear hSw
          go_simp
          try with_reducible rfl)
         refine rd1 4 (fun K hK => ?_)
         go_simp
         refine (HNA.out _).mono ?_
         rintro e w8 ⟨rfl, hk⟩
         have hb : Keeps _ w8 := hHeld.trans hk
         have HK8 := Lib.hid (HK7.out.trans hb)
         have f18 := keep1 HK8.out f1
         go_wp2_with fail
         refine bk1 hK hb ?_
         clear hK K hHeld hb hk
         intro hHeld
         refine tq 5 48 ?_
         refine tq 6 49 ?_
         refine tq 7 50 ?_
         refine tq 8 51 ?_
         refine tq 9 52 ?_ (hy := fun w' hSw => by
          have hSw : Keeps _ w' := hSw
          have hx := keep1 hSw f18
          clear hSw
          go_simp
          try with_reducible rfl)
         refine tq 10 53 ?_
         refine tq 11 54 ?_
         refine rd1 12 (fun K hK => ?_)
         go_simp
         refine (HFR.out _ (HK8.out.trans hHeld)).mono ?_
         rintro e w9 ⟨rfl, hk⟩
         have hb : Keeps _ w9 := hHeld.trans hk
         have HK9 := Lib.hid (HK8.out.trans hb)
         go_wp2_with fail
         refine bk1 hK hb ?_
         clear hK K hHeld hb hk
         intro hHeld
         refine tq 13 56 ?_
         refine tq 14 57 ?_
         refine wpAnyH_done (by kernel_rfl) ?_ _
         refine NoPanic.normal ?_
         go_wp2_with fail
         go_ret
         exact HE.out _ HK9.out
        ·have HRST := Lib.hid (show newF cap (fs.drop (j + 1)) (ns ++ [madeN b]) (putN l x ns.length) = newF cap fs [] [] from by
          rw [← HS.out.rest, HDR.out, hlk, if_neg (by simp), if_neg (by simp [hnx]), if_neg hfit])
         have ht : decide (cap - (bytesN ns l : Int) < (b.length : Int)) = false := by simp [hfit]
         have HFIT := Lib.hid hfit
         have HLK := Lib.hid hlk
         clear HEND HDR hlk hnx hfit
         refine wp_region_noPanic ?_
         refine wp_region_held_drew (S := fun w' => Keeps (w6) w') (by kernel_rfl) ((Keeps.refl _).drew) (fun _ => ?_)
         have hHeld : Keeps (w6) (w6).drew := (Keeps.refl _).drew
         refine tq 0 34 ?_
         refine tq 1 35 ?_
         refine tq 2 36 ?_
         refine tq 3 37 ?_ (hy := fun w' hSw => by
          have hSw : Keeps _ w' := hSw
          have hx := keep1 hSw g2
          clear hSw
          go_simp
          try with_reducible rfl)
         refine tq 4 38 ?_
         refine tq 5 39 ?_ (hy := fun w' hSw => by
          have hSw : Keeps _ w' := hSw
          have hx := keep1 hSw f0
          clear hSw
          go_simp
          try with_reducible rfl)
         refine tq 6 40 ?_ (hy := fun w' hSw => by
          have hSw : Keeps _ w' := hSw
          have hx := HL.out w' hSw
          clear hSw
          go_simp
          try with_reducible rfl)
         refine tq 7 33 ?_
         refine tq 8 41 ?_
         refine tq 9 42 ?_
         refine tq 10 8 ?_
         refine tq 11 9 ?_
         refine wpAnyH_done (by kernel_rfl) ?_ _
         refine NoPanic.normal ?_
         have HK7 := Lib.hid (show Keeps w6 w6.drew from (Keeps.refl w6).drew)
         generalize w6.drew = w7 at *
         go_upto_region 8 with fail
         have f07 := keep1 HK7.out f0
         refine wp_region_noPanic ?_
         refine wp_region_held_drew (S := fun w' => Keeps (w7) w') (by kernel_rfl) ((Keeps.refl _).drew) (fun _ => ?_)
         have hHeld : Keeps (w7) (w7).drew := (Keeps.refl _).drew
         refine tq 0 43 ?_
         refine tq 1 44 ?_
         refine tq 2 45 ?_
         refine tq 3 46 ?_ (hy := fun w' hSw => by
          have hSw : Keeps _ w' := hSw
          have hx := keep1 hSw f07
          clear hSw
          go_simp
          try with_reducible rfl)
         refine rd1 4 (fun K hK => ?_)
         go_simp
         refine (HNA.out _).mono ?_
         rintro e w8 ⟨rfl, hk⟩
         have hb : Keeps _ w8 := hHeld.trans hk
         have HK8 := Lib.hid (HK7.out.trans hb)
         have f18 := keep1 HK8.out f1
         go_wp2_with fail
         refine bk1 hK hb ?_
         clear hK K hHeld hb hk
         intro hHeld
         refine tq 5 48 ?_
         refine tq 6 49 ?_
         refine tq 7 50 ?_
         refine tq 8 51 ?_
         refine tq 9 52 ?_ (hy := fun w' hSw => by
          have hSw : Keeps _ w' := hSw
          have hx := keep1 hSw f18
          clear hSw
          go_simp
          try with_reducible rfl)
         refine tq 10 53 ?_
         refine tq 11 54 ?_
         refine rd1 12 (fun K hK => ?_)
         go_simp
         refine (HFR.out _ (HK8.out.trans hHeld)).mono ?_
         rintro e w9 ⟨rfl, hk⟩
         have hb : Keeps _ w9 := hHeld.trans hk
         have HK9 := Lib.hid (HK8.out.trans hb)
         go_wp2_with fail
         refine bk1 hK hb ?_
         clear hK K hHeld hb hk
         intro hHeld
         refine tq 13 56 ?_
         refine tq 14 57 ?_
         refine wpAnyH_done (by kernel_rfl) ?_ _
         refine NoPanic.normal ?_
         go_upto_region 10 with fail
         have HS9 := Lib.hid (HS6.out.keeps HK9.out)
         have HB9 := Lib.hid (HB6.out.keeps HK9.out)
         have HNd := Lib.hid (HS9.out.names.keeps (Keeps.refl w9).drew)
         have HGB := Lib.hid (show g ≠ b1 from fun e => names_ty HS9.out.names ⟨_, HS9.out.blk⟩ e.symm)
         have HAB := Lib.hid (show a6 ≠ b1 from fun e => names_ty HS9.out.names ⟨_, HB9.out⟩ e.symm)
         have HAG := Lib.hid (show a6 ≠ g from fun e => Ty.ne ⟨_, HB9.out⟩ ⟨_, HS9.out.blk⟩ (by decide) e)
         have HAN := Lib.hid (show (Value.slice po j co).ownBlock ≠ some a6 from fun e => Ty.ne (owns_ty HS9.out.row e) ⟨_, HB9.out⟩ (by decide) rfl)
         have hll : l.length < 1000000 := by have := HS.out.llen; omega
         have hj24 : j < 1024 := by omega
         clear f18 f07 f0 f1 g1 g2 HL HNA HFR
         go_cut [] (fun wx => Hid (NamesAt wx b1 (l.length + 1) (putN l x j) ∧ Mods (· = b1) w9 wx))
         case first =>
          refine wp_region_noPanic ?_
          refine wp_region_held_drew (S := fun w' => Mods (· = b1) w9 w') (by kernel_rfl) ((Mods.refl (· = b1) w9).drew) (fun _ => ?_)
          have hHeld : Mods (· = b1) w9 (w9).drew := (Mods.refl (· = b1) w9).drew
          generalize World.drew w9 = xs at *
          refine tq 0 58 ?_
          refine tq 1 59 ?_
          refine tq 2 60 ?_
          refine tq 3 61 ?_ (hy := fun w' hSw => by
           have hSw : Mods (· = b1) w9 w' := hSw
           have hBq := HS9.out.blk.mods hSw (fun e => HGB.out e)
           have hx0 : World.cell? w' ⟨g, 2, none⟩ = some (.map (some b1)) := by rw [hBq.cell]; rfl
           clear hSw
           go_simp
           try with_reducible rfl)
          refine tq 4 62 ?_
          refine tq 5 63 ?_ (hy := fun w' hSw => by
           have hSw : Mods (· = b1) w9 w' := hSw
           have hBq := HB9.out.mods hSw (fun e => HAB.out e)
           have hx0 : World.cell? w' ⟨a6, 0, none⟩ = some (.string (bstr x)) := by rw [hBq.cell]; rfl
           clear hSw
           go_simp
           try with_reducible rfl)
          refine tq 6 64 ?_
          refine tq 7 65 ?_
          refine tq 8 66 ?_
          refine tq 9 67 ?_ (hy := fun w' hSw => by
           have hSw : Mods (· = b1) w9 w' := hSw
           have hBq := HS9.out.blk.mods hSw (fun e => HGB.out e)
           have hx0 : World.cell? w' ⟨g, 1, none⟩ = some (.slice po j co) := by rw [hBq.cell]; rfl
           clear hSw
           go_simp
           try with_reducible rfl)
          refine tq 10 68 ?_
          refine rd1 11 (fun K hK => ?_)
          obtain ⟨yF, hrun, hnam, hM⟩ := HNd.out.put hll hxl j
          have hrun : (Instr.mapUpdate 83 (.map (some b1)) (.string (bstr x)) (.int .i64 (j : Int))).run Tryz.prog xs = .ok () yF := hrun
          go_simp
          have hb := hHeld.trans hM (fun x h _ => h)
          have HNF := Lib.hid hnam
          clear hrun hnam hM
          refine bkm hK hb ?_
          clear hK K hHeld
          have hHeld : Mods (· = b1) w9 yF := hb
          clear hb
          refine wpAnyH_done (by kernel_rfl) ?_ _
          refine NoPanic.normal ?_
          go_wp2_with fail
          go_meet
          exact Lib.hid ⟨HNF.out, hHeld⟩
         case rest =>
         obtain ⟨w10, rfl⟩ : ∃ z : World, z = wc := ⟨_, rfl⟩
         have HM10 := Lib.hid hcut.out.2
         have HN10 := Lib.hid hcut.out.1
         have HG10 := Lib.hid (HS9.out.blk.mods HM10.out (fun e => HGB.out e))
         have HB10 := Lib.hid (HB9.out.mods HM10.out (fun e => HAB.out e))
         have HR10 := Lib.hid (show w10.ownsRow 0 92 1 (Value.slice po j co) j (nb.map fun p => Value.pointer (some ⟨p.1, 0, none⟩)) from by
          have := Frm.ownsRow_mods HS9.out.row HM10.out (fun y hy e => names_ty HS9.out.names (owns_ty HS9.out.row hy) e.symm)
          rw [hnl] at this
          exact this)
         have HW10 := Lib.hid (HM10.out.keeps (HW6.out.trans HK9.out) (fun y hy => by subst hy; exact HS.out.bW))
         have HTW := Lib.hid (show ∀ y, (y = g ∨ (Value.slice po j co).ownBlock = some y) → w.heap.size ≤ y from fun y hy => hy.elim (fun e => by subst e; exact HS.out.gW) (HS.out.nW y))
         have HX := Lib.hid HG10.out.drew
         have HR := Lib.hid (Frm.ownsRow_keeps HR10.out (Keeps.refl w10).drew)
         have HBL := Lib.hid (show b.length ≤ 4194304 from by have := HFIT.out; have := HCB.out; omega)
         have HNG : Hid ((Value.slice po j co).ownBlock ≠ some g) := Lib.hid (fun e => Ty.ne (owns_ty HS9.out.row e) ⟨_, HS9.out.blk⟩ (by decide) rfl)
         clear hcut
         go_upto_region 11 with fail
         refine wp_region_noPanic ?_
         refine wp_region_held_drew (S := fun w' => Mods (fun y => y = g ∨ (Value.slice po j co).ownBlock = some y) w10 w') (by kernel_rfl) ((Mods.refl (fun y => y = g ∨ (Value.slice po j co).ownBlock = some y) w10).drew) (fun _ => ?_)
         have hHeld : Mods (fun y => y = g ∨ (Value.slice po j co).ownBlock = some y) w10 (w10).drew := (Mods.refl (fun y => y = g ∨ (Value.slice po j co).ownBlock = some y) w10).drew
         generalize World.drew w10 = xs at *
         refine tq 0 69 ?_
         refine tq 1 70 ?_
         refine tq 2 71 ?_
         refine tq 3 72 ?_
         refine tq 5 74 ?_
         refine tq 6 75 ?_ (hy := fun w' hSw => by
          have hSw : Mods (fun y => y = g ∨ (Value.slice po j co).ownBlock = some y) w10 w' := hSw
          have hBq := HB10.out.mods hSw (fun hh => hh.elim (fun e => HAG.out e) HAN.out)
          have hx1 : World.cell? w' ⟨a6, 1, none⟩ = some (.slice pd b.length cd) := by rw [hBq.cell]; rfl
          clear hSw
          go_simp
          try with_reducible rfl)
         refine tq 7 76 ?_ (hy := fun w' hSw => by
          have hSw : Mods (fun y => y = g ∨ (Value.slice po j co).ownBlock = some y) w10 w' := hSw
          have hc := Frm.str_at' (HROW.out.keeps (hSw.keeps HW10.out HTW.out))
          clear hSw
          go_simp
          try with_reducible rfl)
         refine tq 8 77 ?_
         refine tq 9 78 ?_ (hy := fun w' hSw => by
          have hSw : Mods (fun y => y = g ∨ (Value.slice po j co).ownBlock = some y) w10 w' := hSw
          have hBq := HB10.out.mods hSw (fun hh => hh.elim (fun e => HAG.out e) HAN.out)
          have hx1 : World.cell? w' ⟨a6, 1, none⟩ = some (.slice pd b.length cd) := by rw [hBq.cell]; rfl
          clear hSw
          go_simp
          try with_reducible rfl)
         refine tq 10 79 ?_ (hy := fun w' hSw => by
          have hSw : Mods (fun y => y = g ∨ (Value.slice po j co).ownBlock = some y) w10 w' := hSw
          have hc := Frm.str_at' (HROW.out.keeps (hSw.keeps HW10.out HTW.out))
          clear hSw
          go_simp
          try with_reducible rfl)
         refine tq 11 80 ?_
         refine wpAnyH_ready (rs := [4, 12]) (by kernel_rfl) (by simp) ?_
         refine AllReadyH.cons (o := _) rfl (fun K hK => ?_) ?_
         ·have hx : World.cell? xs ⟨g, 1, none⟩ = some (Value.slice po j co) := by rw [HX.out.cell]; rfl
          go_simp
          clear hx
          have hb := hHeld
          refine bkm hK hb ?_
          clear hK K hHeld
          have hHeld : Mods (fun y => y = g ∨ (Value.slice po j co).ownBlock = some y) w10 xs := hb
          clear hb
          refine rd1 12 (fun K hK => ?_)
          go_simp
          obtain ⟨k, hk0⟩ : ∃ z, z = (World.heap xs).size := ⟨_, rfl⟩
          have HKB : Hid (Blk (World.alloc xs (.cells #[.string (bstr b), .string (bstr b), .slice none 0 0, .bool false] 95)) k 95 #[.string (bstr b), .string (bstr b), .slice none 0 0, .bool false]) := Lib.hid (Blk.new _ _ _ hk0)
          have HX := Lib.hid (HX.out.alloc (.cells #[.string (bstr b), .string (bstr b), .slice none 0 0, .bool false] 95))
          have HR := Lib.hid (Frm.ownsRow_keeps HR.out ((Keeps.refl _).alloc (.cells #[.string (bstr b), .string (bstr b), .slice none 0 0, .bool false] 95)))
          have hb := hHeld.alloc (.cells #[.string (bstr b), .string (bstr b), .slice none 0 0, .bool false] 95)
          have HKZ := Lib.hid (show w10.heap.size ≤ k from by rw [hk0]; exact hHeld.size)
          rw [← hk0]
          clear hk0
          generalize World.alloc xs (.cells #[.string (bstr b), .string (bstr b), .slice none 0 0, .bool false] 95) = x12 at *
          refine bkm hK hb ?_
          clear hK K hHeld
          have hHeld : Mods (fun y => y = g ∨ (Value.slice po j co).ownBlock = some y) w10 x12 := hb
          clear hb
          refine rd1 13 (fun K hK => ?_)
          go_simp
          obtain ⟨b6, hb6⟩ : ∃ z, z = (World.heap x12).size := ⟨_, rfl⟩
          have HB6 : Hid (Blk (World.alloc x12 (.cells #[.pointer (some ⟨k, 0, none⟩)] 92)) b6 92 #[.pointer (some ⟨k, 0, none⟩)]) := Lib.hid (Blk.new _ _ _ hb6)
          have HX := Lib.hid (HX.out.alloc (.cells #[.pointer (some ⟨k, 0, none⟩)] 92))
          have HR := Lib.hid (Frm.ownsRow_keeps HR.out ((Keeps.refl _).alloc (.cells #[.pointer (some ⟨k, 0, none⟩)] 92)))
          have HKB := Lib.hid (HKB.out.alloc (.cells #[.pointer (some ⟨k, 0, none⟩)] 92))
          have hb := hHeld.alloc (.cells #[.pointer (some ⟨k, 0, none⟩)] 92)
          have HBB := Lib.hid hb6
          clear hb6
          generalize World.alloc x12 (.cells #[.pointer (some ⟨k, 0, none⟩)] 92) = x13 at *
          refine bkm hK hb ?_
          clear hK K hHeld
          have hHeld : Mods (fun y => y = g ∨ (Value.slice po j co).ownBlock = some y) w10 x13 := hb
          clear hb
          refine rd1 14 (fun K hK => ?_)
          refine step_appF (base := 0) nodok (by decide) rfl _ _ rfl (Value.slice po j co) j 1 1 ⟨b6, 0, none⟩ (nb.map fun p => Value.pointer (some ⟨p.1, 0, none⟩)) [.pointer (some ⟨k, 0, none⟩)] rfl (congrArg (fun g => Value.slice (some ⟨g, 0, none⟩) 1 1) HBB.out.symm) HR.out rfl (fun j y hy => by rw [Go.WideShapes.add_plain, HB6.out.cell, Nat.zero_add]; simpa using hy) (by simp [Value.oneCell']) (by omega) (by decide) (Nat.zero_le _) ?_
          intro v7 x14 ho7 hg7 hf7
          have HZ7 := Lib.hid hHeld.size
          obtain ⟨p7, c7, rfl, -, -⟩ := Frm.ownsRow_form ho7
          have H7 := Lib.hid ho7
          have HF7 := Lib.hid (fun y hy => (hf7 y hy).imp id (fun hh => Nat.le_trans HZ7.out hh))
          have HKB := Lib.hid (HKB.out.grown hg7 (fun e => Ty.ne (owns_ty HR.out e) ⟨_, HKB.out⟩ (by decide) rfl))
          have HX := Lib.hid (HX.out.grown hg7 HNG.out)
          have hb := hHeld.grown hg7 (fun k hk _ => .inr hk)
          clear ho7 hg7 hf7 HB6
          show K (Act.put _ (some 83) _) x14
          refine bkm hK hb ?_
          clear hK K hHeld
          have hHeld : Mods (fun y => y = g ∨ (Value.slice po j co).ownBlock = some y) w10 x14 := hb
          clear hb
          refine tq 15 84 ?_
          refine tq 16 85 ?_
          refine rd1 17 (fun K hK => ?_)
          have hx : World.cell? x14 ⟨g, 1, none⟩ = some (Value.slice po j co) := by rw [HX.out.cell]; rfl
          have hz : World.frozen? x14 ⟨g, 1, none⟩ = false := HX.out.frozen 1
          go_simp
          have HX3 := Lib.hid (HX.out.set_ 1 (.slice p7 (j + 1) c7))
          have H7s := Lib.hid (Frm.ownsRow_mods (S := fun x => x = g) H7.out ((Mods.refl (fun x => x = g) _).setCell (p := ⟨g, 1, none⟩) (fun _ => rfl) (.slice p7 (j + 1) c7)) (fun x hx e => Frm.ownsRow_ne H7.out HX.out (by decide) (by rw [hx, e])))
          have HKB := Lib.hid (HKB.out.mods ((Mods.refl (fun x => x = g) _).setCell (p := ⟨g, 1, none⟩) (fun _ => rfl) (.slice p7 (j + 1) c7)) (fun e => Ty.ne ⟨_, HKB.out⟩ ⟨_, HX.out⟩ (by decide) e))
          have hb := hHeld.setCell (p := ⟨g, 1, none⟩) (fun _ => .inl rfl) (.slice p7 (j + 1) c7)
          clear hx hz HX H7
          generalize World.setCell x14 ⟨g, 1, none⟩ (.slice p7 (j + 1) c7) = xF at *
          refine bkm hK hb ?_
          clear hK K hHeld
          have hHeld : Mods (fun y => y = g ∨ (Value.slice po j co).ownBlock = some y) w10 xF := hb
          clear hb
          refine wpAnyH_done (by kernel_rfl) ?_ _
          refine NoPanic.normal ?_
          have HE := Lib.hid (HS.out.more hj24 (HK6.out.trans HK9.out) HM10.out HN10.out hHeld HX3.out (by have := H7s.out; rw [hnl]; exact this) HF7.out HKZ.out HKB.out HBL.out (by rw [← HRST.out, HS.out.nlen]))
          go_wp2_with fail
          go_roundw
          case rel => exact ⟨j + 1, by simp, by omega, Lib.hid ⟨_, _, _, _, HE.out⟩⟩
          case measure =>
           simp only [RowKit.intOf]
           omega
         refine AllReadyH.cons (o := _) rfl (fun K hK => ?_) ?_
         ·go_simp
          obtain ⟨k, hk0⟩ : ∃ z, z = (World.heap xs).size := ⟨_, rfl⟩
          have HKB : Hid (Blk (World.alloc xs (.cells #[.string (bstr b), .string (bstr b), .slice none 0 0, .bool false] 95)) k 95 #[.string (bstr b), .string (bstr b), .slice none 0 0, .bool false]) := Lib.hid (Blk.new _ _ _ hk0)
          have HX := Lib.hid (HX.out.alloc (.cells #[.string (bstr b), .string (bstr b), .slice none 0 0, .bool false] 95))
          have HR := Lib.hid (Frm.ownsRow_keeps HR.out ((Keeps.refl _).alloc (.cells #[.string (bstr b), .string (bstr b), .slice none 0 0, .bool false] 95)))
          have hb := hHeld.alloc (.cells #[.string (bstr b), .string (bstr b), .slice none 0 0, .bool false] 95)
          have HKZ := Lib.hid (show w10.heap.size ≤ k from by rw [hk0]; exact hHeld.size)
          rw [← hk0]
          clear hk0
          generalize World.alloc xs (.cells #[.string (bstr b), .string (bstr b), .slice none 0 0, .bool false] 95) = x12 at *
          refine bkm hK hb ?_
          clear hK K hHeld
          have hHeld : Mods (fun y => y = g ∨ (Value.slice po j co).ownBlock = some y) w10 x12 := hb
          clear hb
          refine wpAnyH_ready (rs := [4, 13]) (by kernel_rfl) (by simp) ?_
          refine AllReadyH.cons (o := _) rfl (fun K hK => ?_) ?_
          ·have hx : World.cell? x12 ⟨g, 1, none⟩ = some (Value.slice po j co) := by rw [HX.out.cell]; rfl
           go_simp
           clear hx
           have hb := hHeld
           refine bkm hK hb ?_
           clear hK K hHeld
           have hHeld : Mods (fun y => y = g ∨ (Value.slice po j co).ownBlock = some y) w10 x12 := hb
           clear hb
           refine rd1 13 (fun K hK => ?_)
           go_simp
           obtain ⟨b6, hb6⟩ : ∃ z, z = (World.heap x12).size := ⟨_, rfl⟩
           have HB6 : Hid (Blk (World.alloc x12 (.cells #[.pointer (some ⟨k, 0, none⟩)] 92)) b6 92 #[.pointer (some ⟨k, 0, none⟩)]) := Lib.hid (Blk.new _ _ _ hb6)
           have HX := Lib.hid (HX.out.alloc (.cells #[.pointer (some ⟨k, 0, none⟩)] 92))
           have HR := Lib.hid (Frm.ownsRow_keeps HR.out ((Keeps.refl _).alloc (.cells #[.pointer (some ⟨k, 0, none⟩)] 92)))
           have HKB := Lib.hid (HKB.out.alloc (.cells #[.pointer (some ⟨k, 0, none⟩)] 92))
           have hb := hHeld.alloc (.cells #[.pointer (some ⟨k, 0, none⟩)] 92)
           have HBB := Lib.hid hb6
           clear hb6
           generalize World.alloc x12 (.cells #[.pointer (some ⟨k, 0, none⟩)] 92) = x13 at *
           refine bkm hK hb ?_
           clear hK K hHeld
           have hHeld : Mods (fun y => y = g ∨ (Value.slice po j co).ownBlock = some y) w10 x13 := hb
           clear hb
           refine rd1 14 (fun K hK => ?_)
           refine step_appF (base := 0) nodok (by decide) rfl _ _ rfl (Value.slice po j co) j 1 1 ⟨b6, 0, none⟩ (nb.map fun p => Value.pointer (some ⟨p.1, 0, none⟩)) [.pointer (some ⟨k, 0, none⟩)] rfl (congrArg (fun g => Value.slice (some ⟨g, 0, none⟩) 1 1) HBB.out.symm) HR.out rfl (fun j y hy => by rw [Go.WideShapes.add_plain, HB6.out.cell, Nat.zero_add]; simpa using hy) (by simp [Value.oneCell']) (by omega) (by decide) (Nat.zero_le _) ?_
           intro v7 x14 ho7 hg7 hf7
           have HZ7 := Lib.hid hHeld.size
           obtain ⟨p7, c7, rfl, -, -⟩ := Frm.ownsRow_form ho7
           have H7 := Lib.hid ho7
           have HF7 := Lib.hid (fun y hy => (hf7 y hy).imp id (fun hh => Nat.le_trans HZ7.out hh))
           have HKB := Lib.hid (HKB.out.grown hg7 (fun e => Ty.ne (owns_ty HR.out e) ⟨_, HKB.out⟩ (by decide) rfl))
           have HX := Lib.hid (HX.out.grown hg7 HNG.out)
           have hb := hHeld.grown hg7 (fun k hk _ => .inr hk)
           clear ho7 hg7 hf7 HB6
           show K (Act.put _ (some 83) _) x14
           refine bkm hK hb ?_
           clear hK K hHeld
           have hHeld : Mods (fun y => y = g ∨ (Value.slice po j co).ownBlock = some y) w10 x14 := hb
           clear hb
           refine tq 15 84 ?_
           refine tq 16 85 ?_
           refine rd1 17 (fun K hK => ?_)
           have hx : World.cell? x14 ⟨g, 1, none⟩ = some (Value.slice po j co) := by rw [HX.out.cell]; rfl
           have hz : World.frozen? x14 ⟨g, 1, none⟩ = false := HX.out.frozen 1
           go_simp
           have HX3 := Lib.hid (HX.out.set_ 1 (.slice p7 (j + 1) c7))
           have H7s := Lib.hid (Frm.ownsRow_mods (S := fun x => x = g) H7.out ((Mods.refl (fun x => x = g) _).setCell (p := ⟨g, 1, none⟩) (fun _ => rfl) (.slice p7 (j + 1) c7)) (fun x hx e => Frm.ownsRow_ne H7.out HX.out (by decide) (by rw [hx, e])))
           have HKB := Lib.hid (HKB.out.mods ((Mods.refl (fun x => x = g) _).setCell (p := ⟨g, 1, none⟩) (fun _ => rfl) (.slice p7 (j + 1) c7)) (fun e => Ty.ne ⟨_, HKB.out⟩ ⟨_, HX.out⟩ (by decide) e))
           have hb := hHeld.setCell (p := ⟨g, 1, none⟩) (fun _ => .inl rfl) (.slice p7 (j + 1) c7)
           clear hx hz HX H7
           generalize World.setCell x14 ⟨g, 1, none⟩ (.slice p7 (j + 1) c7) = xF at *
           refine bkm hK hb ?_
           clear hK K hHeld
           have hHeld : Mods (fun y => y = g ∨ (Value.slice po j co).ownBlock = some y) w10 xF := hb
           clear hb
           refine wpAnyH_done (by kernel_rfl) ?_ _
           refine NoPanic.normal ?_
           have HE := Lib.hid (HS.out.more hj24 (HK6.out.trans HK9.out) HM10.out HN10.out hHeld HX3.out (by have := H7s.out; rw [hnl]; exact this) HF7.out HKZ.out HKB.out HBL.out (by rw [← HRST.out, HS.out.nlen]))
           go_wp2_with fail
           go_roundw
           case rel => exact ⟨j + 1, by simp, by omega, Lib.hid ⟨_, _, _, _, HE.out⟩⟩
           case measure =>
            simp only [RowKit.intOf]
            omega
          refine AllReadyH.cons (o := _) rfl (fun K hK => ?_) ?_
          ·go_simp
           obtain ⟨b6, hb6⟩ : ∃ z, z = (World.heap x12).size := ⟨_, rfl⟩
           have HB6 : Hid (Blk (World.alloc x12 (.cells #[.pointer (some ⟨k, 0, none⟩)] 92)) b6 92 #[.pointer (some ⟨k, 0, none⟩)]) := Lib.hid (Blk.new _ _ _ hb6)
           have HX := Lib.hid (HX.out.alloc (.cells #[.pointer (some ⟨k, 0, none⟩)] 92))
           have HR := Lib.hid (Frm.ownsRow_keeps HR.out ((Keeps.refl _).alloc (.cells #[.pointer (some ⟨k, 0, none⟩)] 92)))
           have HKB := Lib.hid (HKB.out.alloc (.cells #[.pointer (some ⟨k, 0, none⟩)] 92))
           have hb := hHeld.alloc (.cells #[.pointer (some ⟨k, 0, none⟩)] 92)
           have HBB := Lib.hid hb6
           clear hb6
           generalize World.alloc x12 (.cells #[.pointer (some ⟨k, 0, none⟩)] 92) = x13 at *
           refine bkm hK hb ?_
           clear hK K hHeld
           have hHeld : Mods (fun y => y = g ∨ (Value.slice po j co).ownBlock = some y) w10 x13 := hb
           clear hb
           refine rd1 4 (fun K hK => ?_)
           have hx : World.cell? x13 ⟨g, 1, none⟩ = some (Value.slice po j co) := by rw [HX.out.cell]; rfl
           go_simp
           clear hx
           have hb := hHeld
           refine bkm hK hb ?_
           clear hK K hHeld
           have hHeld : Mods (fun y => y = g ∨ (Value.slice po j co).ownBlock = some y) w10 x13 := hb
           clear hb
           refine rd1 14 (fun K hK => ?_)
           refine step_appF (base := 0) nodok (by decide) rfl _ _ rfl (Value.slice po j co) j 1 1 ⟨b6, 0, none⟩ (nb.map fun p => Value.pointer (some ⟨p.1, 0, none⟩)) [.pointer (some ⟨k, 0, none⟩)] rfl (congrArg (fun g => Value.slice (some ⟨g, 0, none⟩) 1 1) HBB.out.symm) HR.out rfl (fun j y hy => by rw [Go.WideShapes.add_plain, HB6.out.cell, Nat.zero_add]; simpa using hy) (by simp [Value.oneCell']) (by omega) (by decide) (Nat.zero_le _) ?_
           intro v7 x14 ho7 hg7 hf7
           have HZ7 := Lib.hid hHeld.size
           obtain ⟨p7, c7, rfl, -, -⟩ := Frm.ownsRow_form ho7
           have H7 := Lib.hid ho7
           have HF7 := Lib.hid (fun y hy => (hf7 y hy).imp id (fun hh => Nat.le_trans HZ7.out hh))
           have HKB := Lib.hid (HKB.out.grown hg7 (fun e => Ty.ne (owns_ty HR.out e) ⟨_, HKB.out⟩ (by decide) rfl))
           have HX := Lib.hid (HX.out.grown hg7 HNG.out)
           have hb := hHeld.grown hg7 (fun k hk _ => .inr hk)
           clear ho7 hg7 hf7 HB6
           show K (Act.put _ (some 83) _) x14
           refine bkm hK hb ?_
           clear hK K hHeld
           have hHeld : Mods (fun y => y = g ∨ (Value.slice po j co).ownBlock = some y) w10 x14 := hb
           clear hb
           refine tq 15 84 ?_
           refine tq 16 85 ?_
           refine rd1 17 (fun K hK => ?_)
           have hx : World.cell? x14 ⟨g, 1, none⟩ = some (Value.slice po j co) := by rw [HX.out.cell]; rfl
           have hz : World.frozen? x14 ⟨g, 1, none⟩ = false := HX.out.frozen 1
           go_simp
           have HX3 := Lib.hid (HX.out.set_ 1 (.slice p7 (j + 1) c7))
           have H7s := Lib.hid (Frm.ownsRow_mods (S := fun x => x = g) H7.out ((Mods.refl (fun x => x = g) _).setCell (p := ⟨g, 1, none⟩) (fun _ => rfl) (.slice p7 (j + 1) c7)) (fun x hx e => Frm.ownsRow_ne H7.out HX.out (by decide) (by rw [hx, e])))
           have HKB := Lib.hid (HKB.out.mods ((Mods.refl (fun x => x = g) _).setCell (p := ⟨g, 1, none⟩) (fun _ => rfl) (.slice p7 (j + 1) c7)) (fun e => Ty.ne ⟨_, HKB.out⟩ ⟨_, HX.out⟩ (by decide) e))
           have hb := hHeld.setCell (p := ⟨g, 1, none⟩) (fun _ => .inl rfl) (.slice p7 (j + 1) c7)
           clear hx hz HX H7
           generalize World.setCell x14 ⟨g, 1, none⟩ (.slice p7 (j + 1) c7) = xF at *
           refine bkm hK hb ?_
           clear hK K hHeld
           have hHeld : Mods (fun y => y = g ∨ (Value.slice po j co).ownBlock = some y) w10 xF := hb
           clear hb
           refine wpAnyH_done (by kernel_rfl) ?_ _
           refine NoPanic.normal ?_
           have HE := Lib.hid (HS.out.more hj24 (HK6.out.trans HK9.out) HM10.out HN10.out hHeld HX3.out (by have := H7s.out; rw [hnl]; exact this) HF7.out HKZ.out HKB.out HBL.out (by rw [← HRST.out, HS.out.nlen]))
           go_wp2_with fail
           go_roundw
           case rel => exact ⟨j + 1, by simp, by omega, Lib.hid ⟨_, _, _, _, HE.out⟩⟩
           case measure =>
            simp only [RowKit.intOf]
            omega
          exact AllReadyH.nil
         exact AllReadyH.nil
     ·have hjn : j = fs.length := by rw [← HN.out]; omega
      have HXX : Hid (newD fs cap = some ⟨cap, ns, l, l, [], false, 0, (-1, 0), (-1, 0)⟩) := Lib.hid (by
       rw [HX.out, ← HS.out.rest, hjn, List.drop_length]
       rfl)
      have hlt' : decide ((j : Int) < (n : Int)) = false := by simp; omega
      have hj24 : j ≤ 1024 := by omega
      obtain ⟨-, -, g2⟩ := HS.out.half.cells
      have HCL := Lib.hid (cloneNames_any wr HS.out.half.names)
      clear hjn HX
      go_wp2_with fail
      refine HCL.out.mono ?_
      rintro e w3 ⟨rfl, hn3, hk3⟩
      have HB3 := Lib.hid (HS.out.half.blk.keeps hk3)
      have c3 : w3.cell? ⟨g, 3, none⟩ = some (.map none) := by rw [HB3.out.cell]; rfl
      have z3 : w3.frozen? ⟨g, 3, none⟩ = false := HB3.out.frozen _
      have HN3 := Lib.hid hn3
      have HK3 := Lib.hid hk3
      clear hn3 hk3 HCL g2
      go_wp2_with fail
      go_ret
      have hM := (Mods.refl (· = g) w3).setCell (p := ⟨g, 3, none⟩) (fun _ => rfl) (.map (some wr.heap.size))
      have hH := HS.out.half.keeps HK3.out
      have hg := hH.blk.lt
      have hgl := HS.out.half.blk.lt
      have tg : Ty w3 g 89 := ⟨_, hH.blk⟩
      unfold NewDid
      rw [HXX.out]
      refine ⟨hM.keeps (HS.out.keep.trans HK3.out) (fun y hy => by subst hy; exact HS.out.gW), g, rfl, b1, wr.heap.size, .slice po j co, .slice none 0 0, nb, ?_⟩
      have hll := HS.out.llen
      exact
       {blk := HB3.out.set_ 3 _
        row := by
         have := Frm.ownsRow_mods hH.row hM (fun y hy e => Ty.ne (owns_ty hH.row hy) tg (by decide) e)
         exact this
        len := hH.len
        nod := fun i h1 h2 => (hH.nod i h1 h2).mods hM (fun e => Ty.ne ⟨_, (hH.nod i h1 h2).blk⟩ tg (by decide) e) (fun y hy e => Ty.ne (owns_ty (hH.nod i h1 h2).pats hy) tg (by decide) e)
        sep := HS.out.sep
        seen := hH.names.mods hM (fun e => names_ty hH.names tg e)
        sure := HN3.out.mods hM (fun e => by omega)
        mvs := World.ownsRow_nil _ _ _ 3
        d12 := fun e => by have := HS.out.half.names.lt; omega
        sg := HS.out.gW
        s1 := HS.out.bW
        s2 := HS.out.keep.size
        sn := HS.out.nW
        sm := fun y hy => by simp [Value.ownBlock] at hy
        sb := fun p hp => ⟨(HS.out.pW p hp).1, fun y hy => by rw [(HS.out.pW p hp).2] at hy; simp [Value.ownBlock] at hy⟩
        fit :=
         {r1 := HCB.out.1, r2 := HCB.out.2.1, s1 := by show l.length ≤ 1024; omega, s2 := by show l.length ≤ 1024; omega
          is := hH.is, iu := hH.is, im := fun m hm => by simp at hm, nm := fun m hm => by simp at hm
          ns := fun x hx => by
           have := HS.out.nodes x hx
           rw [this.2.1]
           omega
          ps := fun x hx p hp => by
           rw [(HS.out.nodes x hx).2.2] at hp
           simp at hp
          fr := hH.fr, tf := ⟨by show (-1 : Int) ≤ -1; omega, by show (-1 : Int) ≤ _; omega⟩, tc := ⟨by show (-1 : Int) ≤ -1; omega, by show (-1 : Int) ≤ _; omega⟩ } }
end Vd
end Go.Proofs.YtcleakjjefmmbaaGreat

/- The laws' side of the contracts: how much of everything there is at most; what a call leaves. -/
namespace Go.Proofs.YtcleakjjefmmbaaGreat
open Go.RowKit
namespace Vd
open Go.Maps
/-- of all there is not more than so many -/
structure Few (d : Dsk) (k : Nat) : Prop where
 c0 : 0 ≤ d.count
 c1 : d.count ≤ k
 m : d.moves.length ≤ k
 n : d.nodes.length ≤ k
 p : ∀ y ∈ d.nodes, y.pats.length ≤ k
 s : d.seen.length ≤ k
 u : d.sure.length ≤ k
theorem Few.mono {d : Dsk} {k k' : Nat} (h : Few d k) (hk : k ≤ k') : Few d k' := ⟨h.c0, by have := h.c1; omega, Nat.le_trans h.m hk, Nat.le_trans h.n hk, fun y hy => Nat.le_trans (h.p y hy) hk, Nat.le_trans h.s hk, Nat.le_trans h.u hk⟩
theorem changeD_count (d : Dsk) : (changeD d).1.count = d.count ∨ (changeD d).1.count = d.count + 1 := by
 unfold changeD
 split
 ·exact .inl rfl
 ·split
  ·exact .inr rfl
  ·split
   ·exact .inr rfl
   ·exact .inr rfl
theorem few_change {d : Dsk} {k : Nat} (h : Few d k) : Few (changeD d).1 (k + 1) := by
 obtain ⟨e1, e2, e3, e4, -⟩ := changeD_seen d
 have hc := changeD_count d
 have h0 := h.c0
 have h1 := h.c1
 exact ⟨by omega, by omega, by rw [e4]; exact Nat.le_succ_of_le h.m, by rw [e2]; exact Nat.le_succ_of_le h.n, fun y hy => Nat.le_succ_of_le (h.p y (by rwa [e2] at hy)), by rw [e1]; exact Nat.le_succ_of_le h.s, by rw [e3]; exact Nat.le_succ_of_le h.u⟩
theorem few_touch {d : Dsk} {k : Nat} (h : Few d k) (x : Str) : Few (touchD d x).1 (k + 1) := by rw [touch_fst]; exact few_change h
theorem few_turn {d : Dsk} {k : Nat} (h : Few d k) (m : Mv) : Few (turnD (changeD d).1 m) (k + 1) := by
 obtain ⟨e1, e2, e3, e4, -⟩ := changeD_seen d
 have hf := few_change h
 have hl := give_len (changeD d).1.seen m
 exact ⟨hf.c0, hf.c1, by rw [turnD_len, e4]; exact Nat.succ_le_succ h.m, hf.n, hf.p, by
  show (giveN (changeD d).1.seen m).length ≤ _
  rw [e1] at hl ⊢
  have := h.s
  omega, hf.u⟩
theorem few_create {d : Dsk} {k : Nat} (h : Few d k) (x : Str) : Few (createD d x).1 (k + 1) := by
 unfold createD
 split
 ·exact few_change h
 ·split
  ·exact few_change h
  ·split
   ·exact few_change h
   ·split
    ·exact few_change h
    ·have hf := few_turn h ⟨d.nodes.length, x, true⟩
     obtain ⟨e1, e2, e3, e4, -⟩ := changeD_seen d
     exact ⟨hf.c0, hf.c1, hf.m, by
      show ((changeD d).1.nodes ++ [newN]).length ≤ _
      rw [e2]
      simpa using h.n, fun y hy => by
      have hy : y ∈ (changeD d).1.nodes ++ [newN] := hy
      rw [e2] at hy
      rcases List.mem_append.1 hy with hy | hy
      ·exact Nat.le_succ_of_le (h.p y hy)
      ·simp at hy
       subst hy
       exact Nat.zero_le _, hf.s, hf.u⟩
theorem nodD_mem (d : Dsk) (i : Nat) : nodD d i ∈ d.nodes ∨ nodD d i = zeroN := by
 unfold nodD
 rw [List.getD_eq_getElem?_getD]
 cases h : d.nodes[i]? with
 |none => exact .inr rfl
 |some x => exact .inl (List.mem_of_getElem? h)
theorem few_write {d1 : Dsk} {k : Nat} (hf : Few d1 (k + 1)) (hp : ∀ y ∈ d1.nodes, y.pats.length ≤ k) (i : Nat) (p : Pat) : Few (writeD d1 i p).1 (k + 1) := by
 unfold writeD
 split
 ·exact hf
 ·refine ⟨hf.c0, hf.c1, hf.m, by simpa [putD] using hf.n, fun y hy => ?_, hf.s, hf.u⟩
  rcases List.mem_or_eq_of_mem_set hy with hy | rfl
  ·exact hf.p y hy
  ·have : (nodD d1 i).pats.length ≤ k := by
    rcases nodD_mem d1 i with h | h
    ·exact hp _ h
    ·rw [h]; exact Nat.zero_le _
   simpa [wroteN] using this
theorem touch_pats {d : Dsk} {k : Nat} (h : Few d k) (x : Str) : ∀ y ∈ (touchD d x).1.nodes, y.pats.length ≤ k := by rw [(touch_nodes d x).1]; exact h.p
theorem few_append {d : Dsk} {k : Nat} (h : Few d k) (x b : Str) : Few (appendD d x b).1 (k + 1) := by
 unfold appendD
 split
 ·exact few_touch h x
 ·exact few_write (few_touch h x) (touch_pats h x) _ _
theorem few_sync {d : Dsk} {k : Nat} (h : Few d k) (x : Str) : Few (syncD d x).1 (k + 1) := by
 unfold syncD
 split
 ·exact few_touch h x
 ·have hf := few_touch h x
  refine ⟨hf.c0, hf.c1, hf.m, by simpa using hf.n, fun y hy => ?_, hf.s, hf.u⟩
  rcases List.mem_or_eq_of_mem_set hy with hy | rfl
  ·exact hf.p y hy
  ·exact Nat.zero_le _
theorem few_rename {d : Dsk} {k : Nat} (h : Few d k) (x y : Str) : Few (renameD d x y).1 (k + 1) := by
 unfold renameD
 split
 ·exact few_change h
 ·split
  ·exact few_change h
  ·split
   ·exact few_turn h _
   ·exact few_change h
theorem few_unlink {d : Dsk} {k : Nat} (h : Few d k) (x : Str) : Few (unlinkD d x).1 (k + 1) := by
 unfold unlinkD
 split
 ·exact few_touch h x
 ·rw [touch_fst]
  exact few_turn h _
theorem few_fix {d : Dsk} {k : Nat} (h : Few d k) : Few (fixD d) k :=
 ⟨h.c0, h.c1, Nat.zero_le _, by simpa [fixD] using h.n, fun y hy => by
  obtain ⟨z, hz, rfl⟩ := List.mem_map.1 hy
  exact h.p z hz, h.s, h.s⟩
theorem few_syncDir {d : Dsk} {k : Nat} (h : Few d k) : Few (syncDirD d).1 (k + 1) := by
 unfold syncDirD
 split
 ·exact few_change h
 ·exact few_fix (few_change h)
theorem bootIx_pats {k : Nat} : ∀ (L : List Nat) (ns : List Nod) (ks : List Int), (∀ y ∈ ns, y.pats.length ≤ k) → ∀ y ∈ (bootIx L ns ks).1, y.pats.length ≤ k
 | [], _, _, h => h
 |i :: L, ns, ks, h => by
  rw [bootIx_cons]
  refine bootIx_pats L _ _ (fun y hy => ?_)
  rcases List.mem_or_eq_of_mem_set hy with hy | rfl
  ·exact h y hy
  ·exact Nat.zero_le _
theorem gave_few {d : Dsk} {k : Nat} (h : Few d k) (j : Nat) : (gaveN d j).length ≤ 2 * k := by
 have h1 := h.m
 have h2 := h.u
 by_cases hj : j ≤ d.moves.length
 ·have := gave_len d j
  omega
 ·rw [gaveN_all (by omega)]
  have := gave_len d d.moves.length
  omega
theorem few_boot {d : Dsk} {k : Nat} (h : Few d k) (t : Int) (ks : List Int) : Few (bootD d t ks).1 (2 * k) := by
 unfold bootD
 split
 ·exact h.mono (by omega)
 ·have hg := gave_few h t.toNat
  have hh : Few { d with nodes := (bootIx (knownL d) d.nodes ks).1, seen := (d.moves.take t.toNat).foldl giveN d.sure } (2 * k) :=
   ⟨h.c0, by have := h.c1; show d.count ≤ _; omega, Nat.le_trans h.m (by omega), by
    show (bootIx (knownL d) d.nodes ks).1.length ≤ _
    rw [bootIx_len]
    exact Nat.le_trans h.n (by omega), fun y hy => Nat.le_trans (bootIx_pats _ _ _ h.p y hy) (by omega), hg, Nat.le_trans h.u (by omega)⟩
  have hf := few_fix hh
  exact ⟨hf.c0, hf.c1, hf.m, hf.n, hf.p, hf.s, hf.u⟩
/-- the blocks from one on -/
def Rng (B : Nat) (w : World) (y : Nat) : Prop := B ≤ y ∧ y < w.heap.size
/-- a disk that was made behind W, with the bounds that the contracts want -/
structure At (W w : World) (g : Nat) (d : Dsk) (k : Nat) : Prop where
 dsk : DiskAt w (Rng W.heap.size w) g d
 keep : Keeps W w
 few : Few d k
theorem DiskAt.tight {w : World} {S : Nat → Prop} {g : Nat} {d : Dsk} (h : DiskAt w S g d) : DiskAt w (fun y => S y ∧ y < w.heap.size) g d := let ⟨_, _, _, _, _, h⟩ := h; ⟨_, _, _, _, _, h.tight⟩
section
variable {W w w1 w' : World} {g : Nat} {d : Dsk} {k : Nat}
theorem At.keeps (h : At W w g d k) (hk : Keeps w w') : At W w' g d k := ⟨(h.dsk.keeps hk).wide (fun y hy => ⟨hy.1, Nat.lt_of_lt_of_le hy.2 hk.size⟩), h.keep.trans hk, h.few⟩
theorem At.did (h : At W w g d k) (hk : Keeps w w1) {r : Dsk × Int} {e : Ending} (hd : DskDid w1 (More (Rng W.heap.size w) w1 w') g r e w') {k' : Nat} (hf : Few r.1 k') : e = .returned (.int .i64 r.2) ∧ At W w' g r.1 k' := by
 obtain ⟨h1, h2, h3⟩ := hd
 have hs := h3.size
 have hs1 := hk.size
 have hs0 := h.keep.size
 refine ⟨h1, h2.wide (fun y hy => ?_), h3.keeps (h.keep.trans hk) (fun y hy => ?_), hf⟩
 ·rcases hy with hy | hy
  ·exact ⟨hy.1, by have := hy.2; omega⟩
  ·exact ⟨by omega, hy.2⟩
 ·rcases hy with hy | hy
  ·exact hy.1
  ·omega
theorem At.did0 (h : At W w g d k) {d' : Dsk} (hd : DiskAt w' (Rng W.heap.size w) g d') (hm : Mods (Rng W.heap.size w) w w') {k' : Nat} (hf : Few d' k') : At W w' g d' k' :=
 ⟨hd.wide (fun y hy => ⟨hy.1, Nat.lt_of_lt_of_le hy.2 hm.size⟩), hm.keeps h.keep (fun y hy => hy.1), hf⟩
theorem At.cnt (h : At W w g d k) (hk : k ≤ 90000) : -1 ≤ d.count ∧ d.count ≤ 9000000000000000000 := by
 have h0 := h.few.c0
 have h1 := h.few.c1
 omega
/-- what New answers, behind W -/
def NewAt (W : World) (r : Option Dsk) (e : Ending) (w' : World) : Prop := Keeps W w' ∧ match r with
 |none => e = .returned (.pointer none)
 |some d => ∃ g, e = .returned (.pointer (some ⟨g, 0, none⟩)) ∧ DiskAt w' (Rng W.heap.size w') g d
theorem new_at (hk : Keeps W w) (v : Value) (fs : List FileX) (h : RowS w 2 v fs.length (fs.flatMap fileC)) (hok : ∀ f ∈ fs, FileOk w f) (cap : Int) : Calls Tryz.prog 8 #[v, .int .i64 cap] w (NewAt W (newD fs cap)) :=
 (new_any w v fs h hok cap).mono (fun e w' hd => by
  unfold NewDid at hd
  unfold NewAt
  refine ⟨hk.trans hd.1, ?_⟩
  cases hr : newD fs cap with
  |none => rw [hr] at hd; exact hd.2
  |some d =>
   rw [hr] at hd
   obtain ⟨g, h1, h2⟩ := hd.2
   exact ⟨g, h1, h2.tight.wide (fun y hy => ⟨Nat.le_trans hk.size hy.1, hy.2⟩)⟩)
end
end Vd
end Go.Proofs.YtcleakjjefmmbaaGreat

/- vdisk.New. -/
import Derived.Test.YtchjncnolmiejaaGreatK33
namespace Go.Proofs.YtchjncnolmiejaaGreat
open Go.RowKit Go.Shelf
namespace Vd
open Go.Maps
set_option maxRecDepth 100000 in
set_option maxHeartbeats 8000000 in
theorem new_any (w : World) (v : Value) (fs : List FileX) (h : RowS w 2 v fs.length (fs.flatMap fileC)) (hok : ∀ f ∈ fs, FileOk w f) (cap : Int) : Calls Tryz.prog 7 #[v, .int .i64 cap] w (NewDid w (newD fs cap)) := by
  have HR := Lib.hid h
  have HOK := Lib.hid hok
  obtain ⟨pv, cv, rfl, hl1, hl2⟩ := h.form
  clear h hok
  obtain ⟨n, hn⟩ : ∃ n, n = fs.length := ⟨_, rfl⟩
  rw [← hn] at HR hl1 ⊢
  have HN := Lib.hid hn
  clear hn
  by_cases h1 : cap < 1
  · have HX : Hid (newD fs cap = none) := Lib.hid (if_pos (.inl h1))
    go_enter Tryz.func7, Tryz.ntmps7
    go_wp2_with fail
    go_ret
    unfold NewDid
    rw [HX.out]
    exact ⟨Keeps.refl _, rfl⟩
  · by_cases h2 : 4194304 < cap
    · have HX : Hid (newD fs cap = none) := Lib.hid (if_pos (.inr (.inl h2)))
      go_enter Tryz.func7, Tryz.ntmps7
      go_wp2_with fail
      go_ret
      unfold NewDid
      rw [HX.out]
      exact ⟨Keeps.refl _, rfl⟩
    · by_cases h3 : 1024 < n
      · have HX : Hid (newD fs cap = none) := Lib.hid (if_pos (.inr (.inr (by rw [← HN.out]; exact h3))))
        go_enter Tryz.func7, Tryz.ntmps7
        go_wp2_with fail
        go_ret
        unfold NewDid
        rw [HX.out]
        exact ⟨Keeps.refl _, rfl⟩
      · have HX : Hid (newD fs cap = (newF cap fs [] []).map fun r => ⟨cap, r.1, r.2, r.2, [], false, 0, (-1, 0), (-1, 0)⟩) := Lib.hid (if_neg (by rw [← HN.out]; omega))
        go_enter Tryz.func7, Tryz.ntmps7
        have hmk : ∀ w, (Instr.makeMap 76 none).run Tryz.prog w = .ok (.map (some w.heap.size)) (w.alloc (.map #[] 0)) := fun w => run_makeMap _ w
        have HCB := Lib.hid (show 1 ≤ cap ∧ cap ≤ 4194304 ∧ n ≤ 1024 from by omega)
        go_upto_region 4 with fail
        generalize hW : World.alloc (World.alloc w _) _ = w1
        have HB1 := Lib.hid (show HalfIn w1 (w.heap.size + 1) (newA cap (.slice none 0 0) w.heap.size) w.heap.size (.slice none 0 0) [] cap [] [] from
          { blk := by
              rw [← hW]
              exact Blk.new _ _ _ (by rw [Frm.alloc_size])
            k0 := rfl
            k1 := rfl
            k2 := rfl
            row := World.ownsRow_nil _ _ _ 1
            len := rfl
            nod := fun i h => by simp at h
            names := by
              rw [← hW]
              exact (NamesAt.new w).keeps ((Keeps.refl _).alloc _)
            is := fun p h => by simp at h
            r1 := HCB.out.1
            r2 := HCB.out.2.1
            fr := by simp [bytesN] })
        have HK1 := Lib.hid (show Keeps w w1 from by rw [← hW]; exact ((Keeps.refl _).alloc _).alloc _)
        clear hW hmk
        have hgw : w.heap.size ≤ w.heap.size + 1 := by omega
        have hbw : w.heap.size ≤ w.heap.size := Nat.le_refl _
        obtain ⟨b1, hb1⟩ : ∃ b1, b1 = w.heap.size := ⟨_, rfl⟩
        have HBE := Lib.hid hb1
        obtain ⟨g, hg⟩ : ∃ g, g = w.heap.size + 1 := ⟨_, rfl⟩
        have HGE := Lib.hid (show w.heap.size ≤ g ∧ w.heap.size ≤ b1 ∧ g ≠ b1 from by omega)
        rw [← hg, ← hb1] at HB1 ⊢
        clear hg hb1 hgw hbw
        have HS0 := Lib.hid (show NewSt w w1 g b1 cap fs 0 (.slice none 0 0) [] [] [] from
          { half := HB1.out, keep := HK1.out, gW := HGE.out.1, bW := HGE.out.2.1, nW := fun y hy => by simp [Value.ownBlock] at hy, pW := fun p hp => by simp at hp, sep := List.Pairwise.nil, nodes := fun x hx => by simp at hx, nlen := rfl, llen := Nat.le_refl _, rest := rfl })
        clear HB1 HK1
        go_wp2_with fail
        go_loopw [29] (fun ix wr => ∃ j : Nat, ix = .int .i64 (j : Int) ∧ j ≤ n ∧ Hid (∃ nv nb ns l, NewSt w wr g b1 cap fs j nv nb ns l)) (fun ix _ => n - (RowKit.intOf ix).toNat)
        case atStart => exact ⟨0, rfl, Nat.zero_le _, Lib.hid ⟨_, _, _, _, HS0.out⟩⟩
        case round =>
          obtain ⟨j, rfl, hj, HH⟩ := hrel
          obtain ⟨nv, nb, ns, l, hS⟩ := HH.out
          have HS := Lib.hid hS
          clear hS HH HS0
          obtain ⟨po, co, rfl, -, -⟩ := Frm.ownsRow_form HS.out.half.row
          have hnl : nb.length = j := by rw [HS.out.half.len, HS.out.nlen]
          rw [hnl] at HS
          by_cases hlt : j < n
          · have hjn : j < fs.length := by rw [← HN.out]; exact hlt
            obtain ⟨f, hf⟩ : ∃ f, f = fs[j] := ⟨_, rfl⟩
            have hfo : FileOk w f := by rw [hf]; exact HOK.out _ (List.getElem_mem hjn)
            have HFO := Lib.hid hfo
            obtain ⟨bb, off, cap', hv, hrg⟩ := rowS_file (by rw [HN.out] at HR; exact HR.out.keeps HS.out.keep) hjn
            simp only [Value.slice.injEq] at hv
            obtain ⟨rfl, -, rfl⟩ := hv
            rw [← hf] at hrg
            have HRG := Lib.hid hrg
            have HDR := Lib.hid (show newF cap (fs.drop j) ns l = if (look l f.1).isSome then none else if namedB f.1 = false then none else if cap - (bytesN ns l : Int) < (f.2.1.length : Int) then none else newF cap (fs.drop (j + 1)) (ns ++ [madeN f.2.1]) (putN l f.1 ns.length) from by
              rw [hf, List.drop_eq_getElem_cons hjn, newF_cons])
            have hlt' : (j : Int) < (n : Int) := by omega
            clear hjn hf hfo hrg
            obtain ⟨x, b, dv⟩ := f
            have HROW := Lib.hid (show Row w dv (b.map u8v) from HFO.out.row)
            have hxn : x.length ≤ 9000000000000000000 := HFO.out.len
            have hxl : x.length ≤ maxLen := by unfold maxLen; omega
            obtain ⟨pd, cd, rfl, -, -⟩ := HROW.out.formB
            simp only at HDR
            go_upto_region 7 with (first
              | refine wpList_ldR rfl fileM HRG.out _ rfl rfl ?_
              | (refine wpList_st (ds := fileA (x, b, .slice pd b.length cd)) rfl fileM (Blk.new _ _ _ rfl) rfl (by simp [fileA, Value.oneCell']) _ _ rfl rfl rfl rfl ?_; intro w6 hB6 hM6))
            have HK6 := Lib.hid (show Keeps wr w6 from hM6.keeps ((Keeps.refl _).alloc _) (fun y hy => by rw [hy]; exact Nat.le_refl _))
            have HB6 := Lib.hid hB6
            obtain ⟨a6, ha6⟩ : ∃ a6, a6 = wr.heap.size := ⟨_, rfl⟩
            rw [← ha6] at HB6 ⊢
            have HA6 := Lib.hid ha6
            clear hB6 hM6 ha6
            have HS6 := Lib.hid (HS.out.half.keeps HK6.out)
            have HW6 := Lib.hid (HS.out.keep.trans HK6.out)
            obtain ⟨-, g1, g2⟩ := HS6.out.cells
            have f0 : w6.cell? ⟨a6, 0, none⟩ = some (.string (bstr x)) := by rw [HB6.out.cell]; rfl
            have f1 : w6.cell? ⟨a6, 1, none⟩ = some (.slice pd b.length cd) := by rw [HB6.out.cell]; rfl
            have HL := Lib.hid (fun w' (k : Keeps w6 w') => (HS6.out.names.keeps k).look_ok hxl)
            have HNA := Lib.hid (fun w0 => (named_any x hxn w0).mono (fun e w' h => show e = .returned (.bool (namedB x)) ∧ Keeps w0 w' from ⟨h.1, by rw [← h.2]; exact Keeps.refl _⟩))
            have HFR := Lib.hid (fun w' (k : Keeps w6 w') => freeH_any w' (HS6.out.keeps k))
            have HEND : Hid (∀ w', Keeps w6 w' → newF cap (fs.drop j) ns l = none → NewDid w (newD fs cap) (.returned (.pointer none)) w') := Lib.hid (fun w' hk he => by
              unfold NewDid
              rw [HX.out, ← HS.out.rest, he]
              exact ⟨HW6.out.trans hk, rfl⟩)
            cases hlk : look l x with
            | some i0 =>
              rw [hlk] at HL
              simp only [Option.getD_some, Option.isSome_some] at HL
              have HE := Lib.hid (fun w' hk => HEND.out w' hk (by rw [HDR.out, hlk]; rfl))
              clear HEND HDR hlk
              refine wp_region_noPanic ?_
              refine wp_region_held_drew (S := fun w' => Keeps (w6) w') (by kernel_rfl) ((Keeps.refl _).drew) (fun _ => ?_)
              have hHeld : Keeps (w6) (w6).drew := (Keeps.refl _).drew
              refine wpAnyH_take (i := 0) (v := ?vv1) (by rfl) (by kernel_rfl) (by kernel_rfl) (by kernel_rfl) (by intro _ _ _ h; exact h) (Or.inl ⟨by kernel_rfl, ?hy1⟩) (by assumption) ?rest1
              case hy1 =>
                intro w' hSw
                have hSw : Keeps _ w' := hSw
                clear hSw
                go_simp
                try with_reducible rfl
              change wpAnyH _ _ _ _ _ _ _ (Act.put _ (some 34) _) _
              try simp only [Act.put, List.setIfInBounds_toArray, List.set_cons_zero, List.set_cons_succ]
              refine wpAnyH_take (i := 1) (v := ?vv2) (by rfl) (by kernel_rfl) (by kernel_rfl) (by kernel_rfl) (by intro _ _ _ h; exact h) (Or.inl ⟨by kernel_rfl, ?hy2⟩) (by assumption) ?rest2
              case hy2 =>
                intro w' hSw
                have hSw : Keeps _ w' := hSw
                clear hSw
                go_simp
                try with_reducible rfl
              change wpAnyH _ _ _ _ _ _ _ (Act.put _ (some 35) _) _
              try simp only [Act.put, List.setIfInBounds_toArray, List.set_cons_zero, List.set_cons_succ]
              refine wpAnyH_take (i := 2) (v := ?vv3) (by rfl) (by kernel_rfl) (by kernel_rfl) (by kernel_rfl) (by intro _ _ _ h; exact h) (Or.inl ⟨by kernel_rfl, ?hy3⟩) (by assumption) ?rest3
              case hy3 =>
                intro w' hSw
                have hSw : Keeps _ w' := hSw
                clear hSw
                go_simp
                try with_reducible rfl
              change wpAnyH _ _ _ _ _ _ _ (Act.put _ (some 36) _) _
              try simp only [Act.put, List.setIfInBounds_toArray, List.set_cons_zero, List.set_cons_succ]
              refine wpAnyH_take (i := 3) (v := ?vv4) (by rfl) (by kernel_rfl) (by kernel_rfl) (by kernel_rfl) (by intro _ _ _ h; exact h) (Or.inl ⟨by kernel_rfl, ?hy4⟩) (by assumption) ?rest4
              case hy4 =>
                intro w' hSw
                have hSw : Keeps _ w' := hSw
                have hx := keep1 hSw g2
                clear hSw
                go_simp
                try with_reducible rfl
              change wpAnyH _ _ _ _ _ _ _ (Act.put _ (some 37) _) _
              try simp only [Act.put, List.setIfInBounds_toArray, List.set_cons_zero, List.set_cons_succ]
              refine wpAnyH_take (i := 4) (v := ?vv5) (by rfl) (by kernel_rfl) (by kernel_rfl) (by kernel_rfl) (by intro _ _ _ h; exact h) (Or.inl ⟨by kernel_rfl, ?hy5⟩) (by assumption) ?rest5
              case hy5 =>
                intro w' hSw
                have hSw : Keeps _ w' := hSw
                clear hSw
                go_simp
                try with_reducible rfl
              change wpAnyH _ _ _ _ _ _ _ (Act.put _ (some 38) _) _
              try simp only [Act.put, List.setIfInBounds_toArray, List.set_cons_zero, List.set_cons_succ]
              refine wpAnyH_take (i := 5) (v := ?vv6) (by rfl) (by kernel_rfl) (by kernel_rfl) (by kernel_rfl) (by intro _ _ _ h; exact h) (Or.inl ⟨by kernel_rfl, ?hy6⟩) (by assumption) ?rest6
              case hy6 =>
                intro w' hSw
                have hSw : Keeps _ w' := hSw
                have hx := keep1 hSw f0
                clear hSw
                go_simp
                try with_reducible rfl
              change wpAnyH _ _ _ _ _ _ _ (Act.put _ (some 39) _) _
              try simp only [Act.put, List.setIfInBounds_toArray, List.set_cons_zero, List.set_cons_succ]
              refine wpAnyH_take (i := 6) (v := ?vv7) (by rfl) (by kernel_rfl) (by kernel_rfl) (by kernel_rfl) (by intro _ _ _ h; exact h) (Or.inl ⟨by kernel_rfl, ?hy7⟩) (by assumption) ?rest7
              case hy7 =>
                intro w' hSw
                have hSw : Keeps _ w' := hSw
                have hx := HL.out w' hSw
                clear hSw
                go_simp
                try with_reducible rfl
              change wpAnyH _ _ _ _ _ _ _ (Act.put _ (some 40) _) _
              try simp only [Act.put, List.setIfInBounds_toArray, List.set_cons_zero, List.set_cons_succ]
              refine wpAnyH_take (i := 7) (v := ?vv8) (by rfl) (by kernel_rfl) (by kernel_rfl) (by kernel_rfl) (by intro _ _ _ h; exact h) (Or.inl ⟨by kernel_rfl, ?hy8⟩) (by assumption) ?rest8
              case hy8 =>
                intro w' hSw
                have hSw : Keeps _ w' := hSw
                clear hSw
                go_simp
                try with_reducible rfl
              change wpAnyH _ _ _ _ _ _ _ (Act.put _ (some 33) _) _
              try simp only [Act.put, List.setIfInBounds_toArray, List.set_cons_zero, List.set_cons_succ]
              refine wpAnyH_take (i := 8) (v := ?vv9) (by rfl) (by kernel_rfl) (by kernel_rfl) (by kernel_rfl) (by intro _ _ _ h; exact h) (Or.inl ⟨by kernel_rfl, ?hy9⟩) (by assumption) ?rest9
              case hy9 =>
                intro w' hSw
                have hSw : Keeps _ w' := hSw
                clear hSw
                go_simp
                try with_reducible rfl
              change wpAnyH _ _ _ _ _ _ _ (Act.put _ (some 41) _) _
              try simp only [Act.put, List.setIfInBounds_toArray, List.set_cons_zero, List.set_cons_succ]
              refine wpAnyH_take (i := 9) (v := ?vv10) (by rfl) (by kernel_rfl) (by kernel_rfl) (by kernel_rfl) (by intro _ _ _ h; exact h) (Or.inl ⟨by kernel_rfl, ?hy10⟩) (by assumption) ?rest10
              case hy10 =>
                intro w' hSw
                have hSw : Keeps _ w' := hSw
                clear hSw
                go_simp
                try with_reducible rfl
              change wpAnyH _ _ _ _ _ _ _ (Act.put _ (some 42) _) _
              try simp only [Act.put, List.setIfInBounds_toArray, List.set_cons_zero, List.set_cons_succ]
              refine wpAnyH_take (i := 10) (v := ?vv11) (by rfl) (by kernel_rfl) (by kernel_rfl) (by kernel_rfl) (by intro _ _ _ h; exact h) (Or.inl ⟨by kernel_rfl, ?hy11⟩) (by assumption) ?rest11
              case hy11 =>
                intro w' hSw
                have hSw : Keeps _ w' := hSw
                clear hSw
                go_simp
                try with_reducible rfl
              change wpAnyH _ _ _ _ _ _ _ (Act.put _ (some 8) _) _
              try simp only [Act.put, List.setIfInBounds_toArray, List.set_cons_zero, List.set_cons_succ]
              refine wpAnyH_take (i := 11) (v := ?vv12) (by rfl) (by kernel_rfl) (by kernel_rfl) (by kernel_rfl) (by intro _ _ _ h; exact h) (Or.inl ⟨by kernel_rfl, ?hy12⟩) (by assumption) ?rest12
              case hy12 =>
                intro w' hSw
                have hSw : Keeps _ w' := hSw
                clear hSw
                go_simp
                try with_reducible rfl
              change wpAnyH _ _ _ _ _ _ _ (Act.put _ (some 9) _) _
              try simp only [Act.put, List.setIfInBounds_toArray, List.set_cons_zero, List.set_cons_succ]
              refine wpAnyH_done (by kernel_rfl) ?_ _
              refine NoPanic.normal ?_
              have HK7 := Lib.hid (show Keeps w6 w6.drew from (Keeps.refl w6).drew)
              generalize w6.drew = w7 at *
              go_upto_region 8 with fail
              refine wp_region_noPanic ?_
              refine wp_region_held_drew (S := fun w' => Keeps (w7) w') (by kernel_rfl) ((Keeps.refl _).drew) (fun _ => ?_)
              have hHeld : Keeps (w7) (w7).drew := (Keeps.refl _).drew
              refine wpAnyH_take (i := 0) (v := ?vv13) (by rfl) (by kernel_rfl) (by kernel_rfl) (by kernel_rfl) (by intro _ _ _ h; exact h) (Or.inl ⟨by kernel_rfl, ?hy13⟩) (by assumption) ?rest13
              case hy13 =>
                intro w' hSw
                have hSw : Keeps _ w' := hSw
                clear hSw
                go_simp
                try with_reducible rfl
              change wpAnyH _ _ _ _ _ _ _ (Act.put _ (some 43) _) _
              try simp only [Act.put, List.setIfInBounds_toArray, List.set_cons_zero, List.set_cons_succ]
              refine wpAnyH_take (i := 1) (v := ?vv14) (by rfl) (by kernel_rfl) (by kernel_rfl) (by kernel_rfl) (by intro _ _ _ h; exact h) (Or.inl ⟨by kernel_rfl, ?hy14⟩) (by assumption) ?rest14
              case hy14 =>
                intro w' hSw
                have hSw : Keeps _ w' := hSw
                clear hSw
                go_simp
                try with_reducible rfl
              change wpAnyH _ _ _ _ _ _ _ (Act.put _ (some 44) _) _
              try simp only [Act.put, List.setIfInBounds_toArray, List.set_cons_zero, List.set_cons_succ]
              refine wpAnyH_take (i := 2) (v := undef) (by rfl) (by kernel_rfl) (by kernel_rfl) (by kernel_rfl) (by intro _ _ _ h; exact h) (Or.inr ⟨by kernel_rfl, rfl⟩) (by assumption) ?rest15
              change wpAnyH _ _ _ _ _ _ _ (Act.put _ (some 45) _) _
              try simp only [Act.put, List.setIfInBounds_toArray, List.set_cons_zero, List.set_cons_succ]
              refine wpAnyH_take (i := 3) (v := undef) (by rfl) (by kernel_rfl) (by kernel_rfl) (by kernel_rfl) (by intro _ _ _ h; exact h) (Or.inr ⟨by kernel_rfl, rfl⟩) (by assumption) ?rest16
              change wpAnyH _ _ _ _ _ _ _ (Act.put _ (some 46) _) _
              try simp only [Act.put, List.setIfInBounds_toArray, List.set_cons_zero, List.set_cons_succ]
              refine wpAnyH_take (i := 4) (v := undef) (by rfl) (by kernel_rfl) (by kernel_rfl) (by kernel_rfl) (by intro _ _ _ h; exact h) (Or.inr ⟨by kernel_rfl, rfl⟩) (by assumption) ?rest17
              change wpAnyH _ _ _ _ _ _ _ (Act.put _ (some 47) _) _
              try simp only [Act.put, List.setIfInBounds_toArray, List.set_cons_zero, List.set_cons_succ]
              refine wpAnyH_take (i := 5) (v := undef) (by rfl) (by kernel_rfl) (by kernel_rfl) (by kernel_rfl) (by intro _ _ _ h; exact h) (Or.inr ⟨by kernel_rfl, rfl⟩) (by assumption) ?rest18
              change wpAnyH _ _ _ _ _ _ _ (Act.put _ (some 48) _) _
              try simp only [Act.put, List.setIfInBounds_toArray, List.set_cons_zero, List.set_cons_succ]
              refine wpAnyH_take (i := 6) (v := ?vv19) (by rfl) (by kernel_rfl) (by kernel_rfl) (by kernel_rfl) (by intro _ _ _ h; exact h) (Or.inl ⟨by kernel_rfl, ?hy19⟩) (by assumption) ?rest19
              case hy19 =>
                intro w' hSw
                have hSw : Keeps _ w' := hSw
                clear hSw
                go_simp
                try with_reducible rfl
              change wpAnyH _ _ _ _ _ _ _ (Act.put _ (some 49) _) _
              try simp only [Act.put, List.setIfInBounds_toArray, List.set_cons_zero, List.set_cons_succ]
              refine wpAnyH_take (i := 7) (v := ?vv20) (by rfl) (by kernel_rfl) (by kernel_rfl) (by kernel_rfl) (by intro _ _ _ h; exact h) (Or.inl ⟨by kernel_rfl, ?hy20⟩) (by assumption) ?rest20
              case hy20 =>
                intro w' hSw
                have hSw : Keeps _ w' := hSw
                clear hSw
                go_simp
                try with_reducible rfl
              change wpAnyH _ _ _ _ _ _ _ (Act.put _ (some 50) _) _
              try simp only [Act.put, List.setIfInBounds_toArray, List.set_cons_zero, List.set_cons_succ]
              refine wpAnyH_take (i := 8) (v := undef) (by rfl) (by kernel_rfl) (by kernel_rfl) (by kernel_rfl) (by intro _ _ _ h; exact h) (Or.inr ⟨by kernel_rfl, rfl⟩) (by assumption) ?rest21
              change wpAnyH _ _ _ _ _ _ _ (Act.put _ (some 51) _) _
              try simp only [Act.put, List.setIfInBounds_toArray, List.set_cons_zero, List.set_cons_succ]
              refine wpAnyH_take (i := 9) (v := undef) (by rfl) (by kernel_rfl) (by kernel_rfl) (by kernel_rfl) (by intro _ _ _ h; exact h) (Or.inr ⟨by kernel_rfl, rfl⟩) (by assumption) ?rest22
              change wpAnyH _ _ _ _ _ _ _ (Act.put _ (some 52) _) _
              try simp only [Act.put, List.setIfInBounds_toArray, List.set_cons_zero, List.set_cons_succ]
              refine wpAnyH_take (i := 10) (v := undef) (by rfl) (by kernel_rfl) (by kernel_rfl) (by kernel_rfl) (by intro _ _ _ h; exact h) (Or.inr ⟨by kernel_rfl, rfl⟩) (by assumption) ?rest23
              change wpAnyH _ _ _ _ _ _ _ (Act.put _ (some 53) _) _
              try simp only [Act.put, List.setIfInBounds_toArray, List.set_cons_zero, List.set_cons_succ]
              refine wpAnyH_take (i := 11) (v := undef) (by rfl) (by kernel_rfl) (by kernel_rfl) (by kernel_rfl) (by intro _ _ _ h; exact h) (Or.inr ⟨by kernel_rfl, rfl⟩) (by assumption) ?rest24
              change wpAnyH _ _ _ _ _ _ _ (Act.put _ (some 54) _) _
              try simp only [Act.put, List.setIfInBounds_toArray, List.set_cons_zero, List.set_cons_succ]
              refine wpAnyH_take (i := 12) (v := undef) (by rfl) (by kernel_rfl) (by kernel_rfl) (by kernel_rfl) (by intro _ _ _ h; exact h) (Or.inr ⟨by kernel_rfl, rfl⟩) (by assumption) ?rest25
              change wpAnyH _ _ _ _ _ _ _ (Act.put _ (some 55) _) _
              try simp only [Act.put, List.setIfInBounds_toArray, List.set_cons_zero, List.set_cons_succ]
              refine wpAnyH_take (i := 13) (v := undef) (by rfl) (by kernel_rfl) (by kernel_rfl) (by kernel_rfl) (by intro _ _ _ h; exact h) (Or.inr ⟨by kernel_rfl, rfl⟩) (by assumption) ?rest26
              change wpAnyH _ _ _ _ _ _ _ (Act.put _ (some 56) _) _
              try simp only [Act.put, List.setIfInBounds_toArray, List.set_cons_zero, List.set_cons_succ]
              refine wpAnyH_take (i := 14) (v := ?vv27) (by rfl) (by kernel_rfl) (by kernel_rfl) (by kernel_rfl) (by intro _ _ _ h; exact h) (Or.inl ⟨by kernel_rfl, ?hy27⟩) (by assumption) ?rest27
              case hy27 =>
                intro w' hSw
                have hSw : Keeps _ w' := hSw
                clear hSw
                go_simp
                try with_reducible rfl
              change wpAnyH _ _ _ _ _ _ _ (Act.put _ (some 57) _) _
              try simp only [Act.put, List.setIfInBounds_toArray, List.set_cons_zero, List.set_cons_succ]
              refine wpAnyH_done (by kernel_rfl) ?_ _
              refine NoPanic.normal ?_
              have HK8 := Lib.hid (HK7.out.trans (show Keeps w7 w7.drew from (Keeps.refl w7).drew))
              generalize w7.drew = w8 at *
              go_wp2_with fail
              go_ret
              exact HE.out _ HK8.out
            | none =>
              rw [hlk] at HL
              simp only [Option.getD_none, Option.isSome_none] at HL
              cases hnx : namedB x with
              | false =>
                have HE := Lib.hid (fun w' hk => HEND.out w' hk (by rw [HDR.out, hlk, if_neg (by simp), if_pos hnx]))
                rw [hnx] at HNA
                clear HEND HDR hlk hnx
                refine wp_region_noPanic ?_
                refine wp_region_held_drew (S := fun w' => Keeps (w6) w') (by kernel_rfl) ((Keeps.refl _).drew) (fun _ => ?_)
                have hHeld : Keeps (w6) (w6).drew := (Keeps.refl _).drew
                refine wpAnyH_take (i := 0) (v := ?vv28) (by rfl) (by kernel_rfl) (by kernel_rfl) (by kernel_rfl) (by intro _ _ _ h; exact h) (Or.inl ⟨by kernel_rfl, ?hy28⟩) (by assumption) ?rest28
                case hy28 =>
                  intro w' hSw
                  have hSw : Keeps _ w' := hSw
                  clear hSw
                  go_simp
                  try with_reducible rfl
                change wpAnyH _ _ _ _ _ _ _ (Act.put _ (some 34) _) _
                try simp only [Act.put, List.setIfInBounds_toArray, List.set_cons_zero, List.set_cons_succ]
                refine wpAnyH_take (i := 1) (v := ?vv29) (by rfl) (by kernel_rfl) (by kernel_rfl) (by kernel_rfl) (by intro _ _ _ h; exact h) (Or.inl ⟨by kernel_rfl, ?hy29⟩) (by assumption) ?rest29
                case hy29 =>
                  intro w' hSw
                  have hSw : Keeps _ w' := hSw
                  clear hSw
                  go_simp
                  try with_reducible rfl
                change wpAnyH _ _ _ _ _ _ _ (Act.put _ (some 35) _) _
                try simp only [Act.put, List.setIfInBounds_toArray, List.set_cons_zero, List.set_cons_succ]
                refine wpAnyH_take (i := 2) (v := ?vv30) (by rfl) (by kernel_rfl) (by kernel_rfl) (by kernel_rfl) (by intro _ _ _ h; exact h) (Or.inl ⟨by kernel_rfl, ?hy30⟩) (by assumption) ?rest30
                case hy30 =>
                  intro w' hSw
                  have hSw : Keeps _ w' := hSw
                  clear hSw
                  go_simp
                  try with_reducible rfl
                change wpAnyH _ _ _ _ _ _ _ (Act.put _ (some 36) _) _
                try simp only [Act.put, List.setIfInBounds_toArray, List.set_cons_zero, List.set_cons_succ]
                refine wpAnyH_take (i := 3) (v := ?vv31) (by rfl) (by kernel_rfl) (by kernel_rfl) (by kernel_rfl) (by intro _ _ _ h; exact h) (Or.inl ⟨by kernel_rfl, ?hy31⟩) (by assumption) ?rest31
                case hy31 =>
                  intro w' hSw
                  have hSw : Keeps _ w' := hSw
                  have hx := keep1 hSw g2
                  clear hSw
                  go_simp
                  try with_reducible rfl
                change wpAnyH _ _ _ _ _ _ _ (Act.put _ (some 37) _) _
                try simp only [Act.put, List.setIfInBounds_toArray, List.set_cons_zero, List.set_cons_succ]
                refine wpAnyH_take (i := 4) (v := ?vv32) (by rfl) (by kernel_rfl) (by kernel_rfl) (by kernel_rfl) (by intro _ _ _ h; exact h) (Or.inl ⟨by kernel_rfl, ?hy32⟩) (by assumption) ?rest32
                case hy32 =>
                  intro w' hSw
                  have hSw : Keeps _ w' := hSw
                  clear hSw
                  go_simp
                  try with_reducible rfl
                change wpAnyH _ _ _ _ _ _ _ (Act.put _ (some 38) _) _
                try simp only [Act.put, List.setIfInBounds_toArray, List.set_cons_zero, List.set_cons_succ]
                refine wpAnyH_take (i := 5) (v := ?vv33) (by rfl) (by kernel_rfl) (by kernel_rfl) (by kernel_rfl) (by intro _ _ _ h; exact h) (Or.inl ⟨by kernel_rfl, ?hy33⟩) (by assumption) ?rest33
                case hy33 =>
                  intro w' hSw
                  have hSw : Keeps _ w' := hSw
                  have hx := keep1 hSw f0
                  clear hSw
                  go_simp
                  try with_reducible rfl
                change wpAnyH _ _ _ _ _ _ _ (Act.put _ (some 39) _) _
                try simp only [Act.put, List.setIfInBounds_toArray, List.set_cons_zero, List.set_cons_succ]
                refine wpAnyH_take (i := 6) (v := ?vv34) (by rfl) (by kernel_rfl) (by kernel_rfl) (by kernel_rfl) (by intro _ _ _ h; exact h) (Or.inl ⟨by kernel_rfl, ?hy34⟩) (by assumption) ?rest34
                case hy34 =>
                  intro w' hSw
                  have hSw : Keeps _ w' := hSw
                  have hx := HL.out w' hSw
                  clear hSw
                  go_simp
                  try with_reducible rfl
                change wpAnyH _ _ _ _ _ _ _ (Act.put _ (some 40) _) _
                try simp only [Act.put, List.setIfInBounds_toArray, List.set_cons_zero, List.set_cons_succ]
                refine wpAnyH_take (i := 7) (v := ?vv35) (by rfl) (by kernel_rfl) (by kernel_rfl) (by kernel_rfl) (by intro _ _ _ h; exact h) (Or.inl ⟨by kernel_rfl, ?hy35⟩) (by assumption) ?rest35
                case hy35 =>
                  intro w' hSw
                  have hSw : Keeps _ w' := hSw
                  clear hSw
                  go_simp
                  try with_reducible rfl
                change wpAnyH _ _ _ _ _ _ _ (Act.put _ (some 33) _) _
                try simp only [Act.put, List.setIfInBounds_toArray, List.set_cons_zero, List.set_cons_succ]
                refine wpAnyH_take (i := 8) (v := ?vv36) (by rfl) (by kernel_rfl) (by kernel_rfl) (by kernel_rfl) (by intro _ _ _ h; exact h) (Or.inl ⟨by kernel_rfl, ?hy36⟩) (by assumption) ?rest36
                case hy36 =>
                  intro w' hSw
                  have hSw : Keeps _ w' := hSw
                  clear hSw
                  go_simp
                  try with_reducible rfl
                change wpAnyH _ _ _ _ _ _ _ (Act.put _ (some 41) _) _
                try simp only [Act.put, List.setIfInBounds_toArray, List.set_cons_zero, List.set_cons_succ]
                refine wpAnyH_take (i := 9) (v := ?vv37) (by rfl) (by kernel_rfl) (by kernel_rfl) (by kernel_rfl) (by intro _ _ _ h; exact h) (Or.inl ⟨by kernel_rfl, ?hy37⟩) (by assumption) ?rest37
                case hy37 =>
                  intro w' hSw
                  have hSw : Keeps _ w' := hSw
                  clear hSw
                  go_simp
                  try with_reducible rfl
                change wpAnyH _ _ _ _ _ _ _ (Act.put _ (some 42) _) _
                try simp only [Act.put, List.setIfInBounds_toArray, List.set_cons_zero, List.set_cons_succ]
                refine wpAnyH_take (i := 10) (v := ?vv38) (by rfl) (by kernel_rfl) (by kernel_rfl) (by kernel_rfl) (by intro _ _ _ h; exact h) (Or.inl ⟨by kernel_rfl, ?hy38⟩) (by assumption) ?rest38
                case hy38 =>
                  intro w' hSw
                  have hSw : Keeps _ w' := hSw
                  clear hSw
                  go_simp
                  try with_reducible rfl
                change wpAnyH _ _ _ _ _ _ _ (Act.put _ (some 8) _) _
                try simp only [Act.put, List.setIfInBounds_toArray, List.set_cons_zero, List.set_cons_succ]
                refine wpAnyH_take (i := 11) (v := ?vv39) (by rfl) (by kernel_rfl) (by kernel_rfl) (by kernel_rfl) (by intro _ _ _ h; exact h) (Or.inl ⟨by kernel_rfl, ?hy39⟩) (by assumption) ?rest39
                case hy39 =>
                  intro w' hSw
                  have hSw : Keeps _ w' := hSw
                  clear hSw
                  go_simp
                  try with_reducible rfl
                change wpAnyH _ _ _ _ _ _ _ (Act.put _ (some 9) _) _
                try simp only [Act.put, List.setIfInBounds_toArray, List.set_cons_zero, List.set_cons_succ]
                refine wpAnyH_done (by kernel_rfl) ?_ _
                refine NoPanic.normal ?_
                have HK7 := Lib.hid (show Keeps w6 w6.drew from (Keeps.refl w6).drew)
                generalize w6.drew = w7 at *
                go_upto_region 8 with fail
                have f07 := keep1 HK7.out f0
                refine wp_region_noPanic ?_
                refine wp_region_held_drew (S := fun w' => Keeps (w7) w') (by kernel_rfl) ((Keeps.refl _).drew) (fun _ => ?_)
                have hHeld : Keeps (w7) (w7).drew := (Keeps.refl _).drew
                refine wpAnyH_take (i := 0) (v := ?vv40) (by rfl) (by kernel_rfl) (by kernel_rfl) (by kernel_rfl) (by intro _ _ _ h; exact h) (Or.inl ⟨by kernel_rfl, ?hy40⟩) (by assumption) ?rest40
                case hy40 =>
                  intro w' hSw
                  have hSw : Keeps _ w' := hSw
                  clear hSw
                  go_simp
                  try with_reducible rfl
                change wpAnyH _ _ _ _ _ _ _ (Act.put _ (some 43) _) _
                try simp only [Act.put, List.setIfInBounds_toArray, List.set_cons_zero, List.set_cons_succ]
                refine wpAnyH_take (i := 1) (v := ?vv41) (by rfl) (by kernel_rfl) (by kernel_rfl) (by kernel_rfl) (by intro _ _ _ h; exact h) (Or.inl ⟨by kernel_rfl, ?hy41⟩) (by assumption) ?rest41
                case hy41 =>
                  intro w' hSw
                  have hSw : Keeps _ w' := hSw
                  clear hSw
                  go_simp
                  try with_reducible rfl
                change wpAnyH _ _ _ _ _ _ _ (Act.put _ (some 44) _) _
                try simp only [Act.put, List.setIfInBounds_toArray, List.set_cons_zero, List.set_cons_succ]
                refine wpAnyH_take (i := 2) (v := ?vv42) (by rfl) (by kernel_rfl) (by kernel_rfl) (by kernel_rfl) (by intro _ _ _ h; exact h) (Or.inl ⟨by kernel_rfl, ?hy42⟩) (by assumption) ?rest42
                case hy42 =>
                  intro w' hSw
                  have hSw : Keeps _ w' := hSw
                  clear hSw
                  go_simp
                  try with_reducible rfl
                change wpAnyH _ _ _ _ _ _ _ (Act.put _ (some 45) _) _
                try simp only [Act.put, List.setIfInBounds_toArray, List.set_cons_zero, List.set_cons_succ]
                refine wpAnyH_take (i := 3) (v := ?vv43) (by rfl) (by kernel_rfl) (by kernel_rfl) (by kernel_rfl) (by intro _ _ _ h; exact h) (Or.inl ⟨by kernel_rfl, ?hy43⟩) (by assumption) ?rest43
                case hy43 =>
                  intro w' hSw
                  have hSw : Keeps _ w' := hSw
                  have hx := keep1 hSw f07
                  clear hSw
                  go_simp
                  try with_reducible rfl
                change wpAnyH _ _ _ _ _ _ _ (Act.put _ (some 46) _) _
                try simp only [Act.put, List.setIfInBounds_toArray, List.set_cons_zero, List.set_cons_succ]
                refine wpAnyH_ready (rs := [4]) (by kernel_rfl) (by simp) ?_
                refine AllReadyH.cons (o := _) rfl (fun K hK => ?_) AllReadyH.nil
                go_simp
                refine (HNA.out _).mono ?_
                rintro e w8 ⟨rfl, hk⟩
                have hb : Keeps _ w8 := hHeld.trans hk
                have HK8 := Lib.hid (HK7.out.trans hb)
                go_wp2_with fail
                refine hK.out _ _ hb (fun _ => ?_)
                clear hK K
                try simp only [Act.put, List.setIfInBounds_toArray, List.set_cons_zero, List.set_cons_succ]
                refine wpAnyH_more (S' := fun w' => Keeps w8 w') (fun _ h => hb.trans h) ?_
                clear hHeld hb hk
                have hHeld : Keeps w8 w8 := Keeps.refl _
                refine wpAnyH_take (i := 5) (v := ?vv44) (by rfl) (by kernel_rfl) (by kernel_rfl) (by kernel_rfl) (by intro _ _ _ h; exact h) (Or.inl ⟨by kernel_rfl, ?hy44⟩) (by assumption) ?rest44
                case hy44 =>
                  intro w' hSw
                  have hSw : Keeps _ w' := hSw
                  clear hSw
                  go_simp
                  try with_reducible rfl
                change wpAnyH _ _ _ _ _ _ _ (Act.put _ (some 48) _) _
                try simp only [Act.put, List.setIfInBounds_toArray, List.set_cons_zero, List.set_cons_succ]
                refine wpAnyH_take (i := 6) (v := ?vv45) (by rfl) (by kernel_rfl) (by kernel_rfl) (by kernel_rfl) (by intro _ _ _ h; exact h) (Or.inl ⟨by kernel_rfl, ?hy45⟩) (by assumption) ?rest45
                case hy45 =>
                  intro w' hSw
                  have hSw : Keeps _ w' := hSw
                  clear hSw
                  go_simp
                  try with_reducible rfl
                change wpAnyH _ _ _ _ _ _ _ (Act.put _ (some 49) _) _
                try simp only [Act.put, List.setIfInBounds_toArray, List.set_cons_zero, List.set_cons_succ]
                refine wpAnyH_take (i := 7) (v := ?vv46) (by rfl) (by kernel_rfl) (by kernel_rfl) (by kernel_rfl) (by intro _ _ _ h; exact h) (Or.inl ⟨by kernel_rfl, ?hy46⟩) (by assumption) ?rest46
                case hy46 =>
                  intro w' hSw
                  have hSw : Keeps _ w' := hSw
                  clear hSw
                  go_simp
                  try with_reducible rfl
                change wpAnyH _ _ _ _ _ _ _ (Act.put _ (some 50) _) _
                try simp only [Act.put, List.setIfInBounds_toArray, List.set_cons_zero, List.set_cons_succ]
                refine wpAnyH_take (i := 8) (v := undef) (by rfl) (by kernel_rfl) (by kernel_rfl) (by kernel_rfl) (by intro _ _ _ h; exact h) (Or.inr ⟨by kernel_rfl, rfl⟩) (by assumption) ?rest47
                change wpAnyH _ _ _ _ _ _ _ (Act.put _ (some 51) _) _
                try simp only [Act.put, List.setIfInBounds_toArray, List.set_cons_zero, List.set_cons_succ]
                refine wpAnyH_take (i := 9) (v := undef) (by rfl) (by kernel_rfl) (by kernel_rfl) (by kernel_rfl) (by intro _ _ _ h; exact h) (Or.inr ⟨by kernel_rfl, rfl⟩) (by assumption) ?rest48
                change wpAnyH _ _ _ _ _ _ _ (Act.put _ (some 52) _) _
                try simp only [Act.put, List.setIfInBounds_toArray, List.set_cons_zero, List.set_cons_succ]
                refine wpAnyH_take (i := 10) (v := undef) (by rfl) (by kernel_rfl) (by kernel_rfl) (by kernel_rfl) (by intro _ _ _ h; exact h) (Or.inr ⟨by kernel_rfl, rfl⟩) (by assumption) ?rest49
                change wpAnyH _ _ _ _ _ _ _ (Act.put _ (some 53) _) _
                try simp only [Act.put, List.setIfInBounds_toArray, List.set_cons_zero, List.set_cons_succ]
                refine wpAnyH_take (i := 11) (v := undef) (by rfl) (by kernel_rfl) (by kernel_rfl) (by kernel_rfl) (by intro _ _ _ h; exact h) (Or.inr ⟨by kernel_rfl, rfl⟩) (by assumption) ?rest50
                change wpAnyH _ _ _ _ _ _ _ (Act.put _ (some 54) _) _
                try simp only [Act.put, List.setIfInBounds_toArray, List.set_cons_zero, List.set_cons_succ]
                refine wpAnyH_take (i := 12) (v := undef) (by rfl) (by kernel_rfl) (by kernel_rfl) (by kernel_rfl) (by intro _ _ _ h; exact h) (Or.inr ⟨by kernel_rfl, rfl⟩) (by assumption) ?rest51
                change wpAnyH _ _ _ _ _ _ _ (Act.put _ (some 55) _) _
                try simp only [Act.put, List.setIfInBounds_toArray, List.set_cons_zero, List.set_cons_succ]
                refine wpAnyH_take (i := 13) (v := undef) (by rfl) (by kernel_rfl) (by kernel_rfl) (by kernel_rfl) (by intro _ _ _ h; exact h) (Or.inr ⟨by kernel_rfl, rfl⟩) (by assumption) ?rest52
                change wpAnyH _ _ _ _ _ _ _ (Act.put _ (some 56) _) _
                try simp only [Act.put, List.setIfInBounds_toArray, List.set_cons_zero, List.set_cons_succ]
                refine wpAnyH_take (i := 14) (v := ?vv53) (by rfl) (by kernel_rfl) (by kernel_rfl) (by kernel_rfl) (by intro _ _ _ h; exact h) (Or.inl ⟨by kernel_rfl, ?hy53⟩) (by assumption) ?rest53
                case hy53 =>
                  intro w' hSw
                  have hSw : Keeps _ w' := hSw
                  clear hSw
                  go_simp
                  try with_reducible rfl
                change wpAnyH _ _ _ _ _ _ _ (Act.put _ (some 57) _) _
                try simp only [Act.put, List.setIfInBounds_toArray, List.set_cons_zero, List.set_cons_succ]
                refine wpAnyH_done (by kernel_rfl) ?_ _
                refine NoPanic.normal ?_
                go_wp2_with fail
                go_ret
                exact HE.out _ HK8.out
              | true =>
                rw [hnx] at HNA
                have HNX := Lib.hid hnx
                by_cases hfit : cap - (bytesN ns l : Int) < (b.length : Int)
                · have HE := Lib.hid (fun w' hk => HEND.out w' hk (by rw [HDR.out, hlk, if_neg (by simp), if_neg (by simp [hnx]), if_pos hfit]))
                  have ht : decide (cap - (bytesN ns l : Int) < (b.length : Int)) = true := by simp [hfit]
                  clear HEND HDR hlk hnx hfit
                  refine wp_region_noPanic ?_
                  refine wp_region_held_drew (S := fun w' => Keeps (w6) w') (by kernel_rfl) ((Keeps.refl _).drew) (fun _ => ?_)
                  have hHeld : Keeps (w6) (w6).drew := (Keeps.refl _).drew
                  refine wpAnyH_take (i := 0) (v := ?vv54) (by rfl) (by kernel_rfl) (by kernel_rfl) (by kernel_rfl) (by intro _ _ _ h; exact h) (Or.inl ⟨by kernel_rfl, ?hy54⟩) (by assumption) ?rest54
                  case hy54 =>
                    intro w' hSw
                    have hSw : Keeps _ w' := hSw
                    clear hSw
                    go_simp
                    try with_reducible rfl
                  change wpAnyH _ _ _ _ _ _ _ (Act.put _ (some 34) _) _
                  try simp only [Act.put, List.setIfInBounds_toArray, List.set_cons_zero, List.set_cons_succ]
                  refine wpAnyH_take (i := 1) (v := ?vv55) (by rfl) (by kernel_rfl) (by kernel_rfl) (by kernel_rfl) (by intro _ _ _ h; exact h) (Or.inl ⟨by kernel_rfl, ?hy55⟩) (by assumption) ?rest55
                  case hy55 =>
                    intro w' hSw
                    have hSw : Keeps _ w' := hSw
                    clear hSw
                    go_simp
                    try with_reducible rfl
                  change wpAnyH _ _ _ _ _ _ _ (Act.put _ (some 35) _) _
                  try simp only [Act.put, List.setIfInBounds_toArray, List.set_cons_zero, List.set_cons_succ]
                  refine wpAnyH_take (i := 2) (v := ?vv56) (by rfl) (by kernel_rfl) (by kernel_rfl) (by kernel_rfl) (by intro _ _ _ h; exact h) (Or.inl ⟨by kernel_rfl, ?hy56⟩) (by assumption) ?rest56
                  case hy56 =>
                    intro w' hSw
                    have hSw : Keeps _ w' := hSw
                    clear hSw
                    go_simp
                    try with_reducible rfl
                  change wpAnyH _ _ _ _ _ _ _ (Act.put _ (some 36) _) _
                  try simp only [Act.put, List.setIfInBounds_toArray, List.set_cons_zero, List.set_cons_succ]
                  refine wpAnyH_take (i := 3) (v := ?vv57) (by rfl) (by kernel_rfl) (by kernel_rfl) (by kernel_rfl) (by intro _ _ _ h; exact h) (Or.inl ⟨by kernel_rfl, ?hy57⟩) (by assumption) ?rest57
                  case hy57 =>
                    intro w' hSw
                    have hSw : Keeps _ w' := hSw
                    have hx := keep1 hSw g2
                    clear hSw
                    go_simp
                    try with_reducible rfl
                  change wpAnyH _ _ _ _ _ _ _ (Act.put _ (some 37) _) _
                  try simp only [Act.put, List.setIfInBounds_toArray, List.set_cons_zero, List.set_cons_succ]
                  refine wpAnyH_take (i := 4) (v := ?vv58) (by rfl) (by kernel_rfl) (by kernel_rfl) (by kernel_rfl) (by intro _ _ _ h; exact h) (Or.inl ⟨by kernel_rfl, ?hy58⟩) (by assumption) ?rest58
                  case hy58 =>
                    intro w' hSw
                    have hSw : Keeps _ w' := hSw
                    clear hSw
                    go_simp
                    try with_reducible rfl
                  change wpAnyH _ _ _ _ _ _ _ (Act.put _ (some 38) _) _
                  try simp only [Act.put, List.setIfInBounds_toArray, List.set_cons_zero, List.set_cons_succ]
                  refine wpAnyH_take (i := 5) (v := ?vv59) (by rfl) (by kernel_rfl) (by kernel_rfl) (by kernel_rfl) (by intro _ _ _ h; exact h) (Or.inl ⟨by kernel_rfl, ?hy59⟩) (by assumption) ?rest59
                  case hy59 =>
                    intro w' hSw
                    have hSw : Keeps _ w' := hSw
                    have hx := keep1 hSw f0
                    clear hSw
                    go_simp
                    try with_reducible rfl
                  change wpAnyH _ _ _ _ _ _ _ (Act.put _ (some 39) _) _
                  try simp only [Act.put, List.setIfInBounds_toArray, List.set_cons_zero, List.set_cons_succ]
                  refine wpAnyH_take (i := 6) (v := ?vv60) (by rfl) (by kernel_rfl) (by kernel_rfl) (by kernel_rfl) (by intro _ _ _ h; exact h) (Or.inl ⟨by kernel_rfl, ?hy60⟩) (by assumption) ?rest60
                  case hy60 =>
                    intro w' hSw
                    have hSw : Keeps _ w' := hSw
                    have hx := HL.out w' hSw
                    clear hSw
                    go_simp
                    try with_reducible rfl
                  change wpAnyH _ _ _ _ _ _ _ (Act.put _ (some 40) _) _
                  try simp only [Act.put, List.setIfInBounds_toArray, List.set_cons_zero, List.set_cons_succ]
                  refine wpAnyH_take (i := 7) (v := ?vv61) (by rfl) (by kernel_rfl) (by kernel_rfl) (by kernel_rfl) (by intro _ _ _ h; exact h) (Or.inl ⟨by kernel_rfl, ?hy61⟩) (by assumption) ?rest61
                  case hy61 =>
                    intro w' hSw
                    have hSw : Keeps _ w' := hSw
                    clear hSw
                    go_simp
                    try with_reducible rfl
                  change wpAnyH _ _ _ _ _ _ _ (Act.put _ (some 33) _) _
                  try simp only [Act.put, List.setIfInBounds_toArray, List.set_cons_zero, List.set_cons_succ]
                  refine wpAnyH_take (i := 8) (v := ?vv62) (by rfl) (by kernel_rfl) (by kernel_rfl) (by kernel_rfl) (by intro _ _ _ h; exact h) (Or.inl ⟨by kernel_rfl, ?hy62⟩) (by assumption) ?rest62
                  case hy62 =>
                    intro w' hSw
                    have hSw : Keeps _ w' := hSw
                    clear hSw
                    go_simp
                    try with_reducible rfl
                  change wpAnyH _ _ _ _ _ _ _ (Act.put _ (some 41) _) _
                  try simp only [Act.put, List.setIfInBounds_toArray, List.set_cons_zero, List.set_cons_succ]
                  refine wpAnyH_take (i := 9) (v := ?vv63) (by rfl) (by kernel_rfl) (by kernel_rfl) (by kernel_rfl) (by intro _ _ _ h; exact h) (Or.inl ⟨by kernel_rfl, ?hy63⟩) (by assumption) ?rest63
                  case hy63 =>
                    intro w' hSw
                    have hSw : Keeps _ w' := hSw
                    clear hSw
                    go_simp
                    try with_reducible rfl
                  change wpAnyH _ _ _ _ _ _ _ (Act.put _ (some 42) _) _
                  try simp only [Act.put, List.setIfInBounds_toArray, List.set_cons_zero, List.set_cons_succ]
                  refine wpAnyH_take (i := 10) (v := ?vv64) (by rfl) (by kernel_rfl) (by kernel_rfl) (by kernel_rfl) (by intro _ _ _ h; exact h) (Or.inl ⟨by kernel_rfl, ?hy64⟩) (by assumption) ?rest64
                  case hy64 =>
                    intro w' hSw
                    have hSw : Keeps _ w' := hSw
                    clear hSw
                    go_simp
                    try with_reducible rfl
                  change wpAnyH _ _ _ _ _ _ _ (Act.put _ (some 8) _) _
                  try simp only [Act.put, List.setIfInBounds_toArray, List.set_cons_zero, List.set_cons_succ]
                  refine wpAnyH_take (i := 11) (v := ?vv65) (by rfl) (by kernel_rfl) (by kernel_rfl) (by kernel_rfl) (by intro _ _ _ h; exact h) (Or.inl ⟨by kernel_rfl, ?hy65⟩) (by assumption) ?rest65
                  case hy65 =>
                    intro w' hSw
                    have hSw : Keeps _ w' := hSw
                    clear hSw
                    go_simp
                    try with_reducible rfl
                  change wpAnyH _ _ _ _ _ _ _ (Act.put _ (some 9) _) _
                  try simp only [Act.put, List.setIfInBounds_toArray, List.set_cons_zero, List.set_cons_succ]
                  refine wpAnyH_done (by kernel_rfl) ?_ _
                  refine NoPanic.normal ?_
                  have HK7 := Lib.hid (show Keeps w6 w6.drew from (Keeps.refl w6).drew)
                  generalize w6.drew = w7 at *
                  go_upto_region 8 with fail
                  have f07 := keep1 HK7.out f0
                  refine wp_region_noPanic ?_
                  refine wp_region_held_drew (S := fun w' => Keeps (w7) w') (by kernel_rfl) ((Keeps.refl _).drew) (fun _ => ?_)
                  have hHeld : Keeps (w7) (w7).drew := (Keeps.refl _).drew
                  refine wpAnyH_take (i := 0) (v := ?vv66) (by rfl) (by kernel_rfl) (by kernel_rfl) (by kernel_rfl) (by intro _ _ _ h; exact h) (Or.inl ⟨by kernel_rfl, ?hy66⟩) (by assumption) ?rest66
                  case hy66 =>
                    intro w' hSw
                    have hSw : Keeps _ w' := hSw
                    clear hSw
                    go_simp
                    try with_reducible rfl
                  change wpAnyH _ _ _ _ _ _ _ (Act.put _ (some 43) _) _
                  try simp only [Act.put, List.setIfInBounds_toArray, List.set_cons_zero, List.set_cons_succ]
                  refine wpAnyH_take (i := 1) (v := ?vv67) (by rfl) (by kernel_rfl) (by kernel_rfl) (by kernel_rfl) (by intro _ _ _ h; exact h) (Or.inl ⟨by kernel_rfl, ?hy67⟩) (by assumption) ?rest67
                  case hy67 =>
                    intro w' hSw
                    have hSw : Keeps _ w' := hSw
                    clear hSw
                    go_simp
                    try with_reducible rfl
                  change wpAnyH _ _ _ _ _ _ _ (Act.put _ (some 44) _) _
                  try simp only [Act.put, List.setIfInBounds_toArray, List.set_cons_zero, List.set_cons_succ]
                  refine wpAnyH_take (i := 2) (v := ?vv68) (by rfl) (by kernel_rfl) (by kernel_rfl) (by kernel_rfl) (by intro _ _ _ h; exact h) (Or.inl ⟨by kernel_rfl, ?hy68⟩) (by assumption) ?rest68
                  case hy68 =>
                    intro w' hSw
                    have hSw : Keeps _ w' := hSw
                    clear hSw
                    go_simp
                    try with_reducible rfl
                  change wpAnyH _ _ _ _ _ _ _ (Act.put _ (some 45) _) _
                  try simp only [Act.put, List.setIfInBounds_toArray, List.set_cons_zero, List.set_cons_succ]
                  refine wpAnyH_take (i := 3) (v := ?vv69) (by rfl) (by kernel_rfl) (by kernel_rfl) (by kernel_rfl) (by intro _ _ _ h; exact h) (Or.inl ⟨by kernel_rfl, ?hy69⟩) (by assumption) ?rest69
                  case hy69 =>
                    intro w' hSw
                    have hSw : Keeps _ w' := hSw
                    have hx := keep1 hSw f07
                    clear hSw
                    go_simp
                    try with_reducible rfl
                  change wpAnyH _ _ _ _ _ _ _ (Act.put _ (some 46) _) _
                  try simp only [Act.put, List.setIfInBounds_toArray, List.set_cons_zero, List.set_cons_succ]
                  refine wpAnyH_ready (rs := [4]) (by kernel_rfl) (by simp) ?_
                  refine AllReadyH.cons (o := _) rfl (fun K hK => ?_) AllReadyH.nil
                  go_simp
                  refine (HNA.out _).mono ?_
                  rintro e w8 ⟨rfl, hk⟩
                  have hb : Keeps _ w8 := hHeld.trans hk
                  have HK8 := Lib.hid (HK7.out.trans hb)
                  have f18 := keep1 HK8.out f1
                  go_wp2_with fail
                  refine hK.out _ _ hb (fun _ => ?_)
                  clear hK K
                  try simp only [Act.put, List.setIfInBounds_toArray, List.set_cons_zero, List.set_cons_succ]
                  refine wpAnyH_more (S' := fun w' => Keeps w8 w') (fun _ h => hb.trans h) ?_
                  clear hHeld hb hk
                  have hHeld : Keeps w8 w8 := Keeps.refl _
                  refine wpAnyH_take (i := 5) (v := ?vv70) (by rfl) (by kernel_rfl) (by kernel_rfl) (by kernel_rfl) (by intro _ _ _ h; exact h) (Or.inl ⟨by kernel_rfl, ?hy70⟩) (by assumption) ?rest70
                  case hy70 =>
                    intro w' hSw
                    have hSw : Keeps _ w' := hSw
                    clear hSw
                    go_simp
                    try with_reducible rfl
                  change wpAnyH _ _ _ _ _ _ _ (Act.put _ (some 48) _) _
                  try simp only [Act.put, List.setIfInBounds_toArray, List.set_cons_zero, List.set_cons_succ]
                  refine wpAnyH_take (i := 6) (v := ?vv71) (by rfl) (by kernel_rfl) (by kernel_rfl) (by kernel_rfl) (by intro _ _ _ h; exact h) (Or.inl ⟨by kernel_rfl, ?hy71⟩) (by assumption) ?rest71
                  case hy71 =>
                    intro w' hSw
                    have hSw : Keeps _ w' := hSw
                    clear hSw
                    go_simp
                    try with_reducible rfl
                  change wpAnyH _ _ _ _ _ _ _ (Act.put _ (some 49) _) _
                  try simp only [Act.put, List.setIfInBounds_toArray, List.set_cons_zero, List.set_cons_succ]
                  refine wpAnyH_take (i := 7) (v := ?vv72) (by rfl) (by kernel_rfl) (by kernel_rfl) (by kernel_rfl) (by intro _ _ _ h; exact h) (Or.inl ⟨by kernel_rfl, ?hy72⟩) (by assumption) ?rest72
                  case hy72 =>
                    intro w' hSw
                    have hSw : Keeps _ w' := hSw
                    clear hSw
                    go_simp
                    try with_reducible rfl
                  change wpAnyH _ _ _ _ _ _ _ (Act.put _ (some 50) _) _
                  try simp only [Act.put, List.setIfInBounds_toArray, List.set_cons_zero, List.set_cons_succ]
                  refine wpAnyH_take (i := 8) (v := ?vv73) (by rfl) (by kernel_rfl) (by kernel_rfl) (by kernel_rfl) (by intro _ _ _ h; exact h) (Or.inl ⟨by kernel_rfl, ?hy73⟩) (by assumption) ?rest73
                  case hy73 =>
                    intro w' hSw
                    have hSw : Keeps _ w' := hSw
                    clear hSw
                    go_simp
                    try with_reducible rfl
                  change wpAnyH _ _ _ _ _ _ _ (Act.put _ (some 51) _) _
                  try simp only [Act.put, List.setIfInBounds_toArray, List.set_cons_zero, List.set_cons_succ]
                  refine wpAnyH_take (i := 9) (v := ?vv74) (by rfl) (by kernel_rfl) (by kernel_rfl) (by kernel_rfl) (by intro _ _ _ h; exact h) (Or.inl ⟨by kernel_rfl, ?hy74⟩) (by assumption) ?rest74
                  case hy74 =>
                    intro w' hSw
                    have hSw : Keeps _ w' := hSw
                    have hx := keep1 hSw f18
                    clear hSw
                    go_simp
                    try with_reducible rfl
                  change wpAnyH _ _ _ _ _ _ _ (Act.put _ (some 52) _) _
                  try simp only [Act.put, List.setIfInBounds_toArray, List.set_cons_zero, List.set_cons_succ]
                  refine wpAnyH_take (i := 10) (v := ?vv75) (by rfl) (by kernel_rfl) (by kernel_rfl) (by kernel_rfl) (by intro _ _ _ h; exact h) (Or.inl ⟨by kernel_rfl, ?hy75⟩) (by assumption) ?rest75
                  case hy75 =>
                    intro w' hSw
                    have hSw : Keeps _ w' := hSw
                    clear hSw
                    go_simp
                    try with_reducible rfl
                  change wpAnyH _ _ _ _ _ _ _ (Act.put _ (some 53) _) _
                  try simp only [Act.put, List.setIfInBounds_toArray, List.set_cons_zero, List.set_cons_succ]
                  refine wpAnyH_take (i := 11) (v := ?vv76) (by rfl) (by kernel_rfl) (by kernel_rfl) (by kernel_rfl) (by intro _ _ _ h; exact h) (Or.inl ⟨by kernel_rfl, ?hy76⟩) (by assumption) ?rest76
                  case hy76 =>
                    intro w' hSw
                    have hSw : Keeps _ w' := hSw
                    clear hSw
                    go_simp
                    try with_reducible rfl
                  change wpAnyH _ _ _ _ _ _ _ (Act.put _ (some 54) _) _
                  try simp only [Act.put, List.setIfInBounds_toArray, List.set_cons_zero, List.set_cons_succ]
                  refine wpAnyH_ready (rs := [12]) (by kernel_rfl) (by simp) ?_
                  refine AllReadyH.cons (o := _) rfl (fun K hK => ?_) AllReadyH.nil
                  go_simp
                  refine (HFR.out _ (HK8.out.trans hHeld)).mono ?_
                  rintro e w9 ⟨rfl, hk⟩
                  have hb : Keeps _ w9 := hHeld.trans hk
                  have HK9 := Lib.hid (HK8.out.trans hb)
                  go_wp2_with fail
                  refine hK.out _ _ hb (fun _ => ?_)
                  clear hK K
                  try simp only [Act.put, List.setIfInBounds_toArray, List.set_cons_zero, List.set_cons_succ]
                  refine wpAnyH_more (S' := fun w' => Keeps w9 w') (fun _ h => hb.trans h) ?_
                  clear hHeld hb hk
                  have hHeld : Keeps w9 w9 := Keeps.refl _
                  refine wpAnyH_take (i := 13) (v := ?vv77) (by rfl) (by kernel_rfl) (by kernel_rfl) (by kernel_rfl) (by intro _ _ _ h; exact h) (Or.inl ⟨by kernel_rfl, ?hy77⟩) (by assumption) ?rest77
                  case hy77 =>
                    intro w' hSw
                    have hSw : Keeps _ w' := hSw
                    clear hSw
                    go_simp
                    try with_reducible rfl
                  change wpAnyH _ _ _ _ _ _ _ (Act.put _ (some 56) _) _
                  try simp only [Act.put, List.setIfInBounds_toArray, List.set_cons_zero, List.set_cons_succ]
                  refine wpAnyH_take (i := 14) (v := ?vv78) (by rfl) (by kernel_rfl) (by kernel_rfl) (by kernel_rfl) (by intro _ _ _ h; exact h) (Or.inl ⟨by kernel_rfl, ?hy78⟩) (by assumption) ?rest78
                  case hy78 =>
                    intro w' hSw
                    have hSw : Keeps _ w' := hSw
                    clear hSw
                    go_simp
                    try with_reducible rfl
                  change wpAnyH _ _ _ _ _ _ _ (Act.put _ (some 57) _) _
                  try simp only [Act.put, List.setIfInBounds_toArray, List.set_cons_zero, List.set_cons_succ]
                  refine wpAnyH_done (by kernel_rfl) ?_ _
                  refine NoPanic.normal ?_
                  go_wp2_with fail
                  go_ret
                  exact HE.out _ HK9.out
                · have HRST := Lib.hid (show newF cap (fs.drop (j + 1)) (ns ++ [madeN b]) (putN l x ns.length) = newF cap fs [] [] from by
                    rw [← HS.out.rest, HDR.out, hlk, if_neg (by simp), if_neg (by simp [hnx]), if_neg hfit])
                  have ht : decide (cap - (bytesN ns l : Int) < (b.length : Int)) = false := by simp [hfit]
                  have HFIT := Lib.hid hfit
                  have HLK := Lib.hid hlk
                  clear HEND HDR hlk hnx hfit
                  refine wp_region_noPanic ?_
                  refine wp_region_held_drew (S := fun w' => Keeps (w6) w') (by kernel_rfl) ((Keeps.refl _).drew) (fun _ => ?_)
                  have hHeld : Keeps (w6) (w6).drew := (Keeps.refl _).drew
                  refine wpAnyH_take (i := 0) (v := ?vv79) (by rfl) (by kernel_rfl) (by kernel_rfl) (by kernel_rfl) (by intro _ _ _ h; exact h) (Or.inl ⟨by kernel_rfl, ?hy79⟩) (by assumption) ?rest79
                  case hy79 =>
                    intro w' hSw
                    have hSw : Keeps _ w' := hSw
                    clear hSw
                    go_simp
                    try with_reducible rfl
                  change wpAnyH _ _ _ _ _ _ _ (Act.put _ (some 34) _) _
                  try simp only [Act.put, List.setIfInBounds_toArray, List.set_cons_zero, List.set_cons_succ]
                  refine wpAnyH_take (i := 1) (v := ?vv80) (by rfl) (by kernel_rfl) (by kernel_rfl) (by kernel_rfl) (by intro _ _ _ h; exact h) (Or.inl ⟨by kernel_rfl, ?hy80⟩) (by assumption) ?rest80
                  case hy80 =>
                    intro w' hSw
                    have hSw : Keeps _ w' := hSw
                    clear hSw
                    go_simp
                    try with_reducible rfl
                  change wpAnyH _ _ _ _ _ _ _ (Act.put _ (some 35) _) _
                  try simp only [Act.put, List.setIfInBounds_toArray, List.set_cons_zero, List.set_cons_succ]
                  refine wpAnyH_take (i := 2) (v := ?vv81) (by rfl) (by kernel_rfl) (by kernel_rfl) (by kernel_rfl) (by intro _ _ _ h; exact h) (Or.inl ⟨by kernel_rfl, ?hy81⟩) (by assumption) ?rest81
                  case hy81 =>
                    intro w' hSw
                    have hSw : Keeps _ w' := hSw
                    clear hSw
                    go_simp
                    try with_reducible rfl
                  change wpAnyH _ _ _ _ _ _ _ (Act.put _ (some 36) _) _
                  try simp only [Act.put, List.setIfInBounds_toArray, List.set_cons_zero, List.set_cons_succ]
                  refine wpAnyH_take (i := 3) (v := ?vv82) (by rfl) (by kernel_rfl) (by kernel_rfl) (by kernel_rfl) (by intro _ _ _ h; exact h) (Or.inl ⟨by kernel_rfl, ?hy82⟩) (by assumption) ?rest82
                  case hy82 =>
                    intro w' hSw
                    have hSw : Keeps _ w' := hSw
                    have hx := keep1 hSw g2
                    clear hSw
                    go_simp
                    try with_reducible rfl
                  change wpAnyH _ _ _ _ _ _ _ (Act.put _ (some 37) _) _
                  try simp only [Act.put, List.setIfInBounds_toArray, List.set_cons_zero, List.set_cons_succ]
                  refine wpAnyH_take (i := 4) (v := ?vv83) (by rfl) (by kernel_rfl) (by kernel_rfl) (by kernel_rfl) (by intro _ _ _ h; exact h) (Or.inl ⟨by kernel_rfl, ?hy83⟩) (by assumption) ?rest83
                  case hy83 =>
                    intro w' hSw
                    have hSw : Keeps _ w' := hSw
                    clear hSw
                    go_simp
                    try with_reducible rfl
                  change wpAnyH _ _ _ _ _ _ _ (Act.put _ (some 38) _) _
                  try simp only [Act.put, List.setIfInBounds_toArray, List.set_cons_zero, List.set_cons_succ]
                  refine wpAnyH_take (i := 5) (v := ?vv84) (by rfl) (by kernel_rfl) (by kernel_rfl) (by kernel_rfl) (by intro _ _ _ h; exact h) (Or.inl ⟨by kernel_rfl, ?hy84⟩) (by assumption) ?rest84
                  case hy84 =>
                    intro w' hSw
                    have hSw : Keeps _ w' := hSw
                    have hx := keep1 hSw f0
                    clear hSw
                    go_simp
                    try with_reducible rfl
                  change wpAnyH _ _ _ _ _ _ _ (Act.put _ (some 39) _) _
                  try simp only [Act.put, List.setIfInBounds_toArray, List.set_cons_zero, List.set_cons_succ]
                  refine wpAnyH_take (i := 6) (v := ?vv85) (by rfl) (by kernel_rfl) (by kernel_rfl) (by kernel_rfl) (by intro _ _ _ h; exact h) (Or.inl ⟨by kernel_rfl, ?hy85⟩) (by assumption) ?rest85
                  case hy85 =>
                    intro w' hSw
                    have hSw : Keeps _ w' := hSw
                    have hx := HL.out w' hSw
                    clear hSw
                    go_simp
                    try with_reducible rfl
                  change wpAnyH _ _ _ _ _ _ _ (Act.put _ (some 40) _) _
                  try simp only [Act.put, List.setIfInBounds_toArray, List.set_cons_zero, List.set_cons_succ]
                  refine wpAnyH_take (i := 7) (v := ?vv86) (by rfl) (by kernel_rfl) (by kernel_rfl) (by kernel_rfl) (by intro _ _ _ h; exact h) (Or.inl ⟨by kernel_rfl, ?hy86⟩) (by assumption) ?rest86
                  case hy86 =>
                    intro w' hSw
                    have hSw : Keeps _ w' := hSw
                    clear hSw
                    go_simp
                    try with_reducible rfl
                  change wpAnyH _ _ _ _ _ _ _ (Act.put _ (some 33) _) _
                  try simp only [Act.put, List.setIfInBounds_toArray, List.set_cons_zero, List.set_cons_succ]
                  refine wpAnyH_take (i := 8) (v := ?vv87) (by rfl) (by kernel_rfl) (by kernel_rfl) (by kernel_rfl) (by intro _ _ _ h; exact h) (Or.inl ⟨by kernel_rfl, ?hy87⟩) (by assumption) ?rest87
                  case hy87 =>
                    intro w' hSw
                    have hSw : Keeps _ w' := hSw
                    clear hSw
                    go_simp
                    try with_reducible rfl
                  change wpAnyH _ _ _ _ _ _ _ (Act.put _ (some 41) _) _
                  try simp only [Act.put, List.setIfInBounds_toArray, List.set_cons_zero, List.set_cons_succ]
                  refine wpAnyH_take (i := 9) (v := ?vv88) (by rfl) (by kernel_rfl) (by kernel_rfl) (by kernel_rfl) (by intro _ _ _ h; exact h) (Or.inl ⟨by kernel_rfl, ?hy88⟩) (by assumption) ?rest88
                  case hy88 =>
                    intro w' hSw
                    have hSw : Keeps _ w' := hSw
                    clear hSw
                    go_simp
                    try with_reducible rfl
                  change wpAnyH _ _ _ _ _ _ _ (Act.put _ (some 42) _) _
                  try simp only [Act.put, List.setIfInBounds_toArray, List.set_cons_zero, List.set_cons_succ]
                  refine wpAnyH_take (i := 10) (v := ?vv89) (by rfl) (by kernel_rfl) (by kernel_rfl) (by kernel_rfl) (by intro _ _ _ h; exact h) (Or.inl ⟨by kernel_rfl, ?hy89⟩) (by assumption) ?rest89
                  case hy89 =>
                    intro w' hSw
                    have hSw : Keeps _ w' := hSw
                    clear hSw
                    go_simp
                    try with_reducible rfl
                  change wpAnyH _ _ _ _ _ _ _ (Act.put _ (some 8) _) _
                  try simp only [Act.put, List.setIfInBounds_toArray, List.set_cons_zero, List.set_cons_succ]
                  refine wpAnyH_take (i := 11) (v := ?vv90) (by rfl) (by kernel_rfl) (by kernel_rfl) (by kernel_rfl) (by intro _ _ _ h; exact h) (Or.inl ⟨by kernel_rfl, ?hy90⟩) (by assumption) ?rest90
                  case hy90 =>
                    intro w' hSw
                    have hSw : Keeps _ w' := hSw
                    clear hSw
                    go_simp
                    try with_reducible rfl
                  change wpAnyH _ _ _ _ _ _ _ (Act.put _ (some 9) _) _
                  try simp only [Act.put, List.setIfInBounds_toArray, List.set_cons_zero, List.set_cons_succ]
                  refine wpAnyH_done (by kernel_rfl) ?_ _
                  refine NoPanic.normal ?_
                  have HK7 := Lib.hid (show Keeps w6 w6.drew from (Keeps.refl w6).drew)
                  generalize w6.drew = w7 at *
                  go_upto_region 8 with fail
                  have f07 := keep1 HK7.out f0
                  refine wp_region_noPanic ?_
                  refine wp_region_held_drew (S := fun w' => Keeps (w7) w') (by kernel_rfl) ((Keeps.refl _).drew) (fun _ => ?_)
                  have hHeld : Keeps (w7) (w7).drew := (Keeps.refl _).drew
                  refine wpAnyH_take (i := 0) (v := ?vv91) (by rfl) (by kernel_rfl) (by kernel_rfl) (by kernel_rfl) (by intro _ _ _ h; exact h) (Or.inl ⟨by kernel_rfl, ?hy91⟩) (by assumption) ?rest91
                  case hy91 =>
                    intro w' hSw
                    have hSw : Keeps _ w' := hSw
                    clear hSw
                    go_simp
                    try with_reducible rfl
                  change wpAnyH _ _ _ _ _ _ _ (Act.put _ (some 43) _) _
                  try simp only [Act.put, List.setIfInBounds_toArray, List.set_cons_zero, List.set_cons_succ]
                  refine wpAnyH_take (i := 1) (v := ?vv92) (by rfl) (by kernel_rfl) (by kernel_rfl) (by kernel_rfl) (by intro _ _ _ h; exact h) (Or.inl ⟨by kernel_rfl, ?hy92⟩) (by assumption) ?rest92
                  case hy92 =>
                    intro w' hSw
                    have hSw : Keeps _ w' := hSw
                    clear hSw
                    go_simp
                    try with_reducible rfl
                  change wpAnyH _ _ _ _ _ _ _ (Act.put _ (some 44) _) _
                  try simp only [Act.put, List.setIfInBounds_toArray, List.set_cons_zero, List.set_cons_succ]
                  refine wpAnyH_take (i := 2) (v := ?vv93) (by rfl) (by kernel_rfl) (by kernel_rfl) (by kernel_rfl) (by intro _ _ _ h; exact h) (Or.inl ⟨by kernel_rfl, ?hy93⟩) (by assumption) ?rest93
                  case hy93 =>
                    intro w' hSw
                    have hSw : Keeps _ w' := hSw
                    clear hSw
                    go_simp
                    try with_reducible rfl
                  change wpAnyH _ _ _ _ _ _ _ (Act.put _ (some 45) _) _
                  try simp only [Act.put, List.setIfInBounds_toArray, List.set_cons_zero, List.set_cons_succ]
                  refine wpAnyH_take (i := 3) (v := ?vv94) (by rfl) (by kernel_rfl) (by kernel_rfl) (by kernel_rfl) (by intro _ _ _ h; exact h) (Or.inl ⟨by kernel_rfl, ?hy94⟩) (by assumption) ?rest94
                  case hy94 =>
                    intro w' hSw
                    have hSw : Keeps _ w' := hSw
                    have hx := keep1 hSw f07
                    clear hSw
                    go_simp
                    try with_reducible rfl
                  change wpAnyH _ _ _ _ _ _ _ (Act.put _ (some 46) _) _
                  try simp only [Act.put, List.setIfInBounds_toArray, List.set_cons_zero, List.set_cons_succ]
                  refine wpAnyH_ready (rs := [4]) (by kernel_rfl) (by simp) ?_
                  refine AllReadyH.cons (o := _) rfl (fun K hK => ?_) AllReadyH.nil
                  go_simp
                  refine (HNA.out _).mono ?_
                  rintro e w8 ⟨rfl, hk⟩
                  have hb : Keeps _ w8 := hHeld.trans hk
                  have HK8 := Lib.hid (HK7.out.trans hb)
                  have f18 := keep1 HK8.out f1
                  go_wp2_with fail
                  refine hK.out _ _ hb (fun _ => ?_)
                  clear hK K
                  try simp only [Act.put, List.setIfInBounds_toArray, List.set_cons_zero, List.set_cons_succ]
                  refine wpAnyH_more (S' := fun w' => Keeps w8 w') (fun _ h => hb.trans h) ?_
                  clear hHeld hb hk
                  have hHeld : Keeps w8 w8 := Keeps.refl _
                  refine wpAnyH_take (i := 5) (v := ?vv95) (by rfl) (by kernel_rfl) (by kernel_rfl) (by kernel_rfl) (by intro _ _ _ h; exact h) (Or.inl ⟨by kernel_rfl, ?hy95⟩) (by assumption) ?rest95
                  case hy95 =>
                    intro w' hSw
                    have hSw : Keeps _ w' := hSw
                    clear hSw
                    go_simp
                    try with_reducible rfl
                  change wpAnyH _ _ _ _ _ _ _ (Act.put _ (some 48) _) _
                  try simp only [Act.put, List.setIfInBounds_toArray, List.set_cons_zero, List.set_cons_succ]
                  refine wpAnyH_take (i := 6) (v := ?vv96) (by rfl) (by kernel_rfl) (by kernel_rfl) (by kernel_rfl) (by intro _ _ _ h; exact h) (Or.inl ⟨by kernel_rfl, ?hy96⟩) (by assumption) ?rest96
                  case hy96 =>
                    intro w' hSw
                    have hSw : Keeps _ w' := hSw
                    clear hSw
                    go_simp
                    try with_reducible rfl
                  change wpAnyH _ _ _ _ _ _ _ (Act.put _ (some 49) _) _
                  try simp only [Act.put, List.setIfInBounds_toArray, List.set_cons_zero, List.set_cons_succ]
                  refine wpAnyH_take (i := 7) (v := ?vv97) (by rfl) (by kernel_rfl) (by kernel_rfl) (by kernel_rfl) (by intro _ _ _ h; exact h) (Or.inl ⟨by kernel_rfl, ?hy97⟩) (by assumption) ?rest97
                  case hy97 =>
                    intro w' hSw
                    have hSw : Keeps _ w' := hSw
                    clear hSw
                    go_simp
                    try with_reducible rfl
                  change wpAnyH _ _ _ _ _ _ _ (Act.put _ (some 50) _) _
                  try simp only [Act.put, List.setIfInBounds_toArray, List.set_cons_zero, List.set_cons_succ]
                  refine wpAnyH_take (i := 8) (v := ?vv98) (by rfl) (by kernel_rfl) (by kernel_rfl) (by kernel_rfl) (by intro _ _ _ h; exact h) (Or.inl ⟨by kernel_rfl, ?hy98⟩) (by assumption) ?rest98
                  case hy98 =>
                    intro w' hSw
                    have hSw : Keeps _ w' := hSw
                    clear hSw
                    go_simp
                    try with_reducible rfl
                  change wpAnyH _ _ _ _ _ _ _ (Act.put _ (some 51) _) _
                  try simp only [Act.put, List.setIfInBounds_toArray, List.set_cons_zero, List.set_cons_succ]
                  refine wpAnyH_take (i := 9) (v := ?vv99) (by rfl) (by kernel_rfl) (by kernel_rfl) (by kernel_rfl) (by intro _ _ _ h; exact h) (Or.inl ⟨by kernel_rfl, ?hy99⟩) (by assumption) ?rest99
                  case hy99 =>
                    intro w' hSw
                    have hSw : Keeps _ w' := hSw
                    have hx := keep1 hSw f18
                    clear hSw
                    go_simp
                    try with_reducible rfl
                  change wpAnyH _ _ _ _ _ _ _ (Act.put _ (some 52) _) _
                  try simp only [Act.put, List.setIfInBounds_toArray, List.set_cons_zero, List.set_cons_succ]
                  refine wpAnyH_take (i := 10) (v := ?vv100) (by rfl) (by kernel_rfl) (by kernel_rfl) (by kernel_rfl) (by intro _ _ _ h; exact h) (Or.inl ⟨by kernel_rfl, ?hy100⟩) (by assumption) ?rest100
                  case hy100 =>
                    intro w' hSw
                    have hSw : Keeps _ w' := hSw
                    clear hSw
                    go_simp
                    try with_reducible rfl
                  change wpAnyH _ _ _ _ _ _ _ (Act.put _ (some 53) _) _
                  try simp only [Act.put, List.setIfInBounds_toArray, List.set_cons_zero, List.set_cons_succ]
                  refine wpAnyH_take (i := 11) (v := ?vv101) (by rfl) (by kernel_rfl) (by kernel_rfl) (by kernel_rfl) (by intro _ _ _ h; exact h) (Or.inl ⟨by kernel_rfl, ?hy101⟩) (by assumption) ?rest101
                  case hy101 =>
                    intro w' hSw
                    have hSw : Keeps _ w' := hSw
                    clear hSw
                    go_simp
                    try with_reducible rfl
                  change wpAnyH _ _ _ _ _ _ _ (Act.put _ (some 54) _) _
                  try simp only [Act.put, List.setIfInBounds_toArray, List.set_cons_zero, List.set_cons_succ]
                  refine wpAnyH_ready (rs := [12]) (by kernel_rfl) (by simp) ?_
                  refine AllReadyH.cons (o := _) rfl (fun K hK => ?_) AllReadyH.nil
                  go_simp
                  refine (HFR.out _ (HK8.out.trans hHeld)).mono ?_
                  rintro e w9 ⟨rfl, hk⟩
                  have hb : Keeps _ w9 := hHeld.trans hk
                  have HK9 := Lib.hid (HK8.out.trans hb)
                  go_wp2_with fail
                  refine hK.out _ _ hb (fun _ => ?_)
                  clear hK K
                  try simp only [Act.put, List.setIfInBounds_toArray, List.set_cons_zero, List.set_cons_succ]
                  refine wpAnyH_more (S' := fun w' => Keeps w9 w') (fun _ h => hb.trans h) ?_
                  clear hHeld hb hk
                  have hHeld : Keeps w9 w9 := Keeps.refl _
                  refine wpAnyH_take (i := 13) (v := ?vv102) (by rfl) (by kernel_rfl) (by kernel_rfl) (by kernel_rfl) (by intro _ _ _ h; exact h) (Or.inl ⟨by kernel_rfl, ?hy102⟩) (by assumption) ?rest102
                  case hy102 =>
                    intro w' hSw
                    have hSw : Keeps _ w' := hSw
                    clear hSw
                    go_simp
                    try with_reducible rfl
                  change wpAnyH _ _ _ _ _ _ _ (Act.put _ (some 56) _) _
                  try simp only [Act.put, List.setIfInBounds_toArray, List.set_cons_zero, List.set_cons_succ]
                  refine wpAnyH_take (i := 14) (v := ?vv103) (by rfl) (by kernel_rfl) (by kernel_rfl) (by kernel_rfl) (by intro _ _ _ h; exact h) (Or.inl ⟨by kernel_rfl, ?hy103⟩) (by assumption) ?rest103
                  case hy103 =>
                    intro w' hSw
                    have hSw : Keeps _ w' := hSw
                    clear hSw
                    go_simp
                    try with_reducible rfl
                  change wpAnyH _ _ _ _ _ _ _ (Act.put _ (some 57) _) _
                  try simp only [Act.put, List.setIfInBounds_toArray, List.set_cons_zero, List.set_cons_succ]
                  refine wpAnyH_done (by kernel_rfl) ?_ _
                  refine NoPanic.normal ?_
                  go_upto_region 10 with fail
                  have HS9 := Lib.hid (HS6.out.keeps HK9.out)
                  have HB9 := Lib.hid (HB6.out.keeps HK9.out)
                  have HNd := Lib.hid (HS9.out.names.keeps (Keeps.refl w9).drew)
                  have HGB := Lib.hid (show g ≠ b1 from fun e => names_ty HS9.out.names ⟨_, HS9.out.blk⟩ e.symm)
                  have HAB := Lib.hid (show a6 ≠ b1 from fun e => names_ty HS9.out.names ⟨_, HB9.out⟩ e.symm)
                  have HAG := Lib.hid (show a6 ≠ g from fun e => Ty.ne ⟨_, HB9.out⟩ ⟨_, HS9.out.blk⟩ (by decide) e)
                  have HAN := Lib.hid (show (Value.slice po j co).ownBlock ≠ some a6 from fun e => Ty.ne (owns_ty HS9.out.row e) ⟨_, HB9.out⟩ (by decide) rfl)
                  have hll : l.length < 1000000 := by have := HS.out.llen; omega
                  have hj24 : j < 1024 := by omega
                  clear f18 f07 f0 f1 g1 g2 HL HNA HFR
                  go_cut [] (fun wx => Hid (NamesAt wx b1 (l.length + 1) (putN l x j) ∧ Mods (· = b1) w9 wx))
                  case first =>
                    refine wp_region_noPanic ?_
                    refine wp_region_held_drew (S := fun w' => Mods (· = b1) w9 w') (by kernel_rfl) ((Mods.refl (· = b1) w9).drew) (fun _ => ?_)
                    have hHeld : Mods (· = b1) w9 (w9).drew := (Mods.refl (· = b1) w9).drew
                    generalize World.drew w9 = xs at *
                    refine wpAnyH_take (i := 0) (v := ?vv104) (by rfl) (by kernel_rfl) (by kernel_rfl) (by kernel_rfl) (by intro _ _ _ h; exact h) (Or.inl ⟨by kernel_rfl, ?hy104⟩) (by assumption) ?rest104
                    case hy104 =>
                      intro w' hSw
                      have hSw : Mods (· = b1) w9 w' := hSw
                      clear hSw
                      go_simp
                      try with_reducible rfl
                    change wpAnyH _ _ _ _ _ _ _ (Act.put _ (some 58) _) _
                    try simp only [Act.put, List.setIfInBounds_toArray, List.set_cons_zero, List.set_cons_succ]
                    refine wpAnyH_take (i := 1) (v := ?vv105) (by rfl) (by kernel_rfl) (by kernel_rfl) (by kernel_rfl) (by intro _ _ _ h; exact h) (Or.inl ⟨by kernel_rfl, ?hy105⟩) (by assumption) ?rest105
                    case hy105 =>
                      intro w' hSw
                      have hSw : Mods (· = b1) w9 w' := hSw
                      clear hSw
                      go_simp
                      try with_reducible rfl
                    change wpAnyH _ _ _ _ _ _ _ (Act.put _ (some 59) _) _
                    try simp only [Act.put, List.setIfInBounds_toArray, List.set_cons_zero, List.set_cons_succ]
                    refine wpAnyH_take (i := 2) (v := ?vv106) (by rfl) (by kernel_rfl) (by kernel_rfl) (by kernel_rfl) (by intro _ _ _ h; exact h) (Or.inl ⟨by kernel_rfl, ?hy106⟩) (by assumption) ?rest106
                    case hy106 =>
                      intro w' hSw
                      have hSw : Mods (· = b1) w9 w' := hSw
                      clear hSw
                      go_simp
                      try with_reducible rfl
                    change wpAnyH _ _ _ _ _ _ _ (Act.put _ (some 60) _) _
                    try simp only [Act.put, List.setIfInBounds_toArray, List.set_cons_zero, List.set_cons_succ]
                    refine wpAnyH_take (i := 3) (v := ?vv107) (by rfl) (by kernel_rfl) (by kernel_rfl) (by kernel_rfl) (by intro _ _ _ h; exact h) (Or.inl ⟨by kernel_rfl, ?hy107⟩) (by assumption) ?rest107
                    case hy107 =>
                      intro w' hSw
                      have hSw : Mods (· = b1) w9 w' := hSw
                      have hBq := HS9.out.blk.mods hSw (fun e => HGB.out e)
                      have hx0 : World.cell? w' ⟨g, 2, none⟩ = some (.map (some b1)) := by rw [hBq.cell]; rfl
                      clear hSw
                      go_simp
                      try with_reducible rfl
                    change wpAnyH _ _ _ _ _ _ _ (Act.put _ (some 61) _) _
                    try simp only [Act.put, List.setIfInBounds_toArray, List.set_cons_zero, List.set_cons_succ]
                    refine wpAnyH_take (i := 4) (v := ?vv108) (by rfl) (by kernel_rfl) (by kernel_rfl) (by kernel_rfl) (by intro _ _ _ h; exact h) (Or.inl ⟨by kernel_rfl, ?hy108⟩) (by assumption) ?rest108
                    case hy108 =>
                      intro w' hSw
                      have hSw : Mods (· = b1) w9 w' := hSw
                      clear hSw
                      go_simp
                      try with_reducible rfl
                    change wpAnyH _ _ _ _ _ _ _ (Act.put _ (some 62) _) _
                    try simp only [Act.put, List.setIfInBounds_toArray, List.set_cons_zero, List.set_cons_succ]
                    refine wpAnyH_take (i := 5) (v := ?vv109) (by rfl) (by kernel_rfl) (by kernel_rfl) (by kernel_rfl) (by intro _ _ _ h; exact h) (Or.inl ⟨by kernel_rfl, ?hy109⟩) (by assumption) ?rest109
                    case hy109 =>
                      intro w' hSw
                      have hSw : Mods (· = b1) w9 w' := hSw
                      have hBq := HB9.out.mods hSw (fun e => HAB.out e)
                      have hx0 : World.cell? w' ⟨a6, 0, none⟩ = some (.string (bstr x)) := by rw [hBq.cell]; rfl
                      clear hSw
                      go_simp
                      try with_reducible rfl
                    change wpAnyH _ _ _ _ _ _ _ (Act.put _ (some 63) _) _
                    try simp only [Act.put, List.setIfInBounds_toArray, List.set_cons_zero, List.set_cons_succ]
                    refine wpAnyH_take (i := 6) (v := ?vv110) (by rfl) (by kernel_rfl) (by kernel_rfl) (by kernel_rfl) (by intro _ _ _ h; exact h) (Or.inl ⟨by kernel_rfl, ?hy110⟩) (by assumption) ?rest110
                    case hy110 =>
                      intro w' hSw
                      have hSw : Mods (· = b1) w9 w' := hSw
                      clear hSw
                      go_simp
                      try with_reducible rfl
                    change wpAnyH _ _ _ _ _ _ _ (Act.put _ (some 64) _) _
                    try simp only [Act.put, List.setIfInBounds_toArray, List.set_cons_zero, List.set_cons_succ]
                    refine wpAnyH_take (i := 7) (v := ?vv111) (by rfl) (by kernel_rfl) (by kernel_rfl) (by kernel_rfl) (by intro _ _ _ h; exact h) (Or.inl ⟨by kernel_rfl, ?hy111⟩) (by assumption) ?rest111
                    case hy111 =>
                      intro w' hSw
                      have hSw : Mods (· = b1) w9 w' := hSw
                      clear hSw
                      go_simp
                      try with_reducible rfl
                    change wpAnyH _ _ _ _ _ _ _ (Act.put _ (some 65) _) _
                    try simp only [Act.put, List.setIfInBounds_toArray, List.set_cons_zero, List.set_cons_succ]
                    refine wpAnyH_take (i := 8) (v := ?vv112) (by rfl) (by kernel_rfl) (by kernel_rfl) (by kernel_rfl) (by intro _ _ _ h; exact h) (Or.inl ⟨by kernel_rfl, ?hy112⟩) (by assumption) ?rest112
                    case hy112 =>
                      intro w' hSw
                      have hSw : Mods (· = b1) w9 w' := hSw
                      clear hSw
                      go_simp
                      try with_reducible rfl
                    change wpAnyH _ _ _ _ _ _ _ (Act.put _ (some 66) _) _
                    try simp only [Act.put, List.setIfInBounds_toArray, List.set_cons_zero, List.set_cons_succ]
                    refine wpAnyH_take (i := 9) (v := ?vv113) (by rfl) (by kernel_rfl) (by kernel_rfl) (by kernel_rfl) (by intro _ _ _ h; exact h) (Or.inl ⟨by kernel_rfl, ?hy113⟩) (by assumption) ?rest113
                    case hy113 =>
                      intro w' hSw
                      have hSw : Mods (· = b1) w9 w' := hSw
                      have hBq := HS9.out.blk.mods hSw (fun e => HGB.out e)
                      have hx0 : World.cell? w' ⟨g, 1, none⟩ = some (.slice po j co) := by rw [hBq.cell]; rfl
                      clear hSw
                      go_simp
                      try with_reducible rfl
                    change wpAnyH _ _ _ _ _ _ _ (Act.put _ (some 67) _) _
                    try simp only [Act.put, List.setIfInBounds_toArray, List.set_cons_zero, List.set_cons_succ]
                    refine wpAnyH_take (i := 10) (v := ?vv114) (by rfl) (by kernel_rfl) (by kernel_rfl) (by kernel_rfl) (by intro _ _ _ h; exact h) (Or.inl ⟨by kernel_rfl, ?hy114⟩) (by assumption) ?rest114
                    case hy114 =>
                      intro w' hSw
                      have hSw : Mods (· = b1) w9 w' := hSw
                      clear hSw
                      go_simp
                      try with_reducible rfl
                    change wpAnyH _ _ _ _ _ _ _ (Act.put _ (some 68) _) _
                    try simp only [Act.put, List.setIfInBounds_toArray, List.set_cons_zero, List.set_cons_succ]
                    refine wpAnyH_ready (rs := [11]) (by kernel_rfl) (by simp) ?_
                    refine AllReadyH.cons (o := _) rfl (fun K hK => ?_) ?_
                    · obtain ⟨yF, hrun, hnam, hM⟩ := HNd.out.put hll hxl j
                      have hrun : (Instr.mapUpdate 76 (.map (some b1)) (.string (bstr x)) (.int .i64 (j : Int))).run Tryz.prog xs = .ok () yF := hrun
                      go_simp
                      have hb := hHeld.trans hM (fun x h _ => h)
                      have HNF := Lib.hid hnam
                      clear hrun hnam hM
                      refine hK.out _ _ hb (fun _ => ?_)
                      clear hK K hHeld
                      have hHeld : Mods (· = b1) w9 yF := hb
                      clear hb
                      try simp only [Act.put, List.setIfInBounds_toArray, List.set_cons_zero, List.set_cons_succ]
                      refine wpAnyH_done (by kernel_rfl) ?_ _
                      refine NoPanic.normal ?_
                      go_wp2_with fail
                      go_meet
                      exact Lib.hid ⟨HNF.out, hHeld⟩
                    exact AllReadyH.nil
                  case rest =>
                  obtain ⟨w10, rfl⟩ : ∃ z : World, z = wc := ⟨_, rfl⟩
                  have HM10 := Lib.hid hcut.out.2
                  have HN10 := Lib.hid hcut.out.1
                  have HG10 := Lib.hid (HS9.out.blk.mods HM10.out (fun e => HGB.out e))
                  have HB10 := Lib.hid (HB9.out.mods HM10.out (fun e => HAB.out e))
                  have HR10 := Lib.hid (show w10.ownsRow 0 85 1 (Value.slice po j co) j (nb.map fun p => Value.pointer (some ⟨p.1, 0, none⟩)) from by
                    have := Frm.ownsRow_mods HS9.out.row HM10.out (fun y hy e => names_ty HS9.out.names (owns_ty HS9.out.row hy) e.symm)
                    rw [hnl] at this
                    exact this)
                  have HW10 := Lib.hid (HM10.out.keeps (HW6.out.trans HK9.out) (fun y hy => by subst hy; exact HS.out.bW))
                  have HTW := Lib.hid (show ∀ y, (y = g ∨ (Value.slice po j co).ownBlock = some y) → w.heap.size ≤ y from fun y hy => hy.elim (fun e => by subst e; exact HS.out.gW) (HS.out.nW y))
                  have HX := Lib.hid HG10.out.drew
                  have HR := Lib.hid (Frm.ownsRow_keeps HR10.out (Keeps.refl w10).drew)
                  have HBL := Lib.hid (show b.length ≤ 4194304 from by have := HFIT.out; have := HCB.out; omega)
                  have HNG : Hid ((Value.slice po j co).ownBlock ≠ some g) := Lib.hid (fun e => Ty.ne (owns_ty HS9.out.row e) ⟨_, HS9.out.blk⟩ (by decide) rfl)
                  clear hcut
                  go_upto_region 11 with fail
                  refine wp_region_noPanic ?_
                  refine wp_region_held_drew (S := fun w' => Mods (fun y => y = g ∨ (Value.slice po j co).ownBlock = some y) w10 w') (by kernel_rfl) ((Mods.refl (fun y => y = g ∨ (Value.slice po j co).ownBlock = some y) w10).drew) (fun _ => ?_)
                  have hHeld : Mods (fun y => y = g ∨ (Value.slice po j co).ownBlock = some y) w10 (w10).drew := (Mods.refl (fun y => y = g ∨ (Value.slice po j co).ownBlock = some y) w10).drew
                  generalize World.drew w10 = xs at *
                  refine wpAnyH_take (i := 0) (v := ?vv115) (by rfl) (by kernel_rfl) (by kernel_rfl) (by kernel_rfl) (by intro _ _ _ h; exact h) (Or.inl ⟨by kernel_rfl, ?hy115⟩) (by assumption) ?rest115
                  case hy115 =>
                    intro w' hSw
                    have hSw : Mods (fun y => y = g ∨ (Value.slice po j co).ownBlock = some y) w10 w' := hSw
                    clear hSw
                    go_simp
                    try with_reducible rfl
                  change wpAnyH _ _ _ _ _ _ _ (Act.put _ (some 69) _) _
                  try simp only [Act.put, List.setIfInBounds_toArray, List.set_cons_zero, List.set_cons_succ]
                  refine wpAnyH_take (i := 1) (v := ?vv116) (by rfl) (by kernel_rfl) (by kernel_rfl) (by kernel_rfl) (by intro _ _ _ h; exact h) (Or.inl ⟨by kernel_rfl, ?hy116⟩) (by assumption) ?rest116
                  case hy116 =>
                    intro w' hSw
                    have hSw : Mods (fun y => y = g ∨ (Value.slice po j co).ownBlock = some y) w10 w' := hSw
                    clear hSw
                    go_simp
                    try with_reducible rfl
                  change wpAnyH _ _ _ _ _ _ _ (Act.put _ (some 70) _) _
                  try simp only [Act.put, List.setIfInBounds_toArray, List.set_cons_zero, List.set_cons_succ]
                  refine wpAnyH_take (i := 2) (v := ?vv117) (by rfl) (by kernel_rfl) (by kernel_rfl) (by kernel_rfl) (by intro _ _ _ h; exact h) (Or.inl ⟨by kernel_rfl, ?hy117⟩) (by assumption) ?rest117
                  case hy117 =>
                    intro w' hSw
                    have hSw : Mods (fun y => y = g ∨ (Value.slice po j co).ownBlock = some y) w10 w' := hSw
                    clear hSw
                    go_simp
                    try with_reducible rfl
                  change wpAnyH _ _ _ _ _ _ _ (Act.put _ (some 71) _) _
                  try simp only [Act.put, List.setIfInBounds_toArray, List.set_cons_zero, List.set_cons_succ]
                  refine wpAnyH_take (i := 3) (v := ?vv118) (by rfl) (by kernel_rfl) (by kernel_rfl) (by kernel_rfl) (by intro _ _ _ h; exact h) (Or.inl ⟨by kernel_rfl, ?hy118⟩) (by assumption) ?rest118
                  case hy118 =>
                    intro w' hSw
                    have hSw : Mods (fun y => y = g ∨ (Value.slice po j co).ownBlock = some y) w10 w' := hSw
                    clear hSw
                    go_simp
                    try with_reducible rfl
                  change wpAnyH _ _ _ _ _ _ _ (Act.put _ (some 72) _) _
                  try simp only [Act.put, List.setIfInBounds_toArray, List.set_cons_zero, List.set_cons_succ]
                  refine wpAnyH_take (i := 5) (v := ?vv119) (by rfl) (by kernel_rfl) (by kernel_rfl) (by kernel_rfl) (by intro _ _ _ h; exact h) (Or.inl ⟨by kernel_rfl, ?hy119⟩) (by assumption) ?rest119
                  case hy119 =>
                    intro w' hSw
                    have hSw : Mods (fun y => y = g ∨ (Value.slice po j co).ownBlock = some y) w10 w' := hSw
                    clear hSw
                    go_simp
                    try with_reducible rfl
                  change wpAnyH _ _ _ _ _ _ _ (Act.put _ (some 74) _) _
                  try simp only [Act.put, List.setIfInBounds_toArray, List.set_cons_zero, List.set_cons_succ]
                  refine wpAnyH_take (i := 6) (v := ?vv120) (by rfl) (by kernel_rfl) (by kernel_rfl) (by kernel_rfl) (by intro _ _ _ h; exact h) (Or.inl ⟨by kernel_rfl, ?hy120⟩) (by assumption) ?rest120
                  case hy120 =>
                    intro w' hSw
                    have hSw : Mods (fun y => y = g ∨ (Value.slice po j co).ownBlock = some y) w10 w' := hSw
                    have hBq := HB10.out.mods hSw (fun hh => hh.elim (fun e => HAG.out e) HAN.out)
                    have hx1 : World.cell? w' ⟨a6, 1, none⟩ = some (.slice pd b.length cd) := by rw [hBq.cell]; rfl
                    clear hSw
                    go_simp
                    try with_reducible rfl
                  change wpAnyH _ _ _ _ _ _ _ (Act.put _ (some 75) _) _
                  try simp only [Act.put, List.setIfInBounds_toArray, List.set_cons_zero, List.set_cons_succ]
                  refine wpAnyH_take (i := 7) (v := ?vv121) (by rfl) (by kernel_rfl) (by kernel_rfl) (by kernel_rfl) (by intro _ _ _ h; exact h) (Or.inl ⟨by kernel_rfl, ?hy121⟩) (by assumption) ?rest121
                  case hy121 =>
                    intro w' hSw
                    have hSw : Mods (fun y => y = g ∨ (Value.slice po j co).ownBlock = some y) w10 w' := hSw
                    have hc := Frm.str_at' (HROW.out.keeps (hSw.keeps HW10.out HTW.out))
                    clear hSw
                    go_simp
                    try with_reducible rfl
                  change wpAnyH _ _ _ _ _ _ _ (Act.put _ (some 76) _) _
                  try simp only [Act.put, List.setIfInBounds_toArray, List.set_cons_zero, List.set_cons_succ]
                  refine wpAnyH_take (i := 8) (v := ?vv122) (by rfl) (by kernel_rfl) (by kernel_rfl) (by kernel_rfl) (by intro _ _ _ h; exact h) (Or.inl ⟨by kernel_rfl, ?hy122⟩) (by assumption) ?rest122
                  case hy122 =>
                    intro w' hSw
                    have hSw : Mods (fun y => y = g ∨ (Value.slice po j co).ownBlock = some y) w10 w' := hSw
                    clear hSw
                    go_simp
                    try with_reducible rfl
                  change wpAnyH _ _ _ _ _ _ _ (Act.put _ (some 77) _) _
                  try simp only [Act.put, List.setIfInBounds_toArray, List.set_cons_zero, List.set_cons_succ]
                  refine wpAnyH_take (i := 9) (v := ?vv123) (by rfl) (by kernel_rfl) (by kernel_rfl) (by kernel_rfl) (by intro _ _ _ h; exact h) (Or.inl ⟨by kernel_rfl, ?hy123⟩) (by assumption) ?rest123
                  case hy123 =>
                    intro w' hSw
                    have hSw : Mods (fun y => y = g ∨ (Value.slice po j co).ownBlock = some y) w10 w' := hSw
                    have hBq := HB10.out.mods hSw (fun hh => hh.elim (fun e => HAG.out e) HAN.out)
                    have hx1 : World.cell? w' ⟨a6, 1, none⟩ = some (.slice pd b.length cd) := by rw [hBq.cell]; rfl
                    clear hSw
                    go_simp
                    try with_reducible rfl
                  change wpAnyH _ _ _ _ _ _ _ (Act.put _ (some 78) _) _
                  try simp only [Act.put, List.setIfInBounds_toArray, List.set_cons_zero, List.set_cons_succ]
                  refine wpAnyH_take (i := 10) (v := ?vv124) (by rfl) (by kernel_rfl) (by kernel_rfl) (by kernel_rfl) (by intro _ _ _ h; exact h) (Or.inl ⟨by kernel_rfl, ?hy124⟩) (by assumption) ?rest124
                  case hy124 =>
                    intro w' hSw
                    have hSw : Mods (fun y => y = g ∨ (Value.slice po j co).ownBlock = some y) w10 w' := hSw
                    have hc := Frm.str_at' (HROW.out.keeps (hSw.keeps HW10.out HTW.out))
                    clear hSw
                    go_simp
                    try with_reducible rfl
                  change wpAnyH _ _ _ _ _ _ _ (Act.put _ (some 79) _) _
                  try simp only [Act.put, List.setIfInBounds_toArray, List.set_cons_zero, List.set_cons_succ]
                  refine wpAnyH_take (i := 11) (v := ?vv125) (by rfl) (by kernel_rfl) (by kernel_rfl) (by kernel_rfl) (by intro _ _ _ h; exact h) (Or.inl ⟨by kernel_rfl, ?hy125⟩) (by assumption) ?rest125
                  case hy125 =>
                    intro w' hSw
                    have hSw : Mods (fun y => y = g ∨ (Value.slice po j co).ownBlock = some y) w10 w' := hSw
                    clear hSw
                    go_simp
                    try with_reducible rfl
                  change wpAnyH _ _ _ _ _ _ _ (Act.put _ (some 80) _) _
                  try simp only [Act.put, List.setIfInBounds_toArray, List.set_cons_zero, List.set_cons_succ]
                  refine wpAnyH_ready (rs := [4, 12]) (by kernel_rfl) (by simp) ?_
                  refine AllReadyH.cons (o := _) rfl (fun K hK => ?_) ?_
                  · have hx : World.cell? xs ⟨g, 1, none⟩ = some (Value.slice po j co) := by rw [HX.out.cell]; rfl
                    go_simp
                    clear hx
                    have hb := hHeld
                    refine hK.out _ _ hb (fun _ => ?_)
                    clear hK K hHeld
                    have hHeld : Mods (fun y => y = g ∨ (Value.slice po j co).ownBlock = some y) w10 xs := hb
                    clear hb
                    try simp only [Act.put, List.setIfInBounds_toArray, List.set_cons_zero, List.set_cons_succ]
                    refine wpAnyH_ready (rs := [12]) (by kernel_rfl) (by simp) ?_
                    refine AllReadyH.cons (o := _) rfl (fun K hK => ?_) ?_
                    · go_simp
                      obtain ⟨k, hk0⟩ : ∃ z, z = (World.heap xs).size := ⟨_, rfl⟩
                      have HKB : Hid (Blk (World.alloc xs (.cells #[.string (bstr b), .string (bstr b), .slice none 0 0, .bool false] 88)) k 88 #[.string (bstr b), .string (bstr b), .slice none 0 0, .bool false]) := Lib.hid (Blk.new _ _ _ hk0)
                      have HX := Lib.hid (HX.out.alloc (.cells #[.string (bstr b), .string (bstr b), .slice none 0 0, .bool false] 88))
                      have HR := Lib.hid (Frm.ownsRow_keeps HR.out ((Keeps.refl _).alloc (.cells #[.string (bstr b), .string (bstr b), .slice none 0 0, .bool false] 88)))
                      have hb := hHeld.alloc (.cells #[.string (bstr b), .string (bstr b), .slice none 0 0, .bool false] 88)
                      have HKZ := Lib.hid (show w10.heap.size ≤ k from by rw [hk0]; exact hHeld.size)
                      rw [← hk0]
                      clear hk0
                      generalize World.alloc xs (.cells #[.string (bstr b), .string (bstr b), .slice none 0 0, .bool false] 88) = x12 at *
                      refine hK.out _ _ hb (fun _ => ?_)
                      clear hK K hHeld
                      have hHeld : Mods (fun y => y = g ∨ (Value.slice po j co).ownBlock = some y) w10 x12 := hb
                      clear hb
                      try simp only [Act.put, List.setIfInBounds_toArray, List.set_cons_zero, List.set_cons_succ]
                      refine wpAnyH_ready (rs := [13]) (by kernel_rfl) (by simp) ?_
                      refine AllReadyH.cons (o := _) rfl (fun K hK => ?_) ?_
                      · go_simp
                        obtain ⟨b6, hb6⟩ : ∃ z, z = (World.heap x12).size := ⟨_, rfl⟩
                        have HB6 : Hid (Blk (World.alloc x12 (.cells #[.pointer (some ⟨k, 0, none⟩)] 85)) b6 85 #[.pointer (some ⟨k, 0, none⟩)]) := Lib.hid (Blk.new _ _ _ hb6)
                        have HX := Lib.hid (HX.out.alloc (.cells #[.pointer (some ⟨k, 0, none⟩)] 85))
                        have HR := Lib.hid (Frm.ownsRow_keeps HR.out ((Keeps.refl _).alloc (.cells #[.pointer (some ⟨k, 0, none⟩)] 85)))
                        have HKB := Lib.hid (HKB.out.alloc (.cells #[.pointer (some ⟨k, 0, none⟩)] 85))
                        have hb := hHeld.alloc (.cells #[.pointer (some ⟨k, 0, none⟩)] 85)
                        have HBB := Lib.hid hb6
                        clear hb6
                        generalize World.alloc x12 (.cells #[.pointer (some ⟨k, 0, none⟩)] 85) = x13 at *
                        refine hK.out _ _ hb (fun _ => ?_)
                        clear hK K hHeld
                        have hHeld : Mods (fun y => y = g ∨ (Value.slice po j co).ownBlock = some y) w10 x13 := hb
                        clear hb
                        try simp only [Act.put, List.setIfInBounds_toArray, List.set_cons_zero, List.set_cons_succ]
                        refine wpAnyH_ready (rs := [14]) (by kernel_rfl) (by simp) ?_
                        refine AllReadyH.cons (o := _) rfl (fun K hK => ?_) ?_
                        · refine step_appF (base := 0) nodok (by decide) rfl _ _ rfl (Value.slice po j co) j 1 1 ⟨b6, 0, none⟩ (nb.map fun p => Value.pointer (some ⟨p.1, 0, none⟩)) [.pointer (some ⟨k, 0, none⟩)] rfl (congrArg (fun g => Value.slice (some ⟨g, 0, none⟩) 1 1) HBB.out.symm) HR.out rfl (fun j y hy => by rw [Go.WideShapes.add_plain, HB6.out.cell, Nat.zero_add]; simpa using hy) (by simp [Value.oneCell']) (by omega) (by decide) (Nat.zero_le _) ?_
                          intro v7 x14 ho7 hg7 hf7
                          have HZ7 := Lib.hid hHeld.size
                          obtain ⟨p7, c7, rfl, -, -⟩ := Frm.ownsRow_form ho7
                          have H7 := Lib.hid ho7
                          have HF7 := Lib.hid (fun y hy => (hf7 y hy).imp id (fun hh => Nat.le_trans HZ7.out hh))
                          have HKB := Lib.hid (HKB.out.grown hg7 (fun e => Ty.ne (owns_ty HR.out e) ⟨_, HKB.out⟩ (by decide) rfl))
                          have HX := Lib.hid (HX.out.grown hg7 HNG.out)
                          have hb := hHeld.grown hg7 (fun k hk _ => .inr hk)
                          clear ho7 hg7 hf7 HB6
                          show K (Act.put _ (some 83) _) x14
                          refine hK.out _ _ hb (fun _ => ?_)
                          clear hK K hHeld
                          have hHeld : Mods (fun y => y = g ∨ (Value.slice po j co).ownBlock = some y) w10 x14 := hb
                          clear hb
                          try simp only [Act.put, List.setIfInBounds_toArray, List.set_cons_zero, List.set_cons_succ]
                          refine wpAnyH_take (i := 15) (v := ?vv126) (by rfl) (by kernel_rfl) (by kernel_rfl) (by kernel_rfl) (by intro _ _ _ h; exact h) (Or.inl ⟨by kernel_rfl, ?hy126⟩) (by assumption) ?rest126
                          case hy126 =>
                            intro w' hSw
                            have hSw : Mods (fun y => y = g ∨ (Value.slice po j co).ownBlock = some y) w10 w' := hSw
                            clear hSw
                            go_simp
                            try with_reducible rfl
                          change wpAnyH _ _ _ _ _ _ _ (Act.put _ (some 84) _) _
                          try simp only [Act.put, List.setIfInBounds_toArray, List.set_cons_zero, List.set_cons_succ]
                          refine wpAnyH_take (i := 16) (v := ?vv127) (by rfl) (by kernel_rfl) (by kernel_rfl) (by kernel_rfl) (by intro _ _ _ h; exact h) (Or.inl ⟨by kernel_rfl, ?hy127⟩) (by assumption) ?rest127
                          case hy127 =>
                            intro w' hSw
                            have hSw : Mods (fun y => y = g ∨ (Value.slice po j co).ownBlock = some y) w10 w' := hSw
                            clear hSw
                            go_simp
                            try with_reducible rfl
                          change wpAnyH _ _ _ _ _ _ _ (Act.put _ (some 85) _) _
                          try simp only [Act.put, List.setIfInBounds_toArray, List.set_cons_zero, List.set_cons_succ]
                          refine wpAnyH_ready (rs := [17]) (by kernel_rfl) (by simp) ?_
                          refine AllReadyH.cons (o := _) rfl (fun K hK => ?_) ?_
                          · have hx : World.cell? x14 ⟨g, 1, none⟩ = some (Value.slice po j co) := by rw [HX.out.cell]; rfl
                            have hz : World.frozen? x14 ⟨g, 1, none⟩ = false := HX.out.frozen 1
                            go_simp
                            have HX3 := Lib.hid (HX.out.set_ 1 (.slice p7 (j + 1) c7))
                            have H7s := Lib.hid (Frm.ownsRow_mods (S := fun x => x = g) H7.out ((Mods.refl (fun x => x = g) _).setCell (p := ⟨g, 1, none⟩) (fun _ => rfl) (.slice p7 (j + 1) c7)) (fun x hx e => Frm.ownsRow_ne H7.out HX.out (by decide) (by rw [hx, e])))
                            have HKB := Lib.hid (HKB.out.mods ((Mods.refl (fun x => x = g) _).setCell (p := ⟨g, 1, none⟩) (fun _ => rfl) (.slice p7 (j + 1) c7)) (fun e => Ty.ne ⟨_, HKB.out⟩ ⟨_, HX.out⟩ (by decide) e))
                            have hb := hHeld.setCell (p := ⟨g, 1, none⟩) (fun _ => .inl rfl) (.slice p7 (j + 1) c7)
                            clear hx hz HX H7
                            generalize World.setCell x14 ⟨g, 1, none⟩ (.slice p7 (j + 1) c7) = xF at *
                            refine hK.out _ _ hb (fun _ => ?_)
                            clear hK K hHeld
                            have hHeld : Mods (fun y => y = g ∨ (Value.slice po j co).ownBlock = some y) w10 xF := hb
                            clear hb
                            try simp only [Act.put, List.setIfInBounds_toArray, List.set_cons_zero, List.set_cons_succ]
                            refine wpAnyH_done (by kernel_rfl) ?_ _
                            refine NoPanic.normal ?_
                            have HE := Lib.hid (HS.out.more hj24 (HK6.out.trans HK9.out) HM10.out HN10.out hHeld HX3.out (by have := H7s.out; rw [hnl]; exact this) HF7.out HKZ.out HKB.out HBL.out (by rw [← HRST.out, HS.out.nlen]))
                            go_wp2_with fail
                            go_roundw
                            case rel => exact ⟨j + 1, by simp, by omega, Lib.hid ⟨_, _, _, _, HE.out⟩⟩
                            case measure =>
                              simp only [RowKit.intOf]
                              omega
                          exact AllReadyH.nil
                        exact AllReadyH.nil
                      exact AllReadyH.nil
                    exact AllReadyH.nil
                  refine AllReadyH.cons (o := _) rfl (fun K hK => ?_) ?_
                  · go_simp
                    obtain ⟨k, hk0⟩ : ∃ z, z = (World.heap xs).size := ⟨_, rfl⟩
                    have HKB : Hid (Blk (World.alloc xs (.cells #[.string (bstr b), .string (bstr b), .slice none 0 0, .bool false] 88)) k 88 #[.string (bstr b), .string (bstr b), .slice none 0 0, .bool false]) := Lib.hid (Blk.new _ _ _ hk0)
                    have HX := Lib.hid (HX.out.alloc (.cells #[.string (bstr b), .string (bstr b), .slice none 0 0, .bool false] 88))
                    have HR := Lib.hid (Frm.ownsRow_keeps HR.out ((Keeps.refl _).alloc (.cells #[.string (bstr b), .string (bstr b), .slice none 0 0, .bool false] 88)))
                    have hb := hHeld.alloc (.cells #[.string (bstr b), .string (bstr b), .slice none 0 0, .bool false] 88)
                    have HKZ := Lib.hid (show w10.heap.size ≤ k from by rw [hk0]; exact hHeld.size)
                    rw [← hk0]
                    clear hk0
                    generalize World.alloc xs (.cells #[.string (bstr b), .string (bstr b), .slice none 0 0, .bool false] 88) = x12 at *
                    refine hK.out _ _ hb (fun _ => ?_)
                    clear hK K hHeld
                    have hHeld : Mods (fun y => y = g ∨ (Value.slice po j co).ownBlock = some y) w10 x12 := hb
                    clear hb
                    try simp only [Act.put, List.setIfInBounds_toArray, List.set_cons_zero, List.set_cons_succ]
                    refine wpAnyH_ready (rs := [4, 13]) (by kernel_rfl) (by simp) ?_
                    refine AllReadyH.cons (o := _) rfl (fun K hK => ?_) ?_
                    · have hx : World.cell? x12 ⟨g, 1, none⟩ = some (Value.slice po j co) := by rw [HX.out.cell]; rfl
                      go_simp
                      clear hx
                      have hb := hHeld
                      refine hK.out _ _ hb (fun _ => ?_)
                      clear hK K hHeld
                      have hHeld : Mods (fun y => y = g ∨ (Value.slice po j co).ownBlock = some y) w10 x12 := hb
                      clear hb
                      try simp only [Act.put, List.setIfInBounds_toArray, List.set_cons_zero, List.set_cons_succ]
                      refine wpAnyH_ready (rs := [13]) (by kernel_rfl) (by simp) ?_
                      refine AllReadyH.cons (o := _) rfl (fun K hK => ?_) ?_
                      · go_simp
                        obtain ⟨b6, hb6⟩ : ∃ z, z = (World.heap x12).size := ⟨_, rfl⟩
                        have HB6 : Hid (Blk (World.alloc x12 (.cells #[.pointer (some ⟨k, 0, none⟩)] 85)) b6 85 #[.pointer (some ⟨k, 0, none⟩)]) := Lib.hid (Blk.new _ _ _ hb6)
                        have HX := Lib.hid (HX.out.alloc (.cells #[.pointer (some ⟨k, 0, none⟩)] 85))
                        have HR := Lib.hid (Frm.ownsRow_keeps HR.out ((Keeps.refl _).alloc (.cells #[.pointer (some ⟨k, 0, none⟩)] 85)))
                        have HKB := Lib.hid (HKB.out.alloc (.cells #[.pointer (some ⟨k, 0, none⟩)] 85))
                        have hb := hHeld.alloc (.cells #[.pointer (some ⟨k, 0, none⟩)] 85)
                        have HBB := Lib.hid hb6
                        clear hb6
                        generalize World.alloc x12 (.cells #[.pointer (some ⟨k, 0, none⟩)] 85) = x13 at *
                        refine hK.out _ _ hb (fun _ => ?_)
                        clear hK K hHeld
                        have hHeld : Mods (fun y => y = g ∨ (Value.slice po j co).ownBlock = some y) w10 x13 := hb
                        clear hb
                        try simp only [Act.put, List.setIfInBounds_toArray, List.set_cons_zero, List.set_cons_succ]
                        refine wpAnyH_ready (rs := [14]) (by kernel_rfl) (by simp) ?_
                        refine AllReadyH.cons (o := _) rfl (fun K hK => ?_) ?_
                        · refine step_appF (base := 0) nodok (by decide) rfl _ _ rfl (Value.slice po j co) j 1 1 ⟨b6, 0, none⟩ (nb.map fun p => Value.pointer (some ⟨p.1, 0, none⟩)) [.pointer (some ⟨k, 0, none⟩)] rfl (congrArg (fun g => Value.slice (some ⟨g, 0, none⟩) 1 1) HBB.out.symm) HR.out rfl (fun j y hy => by rw [Go.WideShapes.add_plain, HB6.out.cell, Nat.zero_add]; simpa using hy) (by simp [Value.oneCell']) (by omega) (by decide) (Nat.zero_le _) ?_
                          intro v7 x14 ho7 hg7 hf7
                          have HZ7 := Lib.hid hHeld.size
                          obtain ⟨p7, c7, rfl, -, -⟩ := Frm.ownsRow_form ho7
                          have H7 := Lib.hid ho7
                          have HF7 := Lib.hid (fun y hy => (hf7 y hy).imp id (fun hh => Nat.le_trans HZ7.out hh))
                          have HKB := Lib.hid (HKB.out.grown hg7 (fun e => Ty.ne (owns_ty HR.out e) ⟨_, HKB.out⟩ (by decide) rfl))
                          have HX := Lib.hid (HX.out.grown hg7 HNG.out)
                          have hb := hHeld.grown hg7 (fun k hk _ => .inr hk)
                          clear ho7 hg7 hf7 HB6
                          show K (Act.put _ (some 83) _) x14
                          refine hK.out _ _ hb (fun _ => ?_)
                          clear hK K hHeld
                          have hHeld : Mods (fun y => y = g ∨ (Value.slice po j co).ownBlock = some y) w10 x14 := hb
                          clear hb
                          try simp only [Act.put, List.setIfInBounds_toArray, List.set_cons_zero, List.set_cons_succ]
                          refine wpAnyH_take (i := 15) (v := ?vv128) (by rfl) (by kernel_rfl) (by kernel_rfl) (by kernel_rfl) (by intro _ _ _ h; exact h) (Or.inl ⟨by kernel_rfl, ?hy128⟩) (by assumption) ?rest128
                          case hy128 =>
                            intro w' hSw
                            have hSw : Mods (fun y => y = g ∨ (Value.slice po j co).ownBlock = some y) w10 w' := hSw
                            clear hSw
                            go_simp
                            try with_reducible rfl
                          change wpAnyH _ _ _ _ _ _ _ (Act.put _ (some 84) _) _
                          try simp only [Act.put, List.setIfInBounds_toArray, List.set_cons_zero, List.set_cons_succ]
                          refine wpAnyH_take (i := 16) (v := ?vv129) (by rfl) (by kernel_rfl) (by kernel_rfl) (by kernel_rfl) (by intro _ _ _ h; exact h) (Or.inl ⟨by kernel_rfl, ?hy129⟩) (by assumption) ?rest129
                          case hy129 =>
                            intro w' hSw
                            have hSw : Mods (fun y => y = g ∨ (Value.slice po j co).ownBlock = some y) w10 w' := hSw
                            clear hSw
                            go_simp
                            try with_reducible rfl
                          change wpAnyH _ _ _ _ _ _ _ (Act.put _ (some 85) _) _
                          try simp only [Act.put, List.setIfInBounds_toArray, List.set_cons_zero, List.set_cons_succ]
                          refine wpAnyH_ready (rs := [17]) (by kernel_rfl) (by simp) ?_
                          refine AllReadyH.cons (o := _) rfl (fun K hK => ?_) ?_
                          · have hx : World.cell? x14 ⟨g, 1, none⟩ = some (Value.slice po j co) := by rw [HX.out.cell]; rfl
                            have hz : World.frozen? x14 ⟨g, 1, none⟩ = false := HX.out.frozen 1
                            go_simp
                            have HX3 := Lib.hid (HX.out.set_ 1 (.slice p7 (j + 1) c7))
                            have H7s := Lib.hid (Frm.ownsRow_mods (S := fun x => x = g) H7.out ((Mods.refl (fun x => x = g) _).setCell (p := ⟨g, 1, none⟩) (fun _ => rfl) (.slice p7 (j + 1) c7)) (fun x hx e => Frm.ownsRow_ne H7.out HX.out (by decide) (by rw [hx, e])))
                            have HKB := Lib.hid (HKB.out.mods ((Mods.refl (fun x => x = g) _).setCell (p := ⟨g, 1, none⟩) (fun _ => rfl) (.slice p7 (j + 1) c7)) (fun e => Ty.ne ⟨_, HKB.out⟩ ⟨_, HX.out⟩ (by decide) e))
                            have hb := hHeld.setCell (p := ⟨g, 1, none⟩) (fun _ => .inl rfl) (.slice p7 (j + 1) c7)
                            clear hx hz HX H7
                            generalize World.setCell x14 ⟨g, 1, none⟩ (.slice p7 (j + 1) c7) = xF at *
                            refine hK.out _ _ hb (fun _ => ?_)
                            clear hK K hHeld
                            have hHeld : Mods (fun y => y = g ∨ (Value.slice po j co).ownBlock = some y) w10 xF := hb
                            clear hb
                            try simp only [Act.put, List.setIfInBounds_toArray, List.set_cons_zero, List.set_cons_succ]
                            refine wpAnyH_done (by kernel_rfl) ?_ _
                            refine NoPanic.normal ?_
                            have HE := Lib.hid (HS.out.more hj24 (HK6.out.trans HK9.out) HM10.out HN10.out hHeld HX3.out (by have := H7s.out; rw [hnl]; exact this) HF7.out HKZ.out HKB.out HBL.out (by rw [← HRST.out, HS.out.nlen]))
                            go_wp2_with fail
                            go_roundw
                            case rel => exact ⟨j + 1, by simp, by omega, Lib.hid ⟨_, _, _, _, HE.out⟩⟩
                            case measure =>
                              simp only [RowKit.intOf]
                              omega
                          exact AllReadyH.nil
                        exact AllReadyH.nil
                      exact AllReadyH.nil
                    refine AllReadyH.cons (o := _) rfl (fun K hK => ?_) ?_
                    · go_simp
                      obtain ⟨b6, hb6⟩ : ∃ z, z = (World.heap x12).size := ⟨_, rfl⟩
                      have HB6 : Hid (Blk (World.alloc x12 (.cells #[.pointer (some ⟨k, 0, none⟩)] 85)) b6 85 #[.pointer (some ⟨k, 0, none⟩)]) := Lib.hid (Blk.new _ _ _ hb6)
                      have HX := Lib.hid (HX.out.alloc (.cells #[.pointer (some ⟨k, 0, none⟩)] 85))
                      have HR := Lib.hid (Frm.ownsRow_keeps HR.out ((Keeps.refl _).alloc (.cells #[.pointer (some ⟨k, 0, none⟩)] 85)))
                      have HKB := Lib.hid (HKB.out.alloc (.cells #[.pointer (some ⟨k, 0, none⟩)] 85))
                      have hb := hHeld.alloc (.cells #[.pointer (some ⟨k, 0, none⟩)] 85)
                      have HBB := Lib.hid hb6
                      clear hb6
                      generalize World.alloc x12 (.cells #[.pointer (some ⟨k, 0, none⟩)] 85) = x13 at *
                      refine hK.out _ _ hb (fun _ => ?_)
                      clear hK K hHeld
                      have hHeld : Mods (fun y => y = g ∨ (Value.slice po j co).ownBlock = some y) w10 x13 := hb
                      clear hb
                      try simp only [Act.put, List.setIfInBounds_toArray, List.set_cons_zero, List.set_cons_succ]
                      refine wpAnyH_ready (rs := [4]) (by kernel_rfl) (by simp) ?_
                      refine AllReadyH.cons (o := _) rfl (fun K hK => ?_) ?_
                      · have hx : World.cell? x13 ⟨g, 1, none⟩ = some (Value.slice po j co) := by rw [HX.out.cell]; rfl
                        go_simp
                        clear hx
                        have hb := hHeld
                        refine hK.out _ _ hb (fun _ => ?_)
                        clear hK K hHeld
                        have hHeld : Mods (fun y => y = g ∨ (Value.slice po j co).ownBlock = some y) w10 x13 := hb
                        clear hb
                        try simp only [Act.put, List.setIfInBounds_toArray, List.set_cons_zero, List.set_cons_succ]
                        refine wpAnyH_ready (rs := [14]) (by kernel_rfl) (by simp) ?_
                        refine AllReadyH.cons (o := _) rfl (fun K hK => ?_) ?_
                        · refine step_appF (base := 0) nodok (by decide) rfl _ _ rfl (Value.slice po j co) j 1 1 ⟨b6, 0, none⟩ (nb.map fun p => Value.pointer (some ⟨p.1, 0, none⟩)) [.pointer (some ⟨k, 0, none⟩)] rfl (congrArg (fun g => Value.slice (some ⟨g, 0, none⟩) 1 1) HBB.out.symm) HR.out rfl (fun j y hy => by rw [Go.WideShapes.add_plain, HB6.out.cell, Nat.zero_add]; simpa using hy) (by simp [Value.oneCell']) (by omega) (by decide) (Nat.zero_le _) ?_
                          intro v7 x14 ho7 hg7 hf7
                          have HZ7 := Lib.hid hHeld.size
                          obtain ⟨p7, c7, rfl, -, -⟩ := Frm.ownsRow_form ho7
                          have H7 := Lib.hid ho7
                          have HF7 := Lib.hid (fun y hy => (hf7 y hy).imp id (fun hh => Nat.le_trans HZ7.out hh))
                          have HKB := Lib.hid (HKB.out.grown hg7 (fun e => Ty.ne (owns_ty HR.out e) ⟨_, HKB.out⟩ (by decide) rfl))
                          have HX := Lib.hid (HX.out.grown hg7 HNG.out)
                          have hb := hHeld.grown hg7 (fun k hk _ => .inr hk)
                          clear ho7 hg7 hf7 HB6
                          show K (Act.put _ (some 83) _) x14
                          refine hK.out _ _ hb (fun _ => ?_)
                          clear hK K hHeld
                          have hHeld : Mods (fun y => y = g ∨ (Value.slice po j co).ownBlock = some y) w10 x14 := hb
                          clear hb
                          try simp only [Act.put, List.setIfInBounds_toArray, List.set_cons_zero, List.set_cons_succ]
                          refine wpAnyH_take (i := 15) (v := ?vv130) (by rfl) (by kernel_rfl) (by kernel_rfl) (by kernel_rfl) (by intro _ _ _ h; exact h) (Or.inl ⟨by kernel_rfl, ?hy130⟩) (by assumption) ?rest130
                          case hy130 =>
                            intro w' hSw
                            have hSw : Mods (fun y => y = g ∨ (Value.slice po j co).ownBlock = some y) w10 w' := hSw
                            clear hSw
                            go_simp
                            try with_reducible rfl
                          change wpAnyH _ _ _ _ _ _ _ (Act.put _ (some 84) _) _
                          try simp only [Act.put, List.setIfInBounds_toArray, List.set_cons_zero, List.set_cons_succ]
                          refine wpAnyH_take (i := 16) (v := ?vv131) (by rfl) (by kernel_rfl) (by kernel_rfl) (by kernel_rfl) (by intro _ _ _ h; exact h) (Or.inl ⟨by kernel_rfl, ?hy131⟩) (by assumption) ?rest131
                          case hy131 =>
                            intro w' hSw
                            have hSw : Mods (fun y => y = g ∨ (Value.slice po j co).ownBlock = some y) w10 w' := hSw
                            clear hSw
                            go_simp
                            try with_reducible rfl
                          change wpAnyH _ _ _ _ _ _ _ (Act.put _ (some 85) _) _
                          try simp only [Act.put, List.setIfInBounds_toArray, List.set_cons_zero, List.set_cons_succ]
                          refine wpAnyH_ready (rs := [17]) (by kernel_rfl) (by simp) ?_
                          refine AllReadyH.cons (o := _) rfl (fun K hK => ?_) ?_
                          · have hx : World.cell? x14 ⟨g, 1, none⟩ = some (Value.slice po j co) := by rw [HX.out.cell]; rfl
                            have hz : World.frozen? x14 ⟨g, 1, none⟩ = false := HX.out.frozen 1
                            go_simp
                            have HX3 := Lib.hid (HX.out.set_ 1 (.slice p7 (j + 1) c7))
                            have H7s := Lib.hid (Frm.ownsRow_mods (S := fun x => x = g) H7.out ((Mods.refl (fun x => x = g) _).setCell (p := ⟨g, 1, none⟩) (fun _ => rfl) (.slice p7 (j + 1) c7)) (fun x hx e => Frm.ownsRow_ne H7.out HX.out (by decide) (by rw [hx, e])))
                            have HKB := Lib.hid (HKB.out.mods ((Mods.refl (fun x => x = g) _).setCell (p := ⟨g, 1, none⟩) (fun _ => rfl) (.slice p7 (j + 1) c7)) (fun e => Ty.ne ⟨_, HKB.out⟩ ⟨_, HX.out⟩ (by decide) e))
                            have hb := hHeld.setCell (p := ⟨g, 1, none⟩) (fun _ => .inl rfl) (.slice p7 (j + 1) c7)
                            clear hx hz HX H7
                            generalize World.setCell x14 ⟨g, 1, none⟩ (.slice p7 (j + 1) c7) = xF at *
                            refine hK.out _ _ hb (fun _ => ?_)
                            clear hK K hHeld
                            have hHeld : Mods (fun y => y = g ∨ (Value.slice po j co).ownBlock = some y) w10 xF := hb
                            clear hb
                            try simp only [Act.put, List.setIfInBounds_toArray, List.set_cons_zero, List.set_cons_succ]
                            refine wpAnyH_done (by kernel_rfl) ?_ _
                            refine NoPanic.normal ?_
                            have HE := Lib.hid (HS.out.more hj24 (HK6.out.trans HK9.out) HM10.out HN10.out hHeld HX3.out (by have := H7s.out; rw [hnl]; exact this) HF7.out HKZ.out HKB.out HBL.out (by rw [← HRST.out, HS.out.nlen]))
                            go_wp2_with fail
                            go_roundw
                            case rel => exact ⟨j + 1, by simp, by omega, Lib.hid ⟨_, _, _, _, HE.out⟩⟩
                            case measure =>
                              simp only [RowKit.intOf]
                              omega
                          exact AllReadyH.nil
                        exact AllReadyH.nil
                      exact AllReadyH.nil
                    exact AllReadyH.nil
                  exact AllReadyH.nil
          · have hjn : j = fs.length := by rw [← HN.out]; omega
            have HXX : Hid (newD fs cap = some ⟨cap, ns, l, l, [], false, 0, (-1, 0), (-1, 0)⟩) := Lib.hid (by
              rw [HX.out, ← HS.out.rest, hjn, List.drop_length]
              rfl)
            have hlt' : decide ((j : Int) < (n : Int)) = false := by simp; omega
            have hj24 : j ≤ 1024 := by omega
            obtain ⟨-, -, g2⟩ := HS.out.half.cells
            have HCL := Lib.hid (cloneNames_any wr HS.out.half.names)
            clear hjn HX
            go_wp2_with fail
            refine HCL.out.mono ?_
            rintro e w3 ⟨rfl, hn3, hk3⟩
            have HB3 := Lib.hid (HS.out.half.blk.keeps hk3)
            have c3 : w3.cell? ⟨g, 3, none⟩ = some (.map none) := by rw [HB3.out.cell]; rfl
            have z3 : w3.frozen? ⟨g, 3, none⟩ = false := HB3.out.frozen _
            have HN3 := Lib.hid hn3
            have HK3 := Lib.hid hk3
            clear hn3 hk3 HCL g2
            go_wp2_with fail
            go_ret
            have hM := (Mods.refl (· = g) w3).setCell (p := ⟨g, 3, none⟩) (fun _ => rfl) (.map (some wr.heap.size))
            have hH := HS.out.half.keeps HK3.out
            have hg := hH.blk.lt
            have hgl := HS.out.half.blk.lt
            have tg : Ty w3 g 82 := ⟨_, hH.blk⟩
            unfold NewDid
            rw [HXX.out]
            refine ⟨hM.keeps (HS.out.keep.trans HK3.out) (fun y hy => by subst hy; exact HS.out.gW), g, rfl, b1, wr.heap.size, .slice po j co, .slice none 0 0, nb, ?_⟩
            have hll := HS.out.llen
            exact
              { blk := HB3.out.set_ 3 _
                row := by
                  have := Frm.ownsRow_mods hH.row hM (fun y hy e => Ty.ne (owns_ty hH.row hy) tg (by decide) e)
                  exact this
                len := hH.len
                nod := fun i h1 h2 => (hH.nod i h1 h2).mods hM (fun e => Ty.ne ⟨_, (hH.nod i h1 h2).blk⟩ tg (by decide) e) (fun y hy e => Ty.ne (owns_ty (hH.nod i h1 h2).pats hy) tg (by decide) e)
                sep := HS.out.sep
                seen := hH.names.mods hM (fun e => names_ty hH.names tg e)
                sure := HN3.out.mods hM (fun e => by omega)
                mvs := World.ownsRow_nil _ _ _ 3
                d12 := fun e => by have := HS.out.half.names.lt; omega
                sg := HS.out.gW
                s1 := HS.out.bW
                s2 := HS.out.keep.size
                sn := HS.out.nW
                sm := fun y hy => by simp [Value.ownBlock] at hy
                sb := fun p hp => ⟨(HS.out.pW p hp).1, fun y hy => by rw [(HS.out.pW p hp).2] at hy; simp [Value.ownBlock] at hy⟩
                fit :=
                  { r1 := HCB.out.1, r2 := HCB.out.2.1, s1 := by show l.length ≤ 1024; omega, s2 := by show l.length ≤ 1024; omega
                    is := hH.is, iu := hH.is, im := fun m hm => by simp at hm, nm := fun m hm => by simp at hm
                    ns := fun x hx => by
                      have := HS.out.nodes x hx
                      rw [this.2.1]
                      omega
                    ps := fun x hx p hp => by
                      rw [(HS.out.nodes x hx).2.2] at hp
                      simp at hp
                    fr := hH.fr, tf := ⟨by show (-1 : Int) ≤ -1; omega, by show (-1 : Int) ≤ _; omega⟩, tc := ⟨by show (-1 : Int) ≤ -1; omega, by show (-1 : Int) ≤ _; omega⟩ } }
end Vd
end Go.Proofs.YtchjncnolmiejaaGreat

/- SafeSure: its walk. Written by gen_safesure.py. -/
import Derived.Test.YtohchhgheeolpaaSfSurePlain
namespace Go.Proofs.Ytohchhgheeolpaa
open Go.RowKit
namespace Sf
open Vd
theorem tr_c (c : Int) : Tr (-1, 0) (setT c 11) := ⟨Int.le_refl _, (setT_in c 11).1, fun h => by have : (0 : Int) ≤ -1 := h; omega⟩
theorem few_U (f k : Int × Int) : Few (Wd 100000 uA false 0 f k) 1 :=
  ⟨by show (0 : Int) ≤ 0; omega, by show (0 : Int) ≤ 1; omega, Nat.zero_le _, Nat.zero_le _, fun y hy => absurd hy (List.not_mem_nil), Nat.zero_le _, Nat.zero_le _⟩
set_option maxRecDepth 100000 in
set_option maxHeartbeats 8000000 in
theorem safeSure_walk (W : World) (v0 : Value) (a : List UInt8) (v1 : Value) (b : List UInt8) (drop : Bool) (c t : Int) (v5 : Value) (ks : List Int) (r0 : Row W v0 (a.map u8v)) (r1 : Row W v1 (b.map u8v)) (_w3 : (Lit.int .i64 c).wf = true) (w4 : (Lit.int .i64 t).wf = true) (_w5 : ∀ x ∈ ks, (Lit.int .i64 x).wf = true) (r5 : Row W v5 (ks.map (.int .i64))) :
    Calls Try.prog 6 #[v0, v1, .bool drop, .int .i64 c, .int .i64 t, v5] W fun e w' => e = .returned (.bool true) ∧ Keeps W w' := by
  obtain ⟨p0, c0, rfl, -, -⟩ := r0.formB
  obtain ⟨p1, c1, rfl, -, -⟩ := r1.formB
  have HR0 := Lib.hid r0
  have HR1 := Lib.hid r1
  have HR5 := Lib.hid r5
  obtain ⟨p5, c5, rfl, -, -⟩ := r5.form
  have hkl : (ks.map (Value.int .i64)).length = ks.length := by simp
  rw [hkl] at HR5 ⊢
  have HWF := Lib.hid w4
  have HAW := Lib.hid (awake16_any W)
  clear r0 r1 r5 w4 _w3 _w5 hkl
  go_enter Try.func6, Try.ntmps6
  go_wp2_with fail
  refine HAW.out.mono ?_
  rintro e w1 ⟨rfl, hk1⟩
  have HK1 := Lib.hid hk1
  clear hk1 HAW
  by_cases h1 : 1000 < a.length
  · go_wp2_with fail
    go_ret
    exact ⟨rfl, HK1.out⟩
  by_cases h2 : 1000 < b.length
  · go_wp2_with fail
    go_ret
    exact ⟨rfl, HK1.out⟩
  by_cases h3 : 60 < ks.length
  · go_wp2_with fail
    go_ret
    exact ⟨rfl, HK1.out⟩
  have HNW := Lib.hid (new_at HK1.out (.slice none 0 0) [] (rowS_none _) (fun f hf => absurd hf (List.not_mem_nil)) 100000)
  unfold NewAt at HNW
  rw [show newD [] 100000 = some (Wd 100000 uA false 0 (-1, 0) (-1, 0)) from rfl] at HNW
  go_wp2_with fail
  refine HNW.out.mono ?_
  rintro e w3 ⟨hk, g, rfl, hd⟩
  have H3 := Lib.hid (show At W w3 g (Wd 100000 uA false 0 (-1, 0) (-1, 0)) 1 from ⟨hd, hk, few_U _ _⟩)
  clear hd hk HNW
  have HCR := Lib.hid (crash_at H3.out c)
  go_wp2_with fail
  refine HCR.out.mono ?_
  rintro e w5 ⟨rfl, h5⟩
  have H5 := Lib.hid (show At W w5 g (Wd 100000 uA false 0 (-1, 0) (setT c 11)) 1 from h5)
  clear h5 HCR H3
  have HRS := Lib.hid (sure_res (n := 0) (tr_c c) rfl (show a.length ≤ 1000 by omega) (show b.length ≤ 1000 by omega) drop)
  simp only at HRS
  have HMK := Lib.hid (smake_on H5.out.on (by omega) (x := nmS) (b := a) (by decide) (stays_keeps HR0.out) (by omega))
  generalize sMake nmS a (Wd 100000 uA false 0 (-1, 0) (setT c 11)) = q1 at *
  obtain ⟨d1, x⟩ := q1
  unfold nmS at HMK
  go_wp2_with fail
  refine HMK.out.mono ?_
  rintro e w6 ⟨ce, rfl, hce, ho⟩
  have hce : ce = x := hce
  subst hce
  have HO6 := Lib.hid ho
  clear ho HMK H5
  have HAP := Lib.hid (sappend_on HO6.out (by omega) (x := nmS) (b := b) (by decide) (stays_keeps HR1.out) (by omega))
  simp only at HAP HRS
  generalize sAppend nmS b d1 = q2 at *
  obtain ⟨d2, y⟩ := q2
  unfold nmS at HAP
  go_wp2_with fail
  refine HAP.out.mono ?_
  rintro e w7 ⟨cy, rfl, hcy, ho⟩
  have hcy : cy = y := hcy
  subst hcy
  have HO7 := Lib.hid ho
  clear ho HAP HO6
  go_upto_if 47 with fail
  go_cut [16] (fun zv wx => ∃ d3 z, zv = .int .i64 z ∧ Hid ((if drop then sDrop nmS d2 else (d2, 11)) = (d3, z) ∧ At W wx g d3 15))
  case first =>
    cases drop with
    | false =>
      go_wp2_with fail
      go_meet
      exact ⟨d2, 11, rfl, Lib.hid ⟨rfl, (On.more HO7.out (by omega)).at_⟩⟩
    | true =>
      have HDR := Lib.hid (sdrop_on HO7.out (by omega) (x := nmS) (by decide))
      generalize hq : sDrop nmS d2 = q3 at *
      obtain ⟨d3, z⟩ := q3
      have HQ := Lib.hid hq
      unfold nmS at HDR
      clear hq
      go_wp2_with fail
      refine HDR.out.mono ?_
      rintro e w8 ⟨cz, rfl, hcz, ho⟩
      have hcz : cz = z := hcz
      subst hcz
      have HO8 := Lib.hid ho
      clear ho HDR
      go_wp2_with fail
      go_meet
      exact ⟨d3, cz, rfl, Lib.hid ⟨by simp, HO8.out.at_⟩⟩
  case rest =>
  obtain ⟨d3, z, rfl, HF⟩ := hcut
  obtain ⟨w8, rfl⟩ : ∃ q : World, q = wc := ⟨_, rfl⟩
  rw [HF.out.1] at HRS
  have H8 := Lib.hid HF.out.2
  obtain ⟨off, n, f, k, sh, hd3, hcase⟩ := HRS.out
  have hd3 : d3 = Wd 100000 sh off n f k := hd3
  obtain ⟨n', f', k', hdn⟩ := down_shape sh off n f k
  rw [← hd3] at hdn
  have HBT := Lib.hid (booted_at H8.out (by omega) t HWF.out HR5.out)
  rw [hdn] at HBT
  have HCASE := Lib.hid hcase
  clear hd3 hdn HRS HF hcase HO7 H8
  go_wp2_with fail
  refine HBT.out.mono ?_
  rintro e w9 ⟨rfl, h9⟩
  have H9 := Lib.hid h9
  clear h9 HBT
  have HR := Lib.hid (read_at H9.out nmS (by decide))
  unfold nmS at HR
  obtain ⟨AB, hAB⟩ : ∃ AB, AB = a ++ b := ⟨_, rfl⟩
  have happ : bstr a ++ bstr b = bstr AB := by rw [hAB]; exact Frm.bstr_append a b
  have hsa := bstr_size a
  have hsb := bstr_size b
  have hsab := bstr_size AB
  have HABL := Lib.hid (show AB.length = a.length + b.length from by rw [hAB]; simp)
  have HAB := Lib.hid hAB
  clear hAB
  rcases HCASE.out with ⟨hx, hy, hz, hrd⟩ | ⟨hx, hy, hz, hrd⟩ | ⟨hx, hy, hz, hdr, hrd⟩ | ⟨hx, hy, hz, hdr, hrd⟩ | ⟨hx, hy, hz, hdr, hrd⟩
  · have hx : ce = 11 := hx
    have hy : cy = 11 := hy
    have hz : z = 11 := hz
    subst hx hy hz
    have HRD := Lib.hid (hrd n' f' k' t ks)
    clear hrd HCASE
    have hdrop : (drop && false) = false := by simp
    rcases HRD.out with hq | ⟨m, hm, hq⟩
    · cases drop
      · obtain ⟨L, hL⟩ : ∃ L : Str, L = [] := ⟨_, rfl⟩
        have HL := Lib.hid hL
        have HR := Lib.hid (show Calls Try.prog 25 #[.pointer (some ⟨g, 0, none⟩), .string (bstr [115])] w9 (ReadDid w9 (L, 7)) from by
          have hh := HR.out
          rw [show textD _ [115] = ([], 7) from hq] at hh
          rw [hL]
          exact hh)
        unfold ReadDid at HR
        
        have hle : L.length ≤ AB.length := by have := HABL.out; rw [hL]; simp <;> omega
        have hnt1 : decide (AB.length < L.length) = false := by simp; omega
        have hnt2 : decide ((AB.length : Int) < (L.length : Int)) = false := by simp; omega
        have HPR := Lib.hid (show AB.take L.length = L from (List.prefix_iff_eq_take.1 (show L <+: AB from by rw [hL, HAB.out]; exact List.nil_prefix)).symm)
        have HCS := Lib.hid (fun w' => show (Instr.slice 9 (.string (bstr AB)) none (some (.int .i64 (L.length : Int))) none).run Try.prog w' = .ok (.string (bstr L)) w' from by
          have := run_cut_str AB L.length hle w'
          rwa [HPR.out] at this)
        clear hL
        go_wp2_with fail
        refine HR.out.mono ?_
        rintro e wA ⟨v, rfl, hr, hk⟩
        obtain ⟨pr, cr, rfl, -, -⟩ := hr.formB
        have HE := Lib.hid (H9.out.keep.trans hk)
        have HRr := Lib.hid hr
        have hca := Frm.str_at' (HR0.out.keeps HE.out)
        have hcb := Frm.str_at' (HR1.out.keeps HE.out)
        have hbe : (!(bstr L).toList == (bstr L).toList) = false := by simp
        clear hr hk HR H9
        go_upto_region 20 with fail
        clear hca hcb
        refine wp_region_noPanic ?_
        refine wp_region_held_drew (S := fun w' => Keeps (wA) w') (by kernel_rfl) ((Keeps.refl _).drew) (fun _ => ?_)
        have hHeld : Keeps (wA) (wA).drew := (Keeps.refl _).drew
        refine wpAnyH_take (i := 0) (v := ?vv1) (by rfl) (by kernel_rfl) (by kernel_rfl) (by kernel_rfl) (by intro _ _ _ h; exact h) (Or.inl ⟨by kernel_rfl, ?hy1⟩) (by assumption) ?rest1
        case hy1 =>
          intro w' hSw
          have hSw : Keeps _ w' := hSw
          clear hSw
          go_simp
          try with_reducible rfl
        change wpAnyH _ _ _ _ _ _ _ (Act.put _ (some 69) _) _
        try simp only [Act.put, List.setIfInBounds_toArray, List.set_cons_zero, List.set_cons_succ]
        refine wpAnyH_take (i := 1) (v := ?vv2) (by rfl) (by kernel_rfl) (by kernel_rfl) (by kernel_rfl) (by intro _ _ _ h; exact h) (Or.inl ⟨by kernel_rfl, ?hy2⟩) (by assumption) ?rest2
        case hy2 =>
          intro w' hSw
          have hSw : Keeps _ w' := hSw
          clear hSw
          go_simp
          try with_reducible rfl
        change wpAnyH _ _ _ _ _ _ _ (Act.put _ (some 70) _) _
        try simp only [Act.put, List.setIfInBounds_toArray, List.set_cons_zero, List.set_cons_succ]
        refine wpAnyH_take (i := 2) (v := ?vv3) (by rfl) (by kernel_rfl) (by kernel_rfl) (by kernel_rfl) (by intro _ _ _ h; exact h) (Or.inl ⟨by kernel_rfl, ?hy3⟩) (by assumption) ?rest3
        case hy3 =>
          intro w' hSw
          have hSw : Keeps _ w' := hSw
          clear hSw
          go_simp
          try with_reducible rfl
        change wpAnyH _ _ _ _ _ _ _ (Act.put _ (some 71) _) _
        try simp only [Act.put, List.setIfInBounds_toArray, List.set_cons_zero, List.set_cons_succ]
        refine wpAnyH_take (i := 3) (v := ?vv4) (by rfl) (by kernel_rfl) (by kernel_rfl) (by kernel_rfl) (by intro _ _ _ h; exact h) (Or.inl ⟨by kernel_rfl, ?hy4⟩) (by assumption) ?rest4
        case hy4 =>
          intro w' hSw
          have hSw : Keeps _ w' := hSw
          clear hSw
          go_simp
          try with_reducible rfl
        change wpAnyH _ _ _ _ _ _ _ (Act.put _ (some 72) _) _
        try simp only [Act.put, List.setIfInBounds_toArray, List.set_cons_zero, List.set_cons_succ]
        refine wpAnyH_take (i := 4) (v := ?vv5) (by rfl) (by kernel_rfl) (by kernel_rfl) (by kernel_rfl) (by intro _ _ _ h; exact h) (Or.inl ⟨by kernel_rfl, ?hy5⟩) (by assumption) ?rest5
        case hy5 =>
          intro w' hSw
          have hSw : Keeps _ w' := hSw
          clear hSw
          go_simp
          try with_reducible rfl
        change wpAnyH _ _ _ _ _ _ _ (Act.put _ (some 73) _) _
        try simp only [Act.put, List.setIfInBounds_toArray, List.set_cons_zero, List.set_cons_succ]
        refine wpAnyH_take (i := 5) (v := ?vv6) (by rfl) (by kernel_rfl) (by kernel_rfl) (by kernel_rfl) (by intro _ _ _ h; exact h) (Or.inl ⟨by kernel_rfl, ?hy6⟩) (by assumption) ?rest6
        case hy6 =>
          intro w' hSw
          have hSw : Keeps _ w' := hSw
          clear hSw
          go_simp
          try with_reducible rfl
        change wpAnyH _ _ _ _ _ _ _ (Act.put _ (some 74) _) _
        try simp only [Act.put, List.setIfInBounds_toArray, List.set_cons_zero, List.set_cons_succ]
        refine wpAnyH_take (i := 6) (v := ?vv7) (by rfl) (by kernel_rfl) (by kernel_rfl) (by kernel_rfl) (by intro _ _ _ h; exact h) (Or.inl ⟨by kernel_rfl, ?hy7⟩) (by assumption) ?rest7
        case hy7 =>
          intro w' hSw
          have hSw : Keeps _ w' := hSw
          clear hSw
          go_simp
          try with_reducible rfl
        change wpAnyH _ _ _ _ _ _ _ (Act.put _ (some 75) _) _
        try simp only [Act.put, List.setIfInBounds_toArray, List.set_cons_zero, List.set_cons_succ]
        refine wpAnyH_take (i := 7) (v := ?vv8) (by rfl) (by kernel_rfl) (by kernel_rfl) (by kernel_rfl) (by intro _ _ _ h; exact h) (Or.inl ⟨by kernel_rfl, ?hy8⟩) (by assumption) ?rest8
        case hy8 =>
          intro w' hSw
          have hSw : Keeps _ w' := hSw
          have hc := Frm.str_at' (HRr.out.keeps hSw)
          clear hSw
          go_simp
          try with_reducible rfl
        change wpAnyH _ _ _ _ _ _ _ (Act.put _ (some 76) _) _
        try simp only [Act.put, List.setIfInBounds_toArray, List.set_cons_zero, List.set_cons_succ]
        refine wpAnyH_take (i := 8) (v := ?vv9) (by rfl) (by kernel_rfl) (by kernel_rfl) (by kernel_rfl) (by intro _ _ _ h; exact h) (Or.inl ⟨by kernel_rfl, ?hy9⟩) (by assumption) ?rest9
        case hy9 =>
          intro w' hSw
          have hSw : Keeps _ w' := hSw
          clear hSw
          go_simp
          try with_reducible rfl
        change wpAnyH _ _ _ _ _ _ _ (Act.put _ (some 77) _) _
        try simp only [Act.put, List.setIfInBounds_toArray, List.set_cons_zero, List.set_cons_succ]
        refine wpAnyH_take (i := 9) (v := ?vv10) (by rfl) (by kernel_rfl) (by kernel_rfl) (by kernel_rfl) (by intro _ _ _ h; exact h) (Or.inl ⟨by kernel_rfl, ?hy10⟩) (by assumption) ?rest10
        case hy10 =>
          intro w' hSw
          have hSw : Keeps _ w' := hSw
          clear hSw
          go_simp
          try with_reducible rfl
        change wpAnyH _ _ _ _ _ _ _ (Act.put _ (some 78) _) _
        try simp only [Act.put, List.setIfInBounds_toArray, List.set_cons_zero, List.set_cons_succ]
        refine wpAnyH_take (i := 10) (v := ?vv11) (by rfl) (by kernel_rfl) (by kernel_rfl) (by kernel_rfl) (by intro _ _ _ h; exact h) (Or.inl ⟨by kernel_rfl, ?hy11⟩) (by assumption) ?rest11
        case hy11 =>
          intro w' hSw
          have hSw : Keeps _ w' := hSw
          clear hSw
          go_simp
          try with_reducible rfl
        change wpAnyH _ _ _ _ _ _ _ (Act.put _ (some 79) _) _
        try simp only [Act.put, List.setIfInBounds_toArray, List.set_cons_zero, List.set_cons_succ]
        refine wpAnyH_take (i := 11) (v := ?vv12) (by rfl) (by kernel_rfl) (by kernel_rfl) (by kernel_rfl) (by intro _ _ _ h; exact h) (Or.inl ⟨by kernel_rfl, ?hy12⟩) (by assumption) ?rest12
        case hy12 =>
          intro w' hSw
          have hSw : Keeps _ w' := hSw
          have hc := HCS.out w'
          clear hSw
          go_simp
          try with_reducible rfl
        change wpAnyH _ _ _ _ _ _ _ (Act.put _ (some 80) _) _
        try simp only [Act.put, List.setIfInBounds_toArray, List.set_cons_zero, List.set_cons_succ]
        refine wpAnyH_take (i := 12) (v := ?vv13) (by rfl) (by kernel_rfl) (by kernel_rfl) (by kernel_rfl) (by intro _ _ _ h; exact h) (Or.inl ⟨by kernel_rfl, ?hy13⟩) (by assumption) ?rest13
        case hy13 =>
          intro w' hSw
          have hSw : Keeps _ w' := hSw
          clear hSw
          go_simp
          try with_reducible rfl
        change wpAnyH _ _ _ _ _ _ _ (Act.put _ (some 81) _) _
        try simp only [Act.put, List.setIfInBounds_toArray, List.set_cons_zero, List.set_cons_succ]
        refine wpAnyH_take (i := 13) (v := ?vv14) (by rfl) (by kernel_rfl) (by kernel_rfl) (by kernel_rfl) (by intro _ _ _ h; exact h) (Or.inl ⟨by kernel_rfl, ?hy14⟩) (by assumption) ?rest14
        case hy14 =>
          intro w' hSw
          have hSw : Keeps _ w' := hSw
          clear hSw
          go_simp
          try with_reducible rfl
        change wpAnyH _ _ _ _ _ _ _ (Act.put _ (some 82) _) _
        try simp only [Act.put, List.setIfInBounds_toArray, List.set_cons_zero, List.set_cons_succ]
        refine wpAnyH_done (by kernel_rfl) ?_ _
        refine NoPanic.normal ?_
        have HFN := Lib.hid (HE.out.trans (Keeps.refl wA).drew)
        have hcr := Frm.str_at' (HRr.out.keeps (Keeps.refl wA).drew)
        skip
        go_wp2_with fail
        go_ret
        exact ⟨by simp, HFN.out⟩
      · obtain ⟨L, hL⟩ : ∃ L : Str, L = [] := ⟨_, rfl⟩
        have HL := Lib.hid hL
        have HR := Lib.hid (show Calls Try.prog 25 #[.pointer (some ⟨g, 0, none⟩), .string (bstr [115])] w9 (ReadDid w9 (L, 7)) from by
          have hh := HR.out
          rw [show textD _ [115] = ([], 7) from hq] at hh
          rw [hL]
          exact hh)
        unfold ReadDid at HR
        
        have hle : L.length ≤ AB.length := by have := HABL.out; rw [hL]; simp <;> omega
        have hnt1 : decide (AB.length < L.length) = false := by simp; omega
        have hnt2 : decide ((AB.length : Int) < (L.length : Int)) = false := by simp; omega
        have HPR := Lib.hid (show AB.take L.length = L from (List.prefix_iff_eq_take.1 (show L <+: AB from by rw [hL, HAB.out]; exact List.nil_prefix)).symm)
        have HCS := Lib.hid (fun w' => show (Instr.slice 9 (.string (bstr AB)) none (some (.int .i64 (L.length : Int))) none).run Try.prog w' = .ok (.string (bstr L)) w' from by
          have := run_cut_str AB L.length hle w'
          rwa [HPR.out] at this)
        clear hL
        go_wp2_with fail
        refine HR.out.mono ?_
        rintro e wA ⟨v, rfl, hr, hk⟩
        obtain ⟨pr, cr, rfl, -, -⟩ := hr.formB
        have HE := Lib.hid (H9.out.keep.trans hk)
        have HRr := Lib.hid hr
        have hca := Frm.str_at' (HR0.out.keeps HE.out)
        have hcb := Frm.str_at' (HR1.out.keeps HE.out)
        have hbe : (!(bstr L).toList == (bstr L).toList) = false := by simp
        clear hr hk HR H9
        go_upto_region 20 with fail
        clear hca hcb
        refine wp_region_noPanic ?_
        refine wp_region_held_drew (S := fun w' => Keeps (wA) w') (by kernel_rfl) ((Keeps.refl _).drew) (fun _ => ?_)
        have hHeld : Keeps (wA) (wA).drew := (Keeps.refl _).drew
        refine wpAnyH_take (i := 0) (v := ?vv15) (by rfl) (by kernel_rfl) (by kernel_rfl) (by kernel_rfl) (by intro _ _ _ h; exact h) (Or.inl ⟨by kernel_rfl, ?hy15⟩) (by assumption) ?rest15
        case hy15 =>
          intro w' hSw
          have hSw : Keeps _ w' := hSw
          clear hSw
          go_simp
          try with_reducible rfl
        change wpAnyH _ _ _ _ _ _ _ (Act.put _ (some 69) _) _
        try simp only [Act.put, List.setIfInBounds_toArray, List.set_cons_zero, List.set_cons_succ]
        refine wpAnyH_take (i := 1) (v := ?vv16) (by rfl) (by kernel_rfl) (by kernel_rfl) (by kernel_rfl) (by intro _ _ _ h; exact h) (Or.inl ⟨by kernel_rfl, ?hy16⟩) (by assumption) ?rest16
        case hy16 =>
          intro w' hSw
          have hSw : Keeps _ w' := hSw
          clear hSw
          go_simp
          try with_reducible rfl
        change wpAnyH _ _ _ _ _ _ _ (Act.put _ (some 70) _) _
        try simp only [Act.put, List.setIfInBounds_toArray, List.set_cons_zero, List.set_cons_succ]
        refine wpAnyH_take (i := 2) (v := ?vv17) (by rfl) (by kernel_rfl) (by kernel_rfl) (by kernel_rfl) (by intro _ _ _ h; exact h) (Or.inl ⟨by kernel_rfl, ?hy17⟩) (by assumption) ?rest17
        case hy17 =>
          intro w' hSw
          have hSw : Keeps _ w' := hSw
          clear hSw
          go_simp
          try with_reducible rfl
        change wpAnyH _ _ _ _ _ _ _ (Act.put _ (some 71) _) _
        try simp only [Act.put, List.setIfInBounds_toArray, List.set_cons_zero, List.set_cons_succ]
        refine wpAnyH_take (i := 3) (v := ?vv18) (by rfl) (by kernel_rfl) (by kernel_rfl) (by kernel_rfl) (by intro _ _ _ h; exact h) (Or.inl ⟨by kernel_rfl, ?hy18⟩) (by assumption) ?rest18
        case hy18 =>
          intro w' hSw
          have hSw : Keeps _ w' := hSw
          clear hSw
          go_simp
          try with_reducible rfl
        change wpAnyH _ _ _ _ _ _ _ (Act.put _ (some 72) _) _
        try simp only [Act.put, List.setIfInBounds_toArray, List.set_cons_zero, List.set_cons_succ]
        refine wpAnyH_take (i := 4) (v := ?vv19) (by rfl) (by kernel_rfl) (by kernel_rfl) (by kernel_rfl) (by intro _ _ _ h; exact h) (Or.inl ⟨by kernel_rfl, ?hy19⟩) (by assumption) ?rest19
        case hy19 =>
          intro w' hSw
          have hSw : Keeps _ w' := hSw
          clear hSw
          go_simp
          try with_reducible rfl
        change wpAnyH _ _ _ _ _ _ _ (Act.put _ (some 73) _) _
        try simp only [Act.put, List.setIfInBounds_toArray, List.set_cons_zero, List.set_cons_succ]
        refine wpAnyH_take (i := 5) (v := ?vv20) (by rfl) (by kernel_rfl) (by kernel_rfl) (by kernel_rfl) (by intro _ _ _ h; exact h) (Or.inl ⟨by kernel_rfl, ?hy20⟩) (by assumption) ?rest20
        case hy20 =>
          intro w' hSw
          have hSw : Keeps _ w' := hSw
          clear hSw
          go_simp
          try with_reducible rfl
        change wpAnyH _ _ _ _ _ _ _ (Act.put _ (some 74) _) _
        try simp only [Act.put, List.setIfInBounds_toArray, List.set_cons_zero, List.set_cons_succ]
        refine wpAnyH_take (i := 6) (v := ?vv21) (by rfl) (by kernel_rfl) (by kernel_rfl) (by kernel_rfl) (by intro _ _ _ h; exact h) (Or.inl ⟨by kernel_rfl, ?hy21⟩) (by assumption) ?rest21
        case hy21 =>
          intro w' hSw
          have hSw : Keeps _ w' := hSw
          clear hSw
          go_simp
          try with_reducible rfl
        change wpAnyH _ _ _ _ _ _ _ (Act.put _ (some 75) _) _
        try simp only [Act.put, List.setIfInBounds_toArray, List.set_cons_zero, List.set_cons_succ]
        refine wpAnyH_take (i := 7) (v := ?vv22) (by rfl) (by kernel_rfl) (by kernel_rfl) (by kernel_rfl) (by intro _ _ _ h; exact h) (Or.inl ⟨by kernel_rfl, ?hy22⟩) (by assumption) ?rest22
        case hy22 =>
          intro w' hSw
          have hSw : Keeps _ w' := hSw
          have hc := Frm.str_at' (HRr.out.keeps hSw)
          clear hSw
          go_simp
          try with_reducible rfl
        change wpAnyH _ _ _ _ _ _ _ (Act.put _ (some 76) _) _
        try simp only [Act.put, List.setIfInBounds_toArray, List.set_cons_zero, List.set_cons_succ]
        refine wpAnyH_take (i := 8) (v := ?vv23) (by rfl) (by kernel_rfl) (by kernel_rfl) (by kernel_rfl) (by intro _ _ _ h; exact h) (Or.inl ⟨by kernel_rfl, ?hy23⟩) (by assumption) ?rest23
        case hy23 =>
          intro w' hSw
          have hSw : Keeps _ w' := hSw
          clear hSw
          go_simp
          try with_reducible rfl
        change wpAnyH _ _ _ _ _ _ _ (Act.put _ (some 77) _) _
        try simp only [Act.put, List.setIfInBounds_toArray, List.set_cons_zero, List.set_cons_succ]
        refine wpAnyH_take (i := 9) (v := ?vv24) (by rfl) (by kernel_rfl) (by kernel_rfl) (by kernel_rfl) (by intro _ _ _ h; exact h) (Or.inl ⟨by kernel_rfl, ?hy24⟩) (by assumption) ?rest24
        case hy24 =>
          intro w' hSw
          have hSw : Keeps _ w' := hSw
          clear hSw
          go_simp
          try with_reducible rfl
        change wpAnyH _ _ _ _ _ _ _ (Act.put _ (some 78) _) _
        try simp only [Act.put, List.setIfInBounds_toArray, List.set_cons_zero, List.set_cons_succ]
        refine wpAnyH_take (i := 10) (v := ?vv25) (by rfl) (by kernel_rfl) (by kernel_rfl) (by kernel_rfl) (by intro _ _ _ h; exact h) (Or.inl ⟨by kernel_rfl, ?hy25⟩) (by assumption) ?rest25
        case hy25 =>
          intro w' hSw
          have hSw : Keeps _ w' := hSw
          clear hSw
          go_simp
          try with_reducible rfl
        change wpAnyH _ _ _ _ _ _ _ (Act.put _ (some 79) _) _
        try simp only [Act.put, List.setIfInBounds_toArray, List.set_cons_zero, List.set_cons_succ]
        refine wpAnyH_take (i := 11) (v := ?vv26) (by rfl) (by kernel_rfl) (by kernel_rfl) (by kernel_rfl) (by intro _ _ _ h; exact h) (Or.inl ⟨by kernel_rfl, ?hy26⟩) (by assumption) ?rest26
        case hy26 =>
          intro w' hSw
          have hSw : Keeps _ w' := hSw
          have hc := HCS.out w'
          clear hSw
          go_simp
          try with_reducible rfl
        change wpAnyH _ _ _ _ _ _ _ (Act.put _ (some 80) _) _
        try simp only [Act.put, List.setIfInBounds_toArray, List.set_cons_zero, List.set_cons_succ]
        refine wpAnyH_take (i := 12) (v := ?vv27) (by rfl) (by kernel_rfl) (by kernel_rfl) (by kernel_rfl) (by intro _ _ _ h; exact h) (Or.inl ⟨by kernel_rfl, ?hy27⟩) (by assumption) ?rest27
        case hy27 =>
          intro w' hSw
          have hSw : Keeps _ w' := hSw
          clear hSw
          go_simp
          try with_reducible rfl
        change wpAnyH _ _ _ _ _ _ _ (Act.put _ (some 81) _) _
        try simp only [Act.put, List.setIfInBounds_toArray, List.set_cons_zero, List.set_cons_succ]
        refine wpAnyH_take (i := 13) (v := ?vv28) (by rfl) (by kernel_rfl) (by kernel_rfl) (by kernel_rfl) (by intro _ _ _ h; exact h) (Or.inl ⟨by kernel_rfl, ?hy28⟩) (by assumption) ?rest28
        case hy28 =>
          intro w' hSw
          have hSw : Keeps _ w' := hSw
          clear hSw
          go_simp
          try with_reducible rfl
        change wpAnyH _ _ _ _ _ _ _ (Act.put _ (some 82) _) _
        try simp only [Act.put, List.setIfInBounds_toArray, List.set_cons_zero, List.set_cons_succ]
        refine wpAnyH_done (by kernel_rfl) ?_ _
        refine NoPanic.normal ?_
        have HFN := Lib.hid (HE.out.trans (Keeps.refl wA).drew)
        have hcr := Frm.str_at' (HRr.out.keeps (Keeps.refl wA).drew)
        skip
        go_wp2_with fail
        go_ret
        exact ⟨by simp, HFN.out⟩
    · cases drop
      · obtain ⟨L, hL⟩ : ∃ L : Str, L = a.take m := ⟨_, rfl⟩
        have HL := Lib.hid hL
        have HR := Lib.hid (show Calls Try.prog 25 #[.pointer (some ⟨g, 0, none⟩), .string (bstr [115])] w9 (ReadDid w9 (L, 0)) from by
          have hh := HR.out
          rw [show textD _ [115] = (a.take m, 0) from hq] at hh
          rw [hL]
          exact hh)
        unfold ReadDid at HR
        have hla : L.length ≤ a.length := by rw [hL]; simp <;> omega
        have hle : L.length ≤ AB.length := by have := HABL.out; rw [hL]; simp <;> omega
        have hnt1 : decide (AB.length < L.length) = false := by simp; omega
        have hnt2 : decide ((AB.length : Int) < (L.length : Int)) = false := by simp; omega
        have HPR := Lib.hid (show AB.take L.length = L from (List.prefix_iff_eq_take.1 (show L <+: AB from by rw [hL, HAB.out]; exact (List.take_prefix m a).trans (List.prefix_append a b))).symm)
        have HCS := Lib.hid (fun w' => show (Instr.slice 9 (.string (bstr AB)) none (some (.int .i64 (L.length : Int))) none).run Try.prog w' = .ok (.string (bstr L)) w' from by
          have := run_cut_str AB L.length hle w'
          rwa [HPR.out] at this)
        clear hL
        go_wp2_with fail
        refine HR.out.mono ?_
        rintro e wA ⟨v, rfl, hr, hk⟩
        obtain ⟨pr, cr, rfl, -, -⟩ := hr.formB
        have HE := Lib.hid (H9.out.keep.trans hk)
        have HRr := Lib.hid hr
        have hca := Frm.str_at' (HR0.out.keeps HE.out)
        have hcb := Frm.str_at' (HR1.out.keeps HE.out)
        have hbe : (!(bstr L).toList == (bstr L).toList) = false := by simp
        clear hr hk HR H9
        go_upto_region 20 with fail
        clear hca hcb
        refine wp_region_noPanic ?_
        refine wp_region_held_drew (S := fun w' => Keeps (wA) w') (by kernel_rfl) ((Keeps.refl _).drew) (fun _ => ?_)
        have hHeld : Keeps (wA) (wA).drew := (Keeps.refl _).drew
        refine wpAnyH_take (i := 0) (v := ?vv29) (by rfl) (by kernel_rfl) (by kernel_rfl) (by kernel_rfl) (by intro _ _ _ h; exact h) (Or.inl ⟨by kernel_rfl, ?hy29⟩) (by assumption) ?rest29
        case hy29 =>
          intro w' hSw
          have hSw : Keeps _ w' := hSw
          clear hSw
          go_simp
          try with_reducible rfl
        change wpAnyH _ _ _ _ _ _ _ (Act.put _ (some 69) _) _
        try simp only [Act.put, List.setIfInBounds_toArray, List.set_cons_zero, List.set_cons_succ]
        refine wpAnyH_take (i := 1) (v := ?vv30) (by rfl) (by kernel_rfl) (by kernel_rfl) (by kernel_rfl) (by intro _ _ _ h; exact h) (Or.inl ⟨by kernel_rfl, ?hy30⟩) (by assumption) ?rest30
        case hy30 =>
          intro w' hSw
          have hSw : Keeps _ w' := hSw
          clear hSw
          go_simp
          try with_reducible rfl
        change wpAnyH _ _ _ _ _ _ _ (Act.put _ (some 70) _) _
        try simp only [Act.put, List.setIfInBounds_toArray, List.set_cons_zero, List.set_cons_succ]
        refine wpAnyH_take (i := 2) (v := ?vv31) (by rfl) (by kernel_rfl) (by kernel_rfl) (by kernel_rfl) (by intro _ _ _ h; exact h) (Or.inl ⟨by kernel_rfl, ?hy31⟩) (by assumption) ?rest31
        case hy31 =>
          intro w' hSw
          have hSw : Keeps _ w' := hSw
          clear hSw
          go_simp
          try with_reducible rfl
        change wpAnyH _ _ _ _ _ _ _ (Act.put _ (some 71) _) _
        try simp only [Act.put, List.setIfInBounds_toArray, List.set_cons_zero, List.set_cons_succ]
        refine wpAnyH_take (i := 3) (v := ?vv32) (by rfl) (by kernel_rfl) (by kernel_rfl) (by kernel_rfl) (by intro _ _ _ h; exact h) (Or.inl ⟨by kernel_rfl, ?hy32⟩) (by assumption) ?rest32
        case hy32 =>
          intro w' hSw
          have hSw : Keeps _ w' := hSw
          clear hSw
          go_simp
          try with_reducible rfl
        change wpAnyH _ _ _ _ _ _ _ (Act.put _ (some 72) _) _
        try simp only [Act.put, List.setIfInBounds_toArray, List.set_cons_zero, List.set_cons_succ]
        refine wpAnyH_take (i := 4) (v := ?vv33) (by rfl) (by kernel_rfl) (by kernel_rfl) (by kernel_rfl) (by intro _ _ _ h; exact h) (Or.inl ⟨by kernel_rfl, ?hy33⟩) (by assumption) ?rest33
        case hy33 =>
          intro w' hSw
          have hSw : Keeps _ w' := hSw
          clear hSw
          go_simp
          try with_reducible rfl
        change wpAnyH _ _ _ _ _ _ _ (Act.put _ (some 73) _) _
        try simp only [Act.put, List.setIfInBounds_toArray, List.set_cons_zero, List.set_cons_succ]
        refine wpAnyH_take (i := 5) (v := ?vv34) (by rfl) (by kernel_rfl) (by kernel_rfl) (by kernel_rfl) (by intro _ _ _ h; exact h) (Or.inl ⟨by kernel_rfl, ?hy34⟩) (by assumption) ?rest34
        case hy34 =>
          intro w' hSw
          have hSw : Keeps _ w' := hSw
          clear hSw
          go_simp
          try with_reducible rfl
        change wpAnyH _ _ _ _ _ _ _ (Act.put _ (some 74) _) _
        try simp only [Act.put, List.setIfInBounds_toArray, List.set_cons_zero, List.set_cons_succ]
        refine wpAnyH_take (i := 6) (v := ?vv35) (by rfl) (by kernel_rfl) (by kernel_rfl) (by kernel_rfl) (by intro _ _ _ h; exact h) (Or.inl ⟨by kernel_rfl, ?hy35⟩) (by assumption) ?rest35
        case hy35 =>
          intro w' hSw
          have hSw : Keeps _ w' := hSw
          clear hSw
          go_simp
          try with_reducible rfl
        change wpAnyH _ _ _ _ _ _ _ (Act.put _ (some 75) _) _
        try simp only [Act.put, List.setIfInBounds_toArray, List.set_cons_zero, List.set_cons_succ]
        refine wpAnyH_take (i := 7) (v := ?vv36) (by rfl) (by kernel_rfl) (by kernel_rfl) (by kernel_rfl) (by intro _ _ _ h; exact h) (Or.inl ⟨by kernel_rfl, ?hy36⟩) (by assumption) ?rest36
        case hy36 =>
          intro w' hSw
          have hSw : Keeps _ w' := hSw
          have hc := Frm.str_at' (HRr.out.keeps hSw)
          clear hSw
          go_simp
          try with_reducible rfl
        change wpAnyH _ _ _ _ _ _ _ (Act.put _ (some 76) _) _
        try simp only [Act.put, List.setIfInBounds_toArray, List.set_cons_zero, List.set_cons_succ]
        refine wpAnyH_take (i := 8) (v := ?vv37) (by rfl) (by kernel_rfl) (by kernel_rfl) (by kernel_rfl) (by intro _ _ _ h; exact h) (Or.inl ⟨by kernel_rfl, ?hy37⟩) (by assumption) ?rest37
        case hy37 =>
          intro w' hSw
          have hSw : Keeps _ w' := hSw
          clear hSw
          go_simp
          try with_reducible rfl
        change wpAnyH _ _ _ _ _ _ _ (Act.put _ (some 77) _) _
        try simp only [Act.put, List.setIfInBounds_toArray, List.set_cons_zero, List.set_cons_succ]
        refine wpAnyH_take (i := 9) (v := ?vv38) (by rfl) (by kernel_rfl) (by kernel_rfl) (by kernel_rfl) (by intro _ _ _ h; exact h) (Or.inl ⟨by kernel_rfl, ?hy38⟩) (by assumption) ?rest38
        case hy38 =>
          intro w' hSw
          have hSw : Keeps _ w' := hSw
          clear hSw
          go_simp
          try with_reducible rfl
        change wpAnyH _ _ _ _ _ _ _ (Act.put _ (some 78) _) _
        try simp only [Act.put, List.setIfInBounds_toArray, List.set_cons_zero, List.set_cons_succ]
        refine wpAnyH_take (i := 10) (v := ?vv39) (by rfl) (by kernel_rfl) (by kernel_rfl) (by kernel_rfl) (by intro _ _ _ h; exact h) (Or.inl ⟨by kernel_rfl, ?hy39⟩) (by assumption) ?rest39
        case hy39 =>
          intro w' hSw
          have hSw : Keeps _ w' := hSw
          clear hSw
          go_simp
          try with_reducible rfl
        change wpAnyH _ _ _ _ _ _ _ (Act.put _ (some 79) _) _
        try simp only [Act.put, List.setIfInBounds_toArray, List.set_cons_zero, List.set_cons_succ]
        refine wpAnyH_take (i := 11) (v := ?vv40) (by rfl) (by kernel_rfl) (by kernel_rfl) (by kernel_rfl) (by intro _ _ _ h; exact h) (Or.inl ⟨by kernel_rfl, ?hy40⟩) (by assumption) ?rest40
        case hy40 =>
          intro w' hSw
          have hSw : Keeps _ w' := hSw
          have hc := HCS.out w'
          clear hSw
          go_simp
          try with_reducible rfl
        change wpAnyH _ _ _ _ _ _ _ (Act.put _ (some 80) _) _
        try simp only [Act.put, List.setIfInBounds_toArray, List.set_cons_zero, List.set_cons_succ]
        refine wpAnyH_take (i := 12) (v := ?vv41) (by rfl) (by kernel_rfl) (by kernel_rfl) (by kernel_rfl) (by intro _ _ _ h; exact h) (Or.inl ⟨by kernel_rfl, ?hy41⟩) (by assumption) ?rest41
        case hy41 =>
          intro w' hSw
          have hSw : Keeps _ w' := hSw
          clear hSw
          go_simp
          try with_reducible rfl
        change wpAnyH _ _ _ _ _ _ _ (Act.put _ (some 81) _) _
        try simp only [Act.put, List.setIfInBounds_toArray, List.set_cons_zero, List.set_cons_succ]
        refine wpAnyH_take (i := 13) (v := ?vv42) (by rfl) (by kernel_rfl) (by kernel_rfl) (by kernel_rfl) (by intro _ _ _ h; exact h) (Or.inl ⟨by kernel_rfl, ?hy42⟩) (by assumption) ?rest42
        case hy42 =>
          intro w' hSw
          have hSw : Keeps _ w' := hSw
          clear hSw
          go_simp
          try with_reducible rfl
        change wpAnyH _ _ _ _ _ _ _ (Act.put _ (some 82) _) _
        try simp only [Act.put, List.setIfInBounds_toArray, List.set_cons_zero, List.set_cons_succ]
        refine wpAnyH_done (by kernel_rfl) ?_ _
        refine NoPanic.normal ?_
        have HFN := Lib.hid (HE.out.trans (Keeps.refl wA).drew)
        have hcr := Frm.str_at' (HRr.out.keeps (Keeps.refl wA).drew)
        skip
        go_wp2_with fail
        go_ret
        exact ⟨by simp, HFN.out⟩
      · obtain ⟨L, hL⟩ : ∃ L : Str, L = a.take m := ⟨_, rfl⟩
        have HL := Lib.hid hL
        have HR := Lib.hid (show Calls Try.prog 25 #[.pointer (some ⟨g, 0, none⟩), .string (bstr [115])] w9 (ReadDid w9 (L, 0)) from by
          have hh := HR.out
          rw [show textD _ [115] = (a.take m, 0) from hq] at hh
          rw [hL]
          exact hh)
        unfold ReadDid at HR
        have hla : L.length ≤ a.length := by rw [hL]; simp <;> omega
        have hle : L.length ≤ AB.length := by have := HABL.out; rw [hL]; simp <;> omega
        have hnt1 : decide (AB.length < L.length) = false := by simp; omega
        have hnt2 : decide ((AB.length : Int) < (L.length : Int)) = false := by simp; omega
        have HPR := Lib.hid (show AB.take L.length = L from (List.prefix_iff_eq_take.1 (show L <+: AB from by rw [hL, HAB.out]; exact (List.take_prefix m a).trans (List.prefix_append a b))).symm)
        have HCS := Lib.hid (fun w' => show (Instr.slice 9 (.string (bstr AB)) none (some (.int .i64 (L.length : Int))) none).run Try.prog w' = .ok (.string (bstr L)) w' from by
          have := run_cut_str AB L.length hle w'
          rwa [HPR.out] at this)
        clear hL
        go_wp2_with fail
        refine HR.out.mono ?_
        rintro e wA ⟨v, rfl, hr, hk⟩
        obtain ⟨pr, cr, rfl, -, -⟩ := hr.formB
        have HE := Lib.hid (H9.out.keep.trans hk)
        have HRr := Lib.hid hr
        have hca := Frm.str_at' (HR0.out.keeps HE.out)
        have hcb := Frm.str_at' (HR1.out.keeps HE.out)
        have hbe : (!(bstr L).toList == (bstr L).toList) = false := by simp
        clear hr hk HR H9
        go_upto_region 20 with fail
        clear hca hcb
        refine wp_region_noPanic ?_
        refine wp_region_held_drew (S := fun w' => Keeps (wA) w') (by kernel_rfl) ((Keeps.refl _).drew) (fun _ => ?_)
        have hHeld : Keeps (wA) (wA).drew := (Keeps.refl _).drew
        refine wpAnyH_take (i := 0) (v := ?vv43) (by rfl) (by kernel_rfl) (by kernel_rfl) (by kernel_rfl) (by intro _ _ _ h; exact h) (Or.inl ⟨by kernel_rfl, ?hy43⟩) (by assumption) ?rest43
        case hy43 =>
          intro w' hSw
          have hSw : Keeps _ w' := hSw
          clear hSw
          go_simp
          try with_reducible rfl
        change wpAnyH _ _ _ _ _ _ _ (Act.put _ (some 69) _) _
        try simp only [Act.put, List.setIfInBounds_toArray, List.set_cons_zero, List.set_cons_succ]
        refine wpAnyH_take (i := 1) (v := ?vv44) (by rfl) (by kernel_rfl) (by kernel_rfl) (by kernel_rfl) (by intro _ _ _ h; exact h) (Or.inl ⟨by kernel_rfl, ?hy44⟩) (by assumption) ?rest44
        case hy44 =>
          intro w' hSw
          have hSw : Keeps _ w' := hSw
          clear hSw
          go_simp
          try with_reducible rfl
        change wpAnyH _ _ _ _ _ _ _ (Act.put _ (some 70) _) _
        try simp only [Act.put, List.setIfInBounds_toArray, List.set_cons_zero, List.set_cons_succ]
        refine wpAnyH_take (i := 2) (v := ?vv45) (by rfl) (by kernel_rfl) (by kernel_rfl) (by kernel_rfl) (by intro _ _ _ h; exact h) (Or.inl ⟨by kernel_rfl, ?hy45⟩) (by assumption) ?rest45
        case hy45 =>
          intro w' hSw
          have hSw : Keeps _ w' := hSw
          clear hSw
          go_simp
          try with_reducible rfl
        change wpAnyH _ _ _ _ _ _ _ (Act.put _ (some 71) _) _
        try simp only [Act.put, List.setIfInBounds_toArray, List.set_cons_zero, List.set_cons_succ]
        refine wpAnyH_take (i := 3) (v := ?vv46) (by rfl) (by kernel_rfl) (by kernel_rfl) (by kernel_rfl) (by intro _ _ _ h; exact h) (Or.inl ⟨by kernel_rfl, ?hy46⟩) (by assumption) ?rest46
        case hy46 =>
          intro w' hSw
          have hSw : Keeps _ w' := hSw
          clear hSw
          go_simp
          try with_reducible rfl
        change wpAnyH _ _ _ _ _ _ _ (Act.put _ (some 72) _) _
        try simp only [Act.put, List.setIfInBounds_toArray, List.set_cons_zero, List.set_cons_succ]
        refine wpAnyH_take (i := 4) (v := ?vv47) (by rfl) (by kernel_rfl) (by kernel_rfl) (by kernel_rfl) (by intro _ _ _ h; exact h) (Or.inl ⟨by kernel_rfl, ?hy47⟩) (by assumption) ?rest47
        case hy47 =>
          intro w' hSw
          have hSw : Keeps _ w' := hSw
          clear hSw
          go_simp
          try with_reducible rfl
        change wpAnyH _ _ _ _ _ _ _ (Act.put _ (some 73) _) _
        try simp only [Act.put, List.setIfInBounds_toArray, List.set_cons_zero, List.set_cons_succ]
        refine wpAnyH_take (i := 5) (v := ?vv48) (by rfl) (by kernel_rfl) (by kernel_rfl) (by kernel_rfl) (by intro _ _ _ h; exact h) (Or.inl ⟨by kernel_rfl, ?hy48⟩) (by assumption) ?rest48
        case hy48 =>
          intro w' hSw
          have hSw : Keeps _ w' := hSw
          clear hSw
          go_simp
          try with_reducible rfl
        change wpAnyH _ _ _ _ _ _ _ (Act.put _ (some 74) _) _
        try simp only [Act.put, List.setIfInBounds_toArray, List.set_cons_zero, List.set_cons_succ]
        refine wpAnyH_take (i := 6) (v := ?vv49) (by rfl) (by kernel_rfl) (by kernel_rfl) (by kernel_rfl) (by intro _ _ _ h; exact h) (Or.inl ⟨by kernel_rfl, ?hy49⟩) (by assumption) ?rest49
        case hy49 =>
          intro w' hSw
          have hSw : Keeps _ w' := hSw
          clear hSw
          go_simp
          try with_reducible rfl
        change wpAnyH _ _ _ _ _ _ _ (Act.put _ (some 75) _) _
        try simp only [Act.put, List.setIfInBounds_toArray, List.set_cons_zero, List.set_cons_succ]
        refine wpAnyH_take (i := 7) (v := ?vv50) (by rfl) (by kernel_rfl) (by kernel_rfl) (by kernel_rfl) (by intro _ _ _ h; exact h) (Or.inl ⟨by kernel_rfl, ?hy50⟩) (by assumption) ?rest50
        case hy50 =>
          intro w' hSw
          have hSw : Keeps _ w' := hSw
          have hc := Frm.str_at' (HRr.out.keeps hSw)
          clear hSw
          go_simp
          try with_reducible rfl
        change wpAnyH _ _ _ _ _ _ _ (Act.put _ (some 76) _) _
        try simp only [Act.put, List.setIfInBounds_toArray, List.set_cons_zero, List.set_cons_succ]
        refine wpAnyH_take (i := 8) (v := ?vv51) (by rfl) (by kernel_rfl) (by kernel_rfl) (by kernel_rfl) (by intro _ _ _ h; exact h) (Or.inl ⟨by kernel_rfl, ?hy51⟩) (by assumption) ?rest51
        case hy51 =>
          intro w' hSw
          have hSw : Keeps _ w' := hSw
          clear hSw
          go_simp
          try with_reducible rfl
        change wpAnyH _ _ _ _ _ _ _ (Act.put _ (some 77) _) _
        try simp only [Act.put, List.setIfInBounds_toArray, List.set_cons_zero, List.set_cons_succ]
        refine wpAnyH_take (i := 9) (v := ?vv52) (by rfl) (by kernel_rfl) (by kernel_rfl) (by kernel_rfl) (by intro _ _ _ h; exact h) (Or.inl ⟨by kernel_rfl, ?hy52⟩) (by assumption) ?rest52
        case hy52 =>
          intro w' hSw
          have hSw : Keeps _ w' := hSw
          clear hSw
          go_simp
          try with_reducible rfl
        change wpAnyH _ _ _ _ _ _ _ (Act.put _ (some 78) _) _
        try simp only [Act.put, List.setIfInBounds_toArray, List.set_cons_zero, List.set_cons_succ]
        refine wpAnyH_take (i := 10) (v := ?vv53) (by rfl) (by kernel_rfl) (by kernel_rfl) (by kernel_rfl) (by intro _ _ _ h; exact h) (Or.inl ⟨by kernel_rfl, ?hy53⟩) (by assumption) ?rest53
        case hy53 =>
          intro w' hSw
          have hSw : Keeps _ w' := hSw
          clear hSw
          go_simp
          try with_reducible rfl
        change wpAnyH _ _ _ _ _ _ _ (Act.put _ (some 79) _) _
        try simp only [Act.put, List.setIfInBounds_toArray, List.set_cons_zero, List.set_cons_succ]
        refine wpAnyH_take (i := 11) (v := ?vv54) (by rfl) (by kernel_rfl) (by kernel_rfl) (by kernel_rfl) (by intro _ _ _ h; exact h) (Or.inl ⟨by kernel_rfl, ?hy54⟩) (by assumption) ?rest54
        case hy54 =>
          intro w' hSw
          have hSw : Keeps _ w' := hSw
          have hc := HCS.out w'
          clear hSw
          go_simp
          try with_reducible rfl
        change wpAnyH _ _ _ _ _ _ _ (Act.put _ (some 80) _) _
        try simp only [Act.put, List.setIfInBounds_toArray, List.set_cons_zero, List.set_cons_succ]
        refine wpAnyH_take (i := 12) (v := ?vv55) (by rfl) (by kernel_rfl) (by kernel_rfl) (by kernel_rfl) (by intro _ _ _ h; exact h) (Or.inl ⟨by kernel_rfl, ?hy55⟩) (by assumption) ?rest55
        case hy55 =>
          intro w' hSw
          have hSw : Keeps _ w' := hSw
          clear hSw
          go_simp
          try with_reducible rfl
        change wpAnyH _ _ _ _ _ _ _ (Act.put _ (some 81) _) _
        try simp only [Act.put, List.setIfInBounds_toArray, List.set_cons_zero, List.set_cons_succ]
        refine wpAnyH_take (i := 13) (v := ?vv56) (by rfl) (by kernel_rfl) (by kernel_rfl) (by kernel_rfl) (by intro _ _ _ h; exact h) (Or.inl ⟨by kernel_rfl, ?hy56⟩) (by assumption) ?rest56
        case hy56 =>
          intro w' hSw
          have hSw : Keeps _ w' := hSw
          clear hSw
          go_simp
          try with_reducible rfl
        change wpAnyH _ _ _ _ _ _ _ (Act.put _ (some 82) _) _
        try simp only [Act.put, List.setIfInBounds_toArray, List.set_cons_zero, List.set_cons_succ]
        refine wpAnyH_done (by kernel_rfl) ?_ _
        refine NoPanic.normal ?_
        have HFN := Lib.hid (HE.out.trans (Keeps.refl wA).drew)
        have hcr := Frm.str_at' (HRr.out.keeps (Keeps.refl wA).drew)
        skip
        go_wp2_with fail
        go_ret
        exact ⟨by simp, HFN.out⟩
  · have hx : ce = 0 := hx
    have hy : cy = 11 := hy
    have hz : z = 11 := hz
    subst hx hy hz
    obtain ⟨m, hq⟩ := hrd n' f' k' t ks
    clear hrd HCASE
    cases drop
    · obtain ⟨L, hL⟩ : ∃ L : Str, L = a ++ b.take m := ⟨_, rfl⟩
      have HL := Lib.hid hL
      have HR := Lib.hid (show Calls Try.prog 25 #[.pointer (some ⟨g, 0, none⟩), .string (bstr [115])] w9 (ReadDid w9 (L, 0)) from by
        have hh := HR.out
        rw [show textD _ [115] = (a ++ b.take m, 0) from hq] at hh
        rw [hL]
        exact hh)
      unfold ReadDid at HR
      have hla : a.length ≤ L.length := by rw [hL]; simp
      have hle : L.length ≤ AB.length := by have := HABL.out; rw [hL]; simp <;> omega
      have hnt1 : decide (AB.length < L.length) = false := by simp; omega
      have hnt2 : decide ((AB.length : Int) < (L.length : Int)) = false := by simp; omega
      have HPR := Lib.hid (show AB.take L.length = L from (List.prefix_iff_eq_take.1 (show L <+: AB from by rw [hL, HAB.out]; exact (List.prefix_append_right_inj a).2 (List.take_prefix m b))).symm)
      have HCS := Lib.hid (fun w' => show (Instr.slice 9 (.string (bstr AB)) none (some (.int .i64 (L.length : Int))) none).run Try.prog w' = .ok (.string (bstr L)) w' from by
        have := run_cut_str AB L.length hle w'
        rwa [HPR.out] at this)
      clear hL
      go_wp2_with fail
      refine HR.out.mono ?_
      rintro e wA ⟨v, rfl, hr, hk⟩
      obtain ⟨pr, cr, rfl, -, -⟩ := hr.formB
      have HE := Lib.hid (H9.out.keep.trans hk)
      have HRr := Lib.hid hr
      have hca := Frm.str_at' (HR0.out.keeps HE.out)
      have hcb := Frm.str_at' (HR1.out.keeps HE.out)
      have hbe : (!(bstr L).toList == (bstr L).toList) = false := by simp
      clear hr hk HR H9
      go_upto_region 20 with fail
      clear hca hcb
      refine wp_region_noPanic ?_
      refine wp_region_held_drew (S := fun w' => Keeps (wA) w') (by kernel_rfl) ((Keeps.refl _).drew) (fun _ => ?_)
      have hHeld : Keeps (wA) (wA).drew := (Keeps.refl _).drew
      refine wpAnyH_take (i := 0) (v := ?vv57) (by rfl) (by kernel_rfl) (by kernel_rfl) (by kernel_rfl) (by intro _ _ _ h; exact h) (Or.inl ⟨by kernel_rfl, ?hy57⟩) (by assumption) ?rest57
      case hy57 =>
        intro w' hSw
        have hSw : Keeps _ w' := hSw
        clear hSw
        go_simp
        try with_reducible rfl
      change wpAnyH _ _ _ _ _ _ _ (Act.put _ (some 69) _) _
      try simp only [Act.put, List.setIfInBounds_toArray, List.set_cons_zero, List.set_cons_succ]
      refine wpAnyH_take (i := 1) (v := ?vv58) (by rfl) (by kernel_rfl) (by kernel_rfl) (by kernel_rfl) (by intro _ _ _ h; exact h) (Or.inl ⟨by kernel_rfl, ?hy58⟩) (by assumption) ?rest58
      case hy58 =>
        intro w' hSw
        have hSw : Keeps _ w' := hSw
        clear hSw
        go_simp
        try with_reducible rfl
      change wpAnyH _ _ _ _ _ _ _ (Act.put _ (some 70) _) _
      try simp only [Act.put, List.setIfInBounds_toArray, List.set_cons_zero, List.set_cons_succ]
      refine wpAnyH_take (i := 2) (v := ?vv59) (by rfl) (by kernel_rfl) (by kernel_rfl) (by kernel_rfl) (by intro _ _ _ h; exact h) (Or.inl ⟨by kernel_rfl, ?hy59⟩) (by assumption) ?rest59
      case hy59 =>
        intro w' hSw
        have hSw : Keeps _ w' := hSw
        clear hSw
        go_simp
        try with_reducible rfl
      change wpAnyH _ _ _ _ _ _ _ (Act.put _ (some 71) _) _
      try simp only [Act.put, List.setIfInBounds_toArray, List.set_cons_zero, List.set_cons_succ]
      refine wpAnyH_take (i := 3) (v := ?vv60) (by rfl) (by kernel_rfl) (by kernel_rfl) (by kernel_rfl) (by intro _ _ _ h; exact h) (Or.inl ⟨by kernel_rfl, ?hy60⟩) (by assumption) ?rest60
      case hy60 =>
        intro w' hSw
        have hSw : Keeps _ w' := hSw
        clear hSw
        go_simp
        try with_reducible rfl
      change wpAnyH _ _ _ _ _ _ _ (Act.put _ (some 72) _) _
      try simp only [Act.put, List.setIfInBounds_toArray, List.set_cons_zero, List.set_cons_succ]
      refine wpAnyH_take (i := 4) (v := ?vv61) (by rfl) (by kernel_rfl) (by kernel_rfl) (by kernel_rfl) (by intro _ _ _ h; exact h) (Or.inl ⟨by kernel_rfl, ?hy61⟩) (by assumption) ?rest61
      case hy61 =>
        intro w' hSw
        have hSw : Keeps _ w' := hSw
        clear hSw
        go_simp
        try with_reducible rfl
      change wpAnyH _ _ _ _ _ _ _ (Act.put _ (some 73) _) _
      try simp only [Act.put, List.setIfInBounds_toArray, List.set_cons_zero, List.set_cons_succ]
      refine wpAnyH_take (i := 5) (v := ?vv62) (by rfl) (by kernel_rfl) (by kernel_rfl) (by kernel_rfl) (by intro _ _ _ h; exact h) (Or.inl ⟨by kernel_rfl, ?hy62⟩) (by assumption) ?rest62
      case hy62 =>
        intro w' hSw
        have hSw : Keeps _ w' := hSw
        clear hSw
        go_simp
        try with_reducible rfl
      change wpAnyH _ _ _ _ _ _ _ (Act.put _ (some 74) _) _
      try simp only [Act.put, List.setIfInBounds_toArray, List.set_cons_zero, List.set_cons_succ]
      refine wpAnyH_take (i := 6) (v := ?vv63) (by rfl) (by kernel_rfl) (by kernel_rfl) (by kernel_rfl) (by intro _ _ _ h; exact h) (Or.inl ⟨by kernel_rfl, ?hy63⟩) (by assumption) ?rest63
      case hy63 =>
        intro w' hSw
        have hSw : Keeps _ w' := hSw
        clear hSw
        go_simp
        try with_reducible rfl
      change wpAnyH _ _ _ _ _ _ _ (Act.put _ (some 75) _) _
      try simp only [Act.put, List.setIfInBounds_toArray, List.set_cons_zero, List.set_cons_succ]
      refine wpAnyH_take (i := 7) (v := ?vv64) (by rfl) (by kernel_rfl) (by kernel_rfl) (by kernel_rfl) (by intro _ _ _ h; exact h) (Or.inl ⟨by kernel_rfl, ?hy64⟩) (by assumption) ?rest64
      case hy64 =>
        intro w' hSw
        have hSw : Keeps _ w' := hSw
        have hc := Frm.str_at' (HRr.out.keeps hSw)
        clear hSw
        go_simp
        try with_reducible rfl
      change wpAnyH _ _ _ _ _ _ _ (Act.put _ (some 76) _) _
      try simp only [Act.put, List.setIfInBounds_toArray, List.set_cons_zero, List.set_cons_succ]
      refine wpAnyH_take (i := 8) (v := ?vv65) (by rfl) (by kernel_rfl) (by kernel_rfl) (by kernel_rfl) (by intro _ _ _ h; exact h) (Or.inl ⟨by kernel_rfl, ?hy65⟩) (by assumption) ?rest65
      case hy65 =>
        intro w' hSw
        have hSw : Keeps _ w' := hSw
        clear hSw
        go_simp
        try with_reducible rfl
      change wpAnyH _ _ _ _ _ _ _ (Act.put _ (some 77) _) _
      try simp only [Act.put, List.setIfInBounds_toArray, List.set_cons_zero, List.set_cons_succ]
      refine wpAnyH_take (i := 9) (v := ?vv66) (by rfl) (by kernel_rfl) (by kernel_rfl) (by kernel_rfl) (by intro _ _ _ h; exact h) (Or.inl ⟨by kernel_rfl, ?hy66⟩) (by assumption) ?rest66
      case hy66 =>
        intro w' hSw
        have hSw : Keeps _ w' := hSw
        clear hSw
        go_simp
        try with_reducible rfl
      change wpAnyH _ _ _ _ _ _ _ (Act.put _ (some 78) _) _
      try simp only [Act.put, List.setIfInBounds_toArray, List.set_cons_zero, List.set_cons_succ]
      refine wpAnyH_take (i := 10) (v := ?vv67) (by rfl) (by kernel_rfl) (by kernel_rfl) (by kernel_rfl) (by intro _ _ _ h; exact h) (Or.inl ⟨by kernel_rfl, ?hy67⟩) (by assumption) ?rest67
      case hy67 =>
        intro w' hSw
        have hSw : Keeps _ w' := hSw
        clear hSw
        go_simp
        try with_reducible rfl
      change wpAnyH _ _ _ _ _ _ _ (Act.put _ (some 79) _) _
      try simp only [Act.put, List.setIfInBounds_toArray, List.set_cons_zero, List.set_cons_succ]
      refine wpAnyH_take (i := 11) (v := ?vv68) (by rfl) (by kernel_rfl) (by kernel_rfl) (by kernel_rfl) (by intro _ _ _ h; exact h) (Or.inl ⟨by kernel_rfl, ?hy68⟩) (by assumption) ?rest68
      case hy68 =>
        intro w' hSw
        have hSw : Keeps _ w' := hSw
        have hc := HCS.out w'
        clear hSw
        go_simp
        try with_reducible rfl
      change wpAnyH _ _ _ _ _ _ _ (Act.put _ (some 80) _) _
      try simp only [Act.put, List.setIfInBounds_toArray, List.set_cons_zero, List.set_cons_succ]
      refine wpAnyH_take (i := 12) (v := ?vv69) (by rfl) (by kernel_rfl) (by kernel_rfl) (by kernel_rfl) (by intro _ _ _ h; exact h) (Or.inl ⟨by kernel_rfl, ?hy69⟩) (by assumption) ?rest69
      case hy69 =>
        intro w' hSw
        have hSw : Keeps _ w' := hSw
        clear hSw
        go_simp
        try with_reducible rfl
      change wpAnyH _ _ _ _ _ _ _ (Act.put _ (some 81) _) _
      try simp only [Act.put, List.setIfInBounds_toArray, List.set_cons_zero, List.set_cons_succ]
      refine wpAnyH_take (i := 13) (v := ?vv70) (by rfl) (by kernel_rfl) (by kernel_rfl) (by kernel_rfl) (by intro _ _ _ h; exact h) (Or.inl ⟨by kernel_rfl, ?hy70⟩) (by assumption) ?rest70
      case hy70 =>
        intro w' hSw
        have hSw : Keeps _ w' := hSw
        clear hSw
        go_simp
        try with_reducible rfl
      change wpAnyH _ _ _ _ _ _ _ (Act.put _ (some 82) _) _
      try simp only [Act.put, List.setIfInBounds_toArray, List.set_cons_zero, List.set_cons_succ]
      refine wpAnyH_done (by kernel_rfl) ?_ _
      refine NoPanic.normal ?_
      have HFN := Lib.hid (HE.out.trans (Keeps.refl wA).drew)
      have hcr := Frm.str_at' (HRr.out.keeps (Keeps.refl wA).drew)
      skip
      go_wp2_with fail
      go_ret
      exact ⟨by simp, HFN.out⟩
    · obtain ⟨L, hL⟩ : ∃ L : Str, L = a ++ b.take m := ⟨_, rfl⟩
      have HL := Lib.hid hL
      have HR := Lib.hid (show Calls Try.prog 25 #[.pointer (some ⟨g, 0, none⟩), .string (bstr [115])] w9 (ReadDid w9 (L, 0)) from by
        have hh := HR.out
        rw [show textD _ [115] = (a ++ b.take m, 0) from hq] at hh
        rw [hL]
        exact hh)
      unfold ReadDid at HR
      have hla : a.length ≤ L.length := by rw [hL]; simp
      have hle : L.length ≤ AB.length := by have := HABL.out; rw [hL]; simp <;> omega
      have hnt1 : decide (AB.length < L.length) = false := by simp; omega
      have hnt2 : decide ((AB.length : Int) < (L.length : Int)) = false := by simp; omega
      have HPR := Lib.hid (show AB.take L.length = L from (List.prefix_iff_eq_take.1 (show L <+: AB from by rw [hL, HAB.out]; exact (List.prefix_append_right_inj a).2 (List.take_prefix m b))).symm)
      have HCS := Lib.hid (fun w' => show (Instr.slice 9 (.string (bstr AB)) none (some (.int .i64 (L.length : Int))) none).run Try.prog w' = .ok (.string (bstr L)) w' from by
        have := run_cut_str AB L.length hle w'
        rwa [HPR.out] at this)
      clear hL
      go_wp2_with fail
      refine HR.out.mono ?_
      rintro e wA ⟨v, rfl, hr, hk⟩
      obtain ⟨pr, cr, rfl, -, -⟩ := hr.formB
      have HE := Lib.hid (H9.out.keep.trans hk)
      have HRr := Lib.hid hr
      have hca := Frm.str_at' (HR0.out.keeps HE.out)
      have hcb := Frm.str_at' (HR1.out.keeps HE.out)
      have hbe : (!(bstr L).toList == (bstr L).toList) = false := by simp
      clear hr hk HR H9
      go_upto_region 20 with fail
      clear hca hcb
      refine wp_region_noPanic ?_
      refine wp_region_held_drew (S := fun w' => Keeps (wA) w') (by kernel_rfl) ((Keeps.refl _).drew) (fun _ => ?_)
      have hHeld : Keeps (wA) (wA).drew := (Keeps.refl _).drew
      refine wpAnyH_take (i := 0) (v := ?vv71) (by rfl) (by kernel_rfl) (by kernel_rfl) (by kernel_rfl) (by intro _ _ _ h; exact h) (Or.inl ⟨by kernel_rfl, ?hy71⟩) (by assumption) ?rest71
      case hy71 =>
        intro w' hSw
        have hSw : Keeps _ w' := hSw
        clear hSw
        go_simp
        try with_reducible rfl
      change wpAnyH _ _ _ _ _ _ _ (Act.put _ (some 69) _) _
      try simp only [Act.put, List.setIfInBounds_toArray, List.set_cons_zero, List.set_cons_succ]
      refine wpAnyH_take (i := 1) (v := ?vv72) (by rfl) (by kernel_rfl) (by kernel_rfl) (by kernel_rfl) (by intro _ _ _ h; exact h) (Or.inl ⟨by kernel_rfl, ?hy72⟩) (by assumption) ?rest72
      case hy72 =>
        intro w' hSw
        have hSw : Keeps _ w' := hSw
        clear hSw
        go_simp
        try with_reducible rfl
      change wpAnyH _ _ _ _ _ _ _ (Act.put _ (some 70) _) _
      try simp only [Act.put, List.setIfInBounds_toArray, List.set_cons_zero, List.set_cons_succ]
      refine wpAnyH_take (i := 2) (v := ?vv73) (by rfl) (by kernel_rfl) (by kernel_rfl) (by kernel_rfl) (by intro _ _ _ h; exact h) (Or.inl ⟨by kernel_rfl, ?hy73⟩) (by assumption) ?rest73
      case hy73 =>
        intro w' hSw
        have hSw : Keeps _ w' := hSw
        clear hSw
        go_simp
        try with_reducible rfl
      change wpAnyH _ _ _ _ _ _ _ (Act.put _ (some 71) _) _
      try simp only [Act.put, List.setIfInBounds_toArray, List.set_cons_zero, List.set_cons_succ]
      refine wpAnyH_take (i := 3) (v := ?vv74) (by rfl) (by kernel_rfl) (by kernel_rfl) (by kernel_rfl) (by intro _ _ _ h; exact h) (Or.inl ⟨by kernel_rfl, ?hy74⟩) (by assumption) ?rest74
      case hy74 =>
        intro w' hSw
        have hSw : Keeps _ w' := hSw
        clear hSw
        go_simp
        try with_reducible rfl
      change wpAnyH _ _ _ _ _ _ _ (Act.put _ (some 72) _) _
      try simp only [Act.put, List.setIfInBounds_toArray, List.set_cons_zero, List.set_cons_succ]
      refine wpAnyH_take (i := 4) (v := ?vv75) (by rfl) (by kernel_rfl) (by kernel_rfl) (by kernel_rfl) (by intro _ _ _ h; exact h) (Or.inl ⟨by kernel_rfl, ?hy75⟩) (by assumption) ?rest75
      case hy75 =>
        intro w' hSw
        have hSw : Keeps _ w' := hSw
        clear hSw
        go_simp
        try with_reducible rfl
      change wpAnyH _ _ _ _ _ _ _ (Act.put _ (some 73) _) _
      try simp only [Act.put, List.setIfInBounds_toArray, List.set_cons_zero, List.set_cons_succ]
      refine wpAnyH_take (i := 5) (v := ?vv76) (by rfl) (by kernel_rfl) (by kernel_rfl) (by kernel_rfl) (by intro _ _ _ h; exact h) (Or.inl ⟨by kernel_rfl, ?hy76⟩) (by assumption) ?rest76
      case hy76 =>
        intro w' hSw
        have hSw : Keeps _ w' := hSw
        clear hSw
        go_simp
        try with_reducible rfl
      change wpAnyH _ _ _ _ _ _ _ (Act.put _ (some 74) _) _
      try simp only [Act.put, List.setIfInBounds_toArray, List.set_cons_zero, List.set_cons_succ]
      refine wpAnyH_take (i := 6) (v := ?vv77) (by rfl) (by kernel_rfl) (by kernel_rfl) (by kernel_rfl) (by intro _ _ _ h; exact h) (Or.inl ⟨by kernel_rfl, ?hy77⟩) (by assumption) ?rest77
      case hy77 =>
        intro w' hSw
        have hSw : Keeps _ w' := hSw
        clear hSw
        go_simp
        try with_reducible rfl
      change wpAnyH _ _ _ _ _ _ _ (Act.put _ (some 75) _) _
      try simp only [Act.put, List.setIfInBounds_toArray, List.set_cons_zero, List.set_cons_succ]
      refine wpAnyH_take (i := 7) (v := ?vv78) (by rfl) (by kernel_rfl) (by kernel_rfl) (by kernel_rfl) (by intro _ _ _ h; exact h) (Or.inl ⟨by kernel_rfl, ?hy78⟩) (by assumption) ?rest78
      case hy78 =>
        intro w' hSw
        have hSw : Keeps _ w' := hSw
        have hc := Frm.str_at' (HRr.out.keeps hSw)
        clear hSw
        go_simp
        try with_reducible rfl
      change wpAnyH _ _ _ _ _ _ _ (Act.put _ (some 76) _) _
      try simp only [Act.put, List.setIfInBounds_toArray, List.set_cons_zero, List.set_cons_succ]
      refine wpAnyH_take (i := 8) (v := ?vv79) (by rfl) (by kernel_rfl) (by kernel_rfl) (by kernel_rfl) (by intro _ _ _ h; exact h) (Or.inl ⟨by kernel_rfl, ?hy79⟩) (by assumption) ?rest79
      case hy79 =>
        intro w' hSw
        have hSw : Keeps _ w' := hSw
        clear hSw
        go_simp
        try with_reducible rfl
      change wpAnyH _ _ _ _ _ _ _ (Act.put _ (some 77) _) _
      try simp only [Act.put, List.setIfInBounds_toArray, List.set_cons_zero, List.set_cons_succ]
      refine wpAnyH_take (i := 9) (v := ?vv80) (by rfl) (by kernel_rfl) (by kernel_rfl) (by kernel_rfl) (by intro _ _ _ h; exact h) (Or.inl ⟨by kernel_rfl, ?hy80⟩) (by assumption) ?rest80
      case hy80 =>
        intro w' hSw
        have hSw : Keeps _ w' := hSw
        clear hSw
        go_simp
        try with_reducible rfl
      change wpAnyH _ _ _ _ _ _ _ (Act.put _ (some 78) _) _
      try simp only [Act.put, List.setIfInBounds_toArray, List.set_cons_zero, List.set_cons_succ]
      refine wpAnyH_take (i := 10) (v := ?vv81) (by rfl) (by kernel_rfl) (by kernel_rfl) (by kernel_rfl) (by intro _ _ _ h; exact h) (Or.inl ⟨by kernel_rfl, ?hy81⟩) (by assumption) ?rest81
      case hy81 =>
        intro w' hSw
        have hSw : Keeps _ w' := hSw
        clear hSw
        go_simp
        try with_reducible rfl
      change wpAnyH _ _ _ _ _ _ _ (Act.put _ (some 79) _) _
      try simp only [Act.put, List.setIfInBounds_toArray, List.set_cons_zero, List.set_cons_succ]
      refine wpAnyH_take (i := 11) (v := ?vv82) (by rfl) (by kernel_rfl) (by kernel_rfl) (by kernel_rfl) (by intro _ _ _ h; exact h) (Or.inl ⟨by kernel_rfl, ?hy82⟩) (by assumption) ?rest82
      case hy82 =>
        intro w' hSw
        have hSw : Keeps _ w' := hSw
        have hc := HCS.out w'
        clear hSw
        go_simp
        try with_reducible rfl
      change wpAnyH _ _ _ _ _ _ _ (Act.put _ (some 80) _) _
      try simp only [Act.put, List.setIfInBounds_toArray, List.set_cons_zero, List.set_cons_succ]
      refine wpAnyH_take (i := 12) (v := ?vv83) (by rfl) (by kernel_rfl) (by kernel_rfl) (by kernel_rfl) (by intro _ _ _ h; exact h) (Or.inl ⟨by kernel_rfl, ?hy83⟩) (by assumption) ?rest83
      case hy83 =>
        intro w' hSw
        have hSw : Keeps _ w' := hSw
        clear hSw
        go_simp
        try with_reducible rfl
      change wpAnyH _ _ _ _ _ _ _ (Act.put _ (some 81) _) _
      try simp only [Act.put, List.setIfInBounds_toArray, List.set_cons_zero, List.set_cons_succ]
      refine wpAnyH_take (i := 13) (v := ?vv84) (by rfl) (by kernel_rfl) (by kernel_rfl) (by kernel_rfl) (by intro _ _ _ h; exact h) (Or.inl ⟨by kernel_rfl, ?hy84⟩) (by assumption) ?rest84
      case hy84 =>
        intro w' hSw
        have hSw : Keeps _ w' := hSw
        clear hSw
        go_simp
        try with_reducible rfl
      change wpAnyH _ _ _ _ _ _ _ (Act.put _ (some 82) _) _
      try simp only [Act.put, List.setIfInBounds_toArray, List.set_cons_zero, List.set_cons_succ]
      refine wpAnyH_done (by kernel_rfl) ?_ _
      refine NoPanic.normal ?_
      have HFN := Lib.hid (HE.out.trans (Keeps.refl wA).drew)
      have hcr := Frm.str_at' (HRr.out.keeps (Keeps.refl wA).drew)
      skip
      go_wp2_with fail
      go_ret
      exact ⟨by simp, HFN.out⟩
  · have hx : ce = 0 := hx
    have hy : cy = 0 := hy
    have hz : z = 11 := hz
    subst hx hy hz hdr
    have hq := hrd n' f' k' t ks
    clear hrd HCASE
    obtain ⟨L, hL⟩ : ∃ L : Str, L = a ++ b := ⟨_, rfl⟩
    have HL := Lib.hid hL
    have HR := Lib.hid (show Calls Try.prog 25 #[.pointer (some ⟨g, 0, none⟩), .string (bstr [115])] w9 (ReadDid w9 (L, 0)) from by
      have hh := HR.out
      rw [show textD _ [115] = (a ++ b, 0) from hq] at hh
      rw [hL]
      exact hh)
    unfold ReadDid at HR
    
    have hle : L.length ≤ AB.length := by have := HABL.out; rw [hL]; simp <;> omega
    have hnt1 : decide (AB.length < L.length) = false := by simp; omega
    have hnt2 : decide ((AB.length : Int) < (L.length : Int)) = false := by simp; omega
    have HPR := Lib.hid (show AB.take L.length = L from (List.prefix_iff_eq_take.1 (show L <+: AB from by rw [hL, HAB.out]; exact List.prefix_refl _)).symm)
    have HCS := Lib.hid (fun w' => show (Instr.slice 9 (.string (bstr AB)) none (some (.int .i64 (L.length : Int))) none).run Try.prog w' = .ok (.string (bstr L)) w' from by
      have := run_cut_str AB L.length hle w'
      rwa [HPR.out] at this)
    clear hL
    go_wp2_with fail
    refine HR.out.mono ?_
    rintro e wA ⟨v, rfl, hr, hk⟩
    obtain ⟨pr, cr, rfl, -, -⟩ := hr.formB
    have HE := Lib.hid (H9.out.keep.trans hk)
    have HRr := Lib.hid hr
    have hca := Frm.str_at' (HR0.out.keeps HE.out)
    have hcb := Frm.str_at' (HR1.out.keeps HE.out)
    have hbe : (!(bstr L).toList == (bstr L).toList) = false := by simp
    clear hr hk HR H9
    go_upto_region 20 with fail
    clear hca hcb
    refine wp_region_noPanic ?_
    refine wp_region_held_drew (S := fun w' => Keeps (wA) w') (by kernel_rfl) ((Keeps.refl _).drew) (fun _ => ?_)
    have hHeld : Keeps (wA) (wA).drew := (Keeps.refl _).drew
    refine wpAnyH_take (i := 0) (v := ?vv85) (by rfl) (by kernel_rfl) (by kernel_rfl) (by kernel_rfl) (by intro _ _ _ h; exact h) (Or.inl ⟨by kernel_rfl, ?hy85⟩) (by assumption) ?rest85
    case hy85 =>
      intro w' hSw
      have hSw : Keeps _ w' := hSw
      clear hSw
      go_simp
      try with_reducible rfl
    change wpAnyH _ _ _ _ _ _ _ (Act.put _ (some 69) _) _
    try simp only [Act.put, List.setIfInBounds_toArray, List.set_cons_zero, List.set_cons_succ]
    refine wpAnyH_take (i := 1) (v := ?vv86) (by rfl) (by kernel_rfl) (by kernel_rfl) (by kernel_rfl) (by intro _ _ _ h; exact h) (Or.inl ⟨by kernel_rfl, ?hy86⟩) (by assumption) ?rest86
    case hy86 =>
      intro w' hSw
      have hSw : Keeps _ w' := hSw
      clear hSw
      go_simp
      try with_reducible rfl
    change wpAnyH _ _ _ _ _ _ _ (Act.put _ (some 70) _) _
    try simp only [Act.put, List.setIfInBounds_toArray, List.set_cons_zero, List.set_cons_succ]
    refine wpAnyH_take (i := 2) (v := ?vv87) (by rfl) (by kernel_rfl) (by kernel_rfl) (by kernel_rfl) (by intro _ _ _ h; exact h) (Or.inl ⟨by kernel_rfl, ?hy87⟩) (by assumption) ?rest87
    case hy87 =>
      intro w' hSw
      have hSw : Keeps _ w' := hSw
      clear hSw
      go_simp
      try with_reducible rfl
    change wpAnyH _ _ _ _ _ _ _ (Act.put _ (some 71) _) _
    try simp only [Act.put, List.setIfInBounds_toArray, List.set_cons_zero, List.set_cons_succ]
    refine wpAnyH_take (i := 3) (v := ?vv88) (by rfl) (by kernel_rfl) (by kernel_rfl) (by kernel_rfl) (by intro _ _ _ h; exact h) (Or.inl ⟨by kernel_rfl, ?hy88⟩) (by assumption) ?rest88
    case hy88 =>
      intro w' hSw
      have hSw : Keeps _ w' := hSw
      clear hSw
      go_simp
      try with_reducible rfl
    change wpAnyH _ _ _ _ _ _ _ (Act.put _ (some 72) _) _
    try simp only [Act.put, List.setIfInBounds_toArray, List.set_cons_zero, List.set_cons_succ]
    refine wpAnyH_take (i := 4) (v := ?vv89) (by rfl) (by kernel_rfl) (by kernel_rfl) (by kernel_rfl) (by intro _ _ _ h; exact h) (Or.inl ⟨by kernel_rfl, ?hy89⟩) (by assumption) ?rest89
    case hy89 =>
      intro w' hSw
      have hSw : Keeps _ w' := hSw
      clear hSw
      go_simp
      try with_reducible rfl
    change wpAnyH _ _ _ _ _ _ _ (Act.put _ (some 73) _) _
    try simp only [Act.put, List.setIfInBounds_toArray, List.set_cons_zero, List.set_cons_succ]
    refine wpAnyH_take (i := 5) (v := ?vv90) (by rfl) (by kernel_rfl) (by kernel_rfl) (by kernel_rfl) (by intro _ _ _ h; exact h) (Or.inl ⟨by kernel_rfl, ?hy90⟩) (by assumption) ?rest90
    case hy90 =>
      intro w' hSw
      have hSw : Keeps _ w' := hSw
      clear hSw
      go_simp
      try with_reducible rfl
    change wpAnyH _ _ _ _ _ _ _ (Act.put _ (some 74) _) _
    try simp only [Act.put, List.setIfInBounds_toArray, List.set_cons_zero, List.set_cons_succ]
    refine wpAnyH_take (i := 6) (v := ?vv91) (by rfl) (by kernel_rfl) (by kernel_rfl) (by kernel_rfl) (by intro _ _ _ h; exact h) (Or.inl ⟨by kernel_rfl, ?hy91⟩) (by assumption) ?rest91
    case hy91 =>
      intro w' hSw
      have hSw : Keeps _ w' := hSw
      clear hSw
      go_simp
      try with_reducible rfl
    change wpAnyH _ _ _ _ _ _ _ (Act.put _ (some 75) _) _
    try simp only [Act.put, List.setIfInBounds_toArray, List.set_cons_zero, List.set_cons_succ]
    refine wpAnyH_take (i := 7) (v := ?vv92) (by rfl) (by kernel_rfl) (by kernel_rfl) (by kernel_rfl) (by intro _ _ _ h; exact h) (Or.inl ⟨by kernel_rfl, ?hy92⟩) (by assumption) ?rest92
    case hy92 =>
      intro w' hSw
      have hSw : Keeps _ w' := hSw
      have hc := Frm.str_at' (HRr.out.keeps hSw)
      clear hSw
      go_simp
      try with_reducible rfl
    change wpAnyH _ _ _ _ _ _ _ (Act.put _ (some 76) _) _
    try simp only [Act.put, List.setIfInBounds_toArray, List.set_cons_zero, List.set_cons_succ]
    refine wpAnyH_take (i := 8) (v := ?vv93) (by rfl) (by kernel_rfl) (by kernel_rfl) (by kernel_rfl) (by intro _ _ _ h; exact h) (Or.inl ⟨by kernel_rfl, ?hy93⟩) (by assumption) ?rest93
    case hy93 =>
      intro w' hSw
      have hSw : Keeps _ w' := hSw
      clear hSw
      go_simp
      try with_reducible rfl
    change wpAnyH _ _ _ _ _ _ _ (Act.put _ (some 77) _) _
    try simp only [Act.put, List.setIfInBounds_toArray, List.set_cons_zero, List.set_cons_succ]
    refine wpAnyH_take (i := 9) (v := ?vv94) (by rfl) (by kernel_rfl) (by kernel_rfl) (by kernel_rfl) (by intro _ _ _ h; exact h) (Or.inl ⟨by kernel_rfl, ?hy94⟩) (by assumption) ?rest94
    case hy94 =>
      intro w' hSw
      have hSw : Keeps _ w' := hSw
      clear hSw
      go_simp
      try with_reducible rfl
    change wpAnyH _ _ _ _ _ _ _ (Act.put _ (some 78) _) _
    try simp only [Act.put, List.setIfInBounds_toArray, List.set_cons_zero, List.set_cons_succ]
    refine wpAnyH_take (i := 10) (v := ?vv95) (by rfl) (by kernel_rfl) (by kernel_rfl) (by kernel_rfl) (by intro _ _ _ h; exact h) (Or.inl ⟨by kernel_rfl, ?hy95⟩) (by assumption) ?rest95
    case hy95 =>
      intro w' hSw
      have hSw : Keeps _ w' := hSw
      clear hSw
      go_simp
      try with_reducible rfl
    change wpAnyH _ _ _ _ _ _ _ (Act.put _ (some 79) _) _
    try simp only [Act.put, List.setIfInBounds_toArray, List.set_cons_zero, List.set_cons_succ]
    refine wpAnyH_take (i := 11) (v := ?vv96) (by rfl) (by kernel_rfl) (by kernel_rfl) (by kernel_rfl) (by intro _ _ _ h; exact h) (Or.inl ⟨by kernel_rfl, ?hy96⟩) (by assumption) ?rest96
    case hy96 =>
      intro w' hSw
      have hSw : Keeps _ w' := hSw
      have hc := HCS.out w'
      clear hSw
      go_simp
      try with_reducible rfl
    change wpAnyH _ _ _ _ _ _ _ (Act.put _ (some 80) _) _
    try simp only [Act.put, List.setIfInBounds_toArray, List.set_cons_zero, List.set_cons_succ]
    refine wpAnyH_take (i := 12) (v := ?vv97) (by rfl) (by kernel_rfl) (by kernel_rfl) (by kernel_rfl) (by intro _ _ _ h; exact h) (Or.inl ⟨by kernel_rfl, ?hy97⟩) (by assumption) ?rest97
    case hy97 =>
      intro w' hSw
      have hSw : Keeps _ w' := hSw
      clear hSw
      go_simp
      try with_reducible rfl
    change wpAnyH _ _ _ _ _ _ _ (Act.put _ (some 81) _) _
    try simp only [Act.put, List.setIfInBounds_toArray, List.set_cons_zero, List.set_cons_succ]
    refine wpAnyH_take (i := 13) (v := ?vv98) (by rfl) (by kernel_rfl) (by kernel_rfl) (by kernel_rfl) (by intro _ _ _ h; exact h) (Or.inl ⟨by kernel_rfl, ?hy98⟩) (by assumption) ?rest98
    case hy98 =>
      intro w' hSw
      have hSw : Keeps _ w' := hSw
      clear hSw
      go_simp
      try with_reducible rfl
    change wpAnyH _ _ _ _ _ _ _ (Act.put _ (some 82) _) _
    try simp only [Act.put, List.setIfInBounds_toArray, List.set_cons_zero, List.set_cons_succ]
    refine wpAnyH_done (by kernel_rfl) ?_ _
    refine NoPanic.normal ?_
    have HFN := Lib.hid (HE.out.trans (Keeps.refl wA).drew)
    have hcr := Frm.str_at' (HRr.out.keeps (Keeps.refl wA).drew)
    have HLE := Lib.hid (show L = AB from by rw [HL.out, HAB.out])
    have hbe2 : ((bstr L).toList == (bstr AB).toList) = true := by rw [HLE.out]; simp
    go_wp2_with fail
    go_ret
    exact ⟨by simp, HFN.out⟩
  · have hx : ce = 0 := hx
    have hy : cy = 0 := hy
    have hz : z = 11 := hz
    subst hx hy hz hdr
    have HRD := Lib.hid (hrd n' f' k' t ks)
    clear hrd HCASE
    rcases HRD.out with hq | hq
    · obtain ⟨L, hL⟩ : ∃ L : Str, L = a ++ b := ⟨_, rfl⟩
      have HL := Lib.hid hL
      have HR := Lib.hid (show Calls Try.prog 25 #[.pointer (some ⟨g, 0, none⟩), .string (bstr [115])] w9 (ReadDid w9 (L, 0)) from by
        have hh := HR.out
        rw [show textD _ [115] = (a ++ b, 0) from hq] at hh
        rw [hL]
        exact hh)
      unfold ReadDid at HR
      
      have hle : L.length ≤ AB.length := by have := HABL.out; rw [hL]; simp <;> omega
      have hnt1 : decide (AB.length < L.length) = false := by simp; omega
      have hnt2 : decide ((AB.length : Int) < (L.length : Int)) = false := by simp; omega
      have HPR := Lib.hid (show AB.take L.length = L from (List.prefix_iff_eq_take.1 (show L <+: AB from by rw [hL, HAB.out]; exact List.prefix_refl _)).symm)
      have HCS := Lib.hid (fun w' => show (Instr.slice 9 (.string (bstr AB)) none (some (.int .i64 (L.length : Int))) none).run Try.prog w' = .ok (.string (bstr L)) w' from by
        have := run_cut_str AB L.length hle w'
        rwa [HPR.out] at this)
      clear hL
      go_wp2_with fail
      refine HR.out.mono ?_
      rintro e wA ⟨v, rfl, hr, hk⟩
      obtain ⟨pr, cr, rfl, -, -⟩ := hr.formB
      have HE := Lib.hid (H9.out.keep.trans hk)
      have HRr := Lib.hid hr
      have hca := Frm.str_at' (HR0.out.keeps HE.out)
      have hcb := Frm.str_at' (HR1.out.keeps HE.out)
      have hbe : (!(bstr L).toList == (bstr L).toList) = false := by simp
      clear hr hk HR H9
      go_upto_region 20 with fail
      clear hca hcb
      refine wp_region_noPanic ?_
      refine wp_region_held_drew (S := fun w' => Keeps (wA) w') (by kernel_rfl) ((Keeps.refl _).drew) (fun _ => ?_)
      have hHeld : Keeps (wA) (wA).drew := (Keeps.refl _).drew
      refine wpAnyH_take (i := 0) (v := ?vv99) (by rfl) (by kernel_rfl) (by kernel_rfl) (by kernel_rfl) (by intro _ _ _ h; exact h) (Or.inl ⟨by kernel_rfl, ?hy99⟩) (by assumption) ?rest99
      case hy99 =>
        intro w' hSw
        have hSw : Keeps _ w' := hSw
        clear hSw
        go_simp
        try with_reducible rfl
      change wpAnyH _ _ _ _ _ _ _ (Act.put _ (some 69) _) _
      try simp only [Act.put, List.setIfInBounds_toArray, List.set_cons_zero, List.set_cons_succ]
      refine wpAnyH_take (i := 1) (v := ?vv100) (by rfl) (by kernel_rfl) (by kernel_rfl) (by kernel_rfl) (by intro _ _ _ h; exact h) (Or.inl ⟨by kernel_rfl, ?hy100⟩) (by assumption) ?rest100
      case hy100 =>
        intro w' hSw
        have hSw : Keeps _ w' := hSw
        clear hSw
        go_simp
        try with_reducible rfl
      change wpAnyH _ _ _ _ _ _ _ (Act.put _ (some 70) _) _
      try simp only [Act.put, List.setIfInBounds_toArray, List.set_cons_zero, List.set_cons_succ]
      refine wpAnyH_take (i := 2) (v := ?vv101) (by rfl) (by kernel_rfl) (by kernel_rfl) (by kernel_rfl) (by intro _ _ _ h; exact h) (Or.inl ⟨by kernel_rfl, ?hy101⟩) (by assumption) ?rest101
      case hy101 =>
        intro w' hSw
        have hSw : Keeps _ w' := hSw
        clear hSw
        go_simp
        try with_reducible rfl
      change wpAnyH _ _ _ _ _ _ _ (Act.put _ (some 71) _) _
      try simp only [Act.put, List.setIfInBounds_toArray, List.set_cons_zero, List.set_cons_succ]
      refine wpAnyH_take (i := 3) (v := ?vv102) (by rfl) (by kernel_rfl) (by kernel_rfl) (by kernel_rfl) (by intro _ _ _ h; exact h) (Or.inl ⟨by kernel_rfl, ?hy102⟩) (by assumption) ?rest102
      case hy102 =>
        intro w' hSw
        have hSw : Keeps _ w' := hSw
        clear hSw
        go_simp
        try with_reducible rfl
      change wpAnyH _ _ _ _ _ _ _ (Act.put _ (some 72) _) _
      try simp only [Act.put, List.setIfInBounds_toArray, List.set_cons_zero, List.set_cons_succ]
      refine wpAnyH_take (i := 4) (v := ?vv103) (by rfl) (by kernel_rfl) (by kernel_rfl) (by kernel_rfl) (by intro _ _ _ h; exact h) (Or.inl ⟨by kernel_rfl, ?hy103⟩) (by assumption) ?rest103
      case hy103 =>
        intro w' hSw
        have hSw : Keeps _ w' := hSw
        clear hSw
        go_simp
        try with_reducible rfl
      change wpAnyH _ _ _ _ _ _ _ (Act.put _ (some 73) _) _
      try simp only [Act.put, List.setIfInBounds_toArray, List.set_cons_zero, List.set_cons_succ]
      refine wpAnyH_take (i := 5) (v := ?vv104) (by rfl) (by kernel_rfl) (by kernel_rfl) (by kernel_rfl) (by intro _ _ _ h; exact h) (Or.inl ⟨by kernel_rfl, ?hy104⟩) (by assumption) ?rest104
      case hy104 =>
        intro w' hSw
        have hSw : Keeps _ w' := hSw
        clear hSw
        go_simp
        try with_reducible rfl
      change wpAnyH _ _ _ _ _ _ _ (Act.put _ (some 74) _) _
      try simp only [Act.put, List.setIfInBounds_toArray, List.set_cons_zero, List.set_cons_succ]
      refine wpAnyH_take (i := 6) (v := ?vv105) (by rfl) (by kernel_rfl) (by kernel_rfl) (by kernel_rfl) (by intro _ _ _ h; exact h) (Or.inl ⟨by kernel_rfl, ?hy105⟩) (by assumption) ?rest105
      case hy105 =>
        intro w' hSw
        have hSw : Keeps _ w' := hSw
        clear hSw
        go_simp
        try with_reducible rfl
      change wpAnyH _ _ _ _ _ _ _ (Act.put _ (some 75) _) _
      try simp only [Act.put, List.setIfInBounds_toArray, List.set_cons_zero, List.set_cons_succ]
      refine wpAnyH_take (i := 7) (v := ?vv106) (by rfl) (by kernel_rfl) (by kernel_rfl) (by kernel_rfl) (by intro _ _ _ h; exact h) (Or.inl ⟨by kernel_rfl, ?hy106⟩) (by assumption) ?rest106
      case hy106 =>
        intro w' hSw
        have hSw : Keeps _ w' := hSw
        have hc := Frm.str_at' (HRr.out.keeps hSw)
        clear hSw
        go_simp
        try with_reducible rfl
      change wpAnyH _ _ _ _ _ _ _ (Act.put _ (some 76) _) _
      try simp only [Act.put, List.setIfInBounds_toArray, List.set_cons_zero, List.set_cons_succ]
      refine wpAnyH_take (i := 8) (v := ?vv107) (by rfl) (by kernel_rfl) (by kernel_rfl) (by kernel_rfl) (by intro _ _ _ h; exact h) (Or.inl ⟨by kernel_rfl, ?hy107⟩) (by assumption) ?rest107
      case hy107 =>
        intro w' hSw
        have hSw : Keeps _ w' := hSw
        clear hSw
        go_simp
        try with_reducible rfl
      change wpAnyH _ _ _ _ _ _ _ (Act.put _ (some 77) _) _
      try simp only [Act.put, List.setIfInBounds_toArray, List.set_cons_zero, List.set_cons_succ]
      refine wpAnyH_take (i := 9) (v := ?vv108) (by rfl) (by kernel_rfl) (by kernel_rfl) (by kernel_rfl) (by intro _ _ _ h; exact h) (Or.inl ⟨by kernel_rfl, ?hy108⟩) (by assumption) ?rest108
      case hy108 =>
        intro w' hSw
        have hSw : Keeps _ w' := hSw
        clear hSw
        go_simp
        try with_reducible rfl
      change wpAnyH _ _ _ _ _ _ _ (Act.put _ (some 78) _) _
      try simp only [Act.put, List.setIfInBounds_toArray, List.set_cons_zero, List.set_cons_succ]
      refine wpAnyH_take (i := 10) (v := ?vv109) (by rfl) (by kernel_rfl) (by kernel_rfl) (by kernel_rfl) (by intro _ _ _ h; exact h) (Or.inl ⟨by kernel_rfl, ?hy109⟩) (by assumption) ?rest109
      case hy109 =>
        intro w' hSw
        have hSw : Keeps _ w' := hSw
        clear hSw
        go_simp
        try with_reducible rfl
      change wpAnyH _ _ _ _ _ _ _ (Act.put _ (some 79) _) _
      try simp only [Act.put, List.setIfInBounds_toArray, List.set_cons_zero, List.set_cons_succ]
      refine wpAnyH_take (i := 11) (v := ?vv110) (by rfl) (by kernel_rfl) (by kernel_rfl) (by kernel_rfl) (by intro _ _ _ h; exact h) (Or.inl ⟨by kernel_rfl, ?hy110⟩) (by assumption) ?rest110
      case hy110 =>
        intro w' hSw
        have hSw : Keeps _ w' := hSw
        have hc := HCS.out w'
        clear hSw
        go_simp
        try with_reducible rfl
      change wpAnyH _ _ _ _ _ _ _ (Act.put _ (some 80) _) _
      try simp only [Act.put, List.setIfInBounds_toArray, List.set_cons_zero, List.set_cons_succ]
      refine wpAnyH_take (i := 12) (v := ?vv111) (by rfl) (by kernel_rfl) (by kernel_rfl) (by kernel_rfl) (by intro _ _ _ h; exact h) (Or.inl ⟨by kernel_rfl, ?hy111⟩) (by assumption) ?rest111
      case hy111 =>
        intro w' hSw
        have hSw : Keeps _ w' := hSw
        clear hSw
        go_simp
        try with_reducible rfl
      change wpAnyH _ _ _ _ _ _ _ (Act.put _ (some 81) _) _
      try simp only [Act.put, List.setIfInBounds_toArray, List.set_cons_zero, List.set_cons_succ]
      refine wpAnyH_take (i := 13) (v := ?vv112) (by rfl) (by kernel_rfl) (by kernel_rfl) (by kernel_rfl) (by intro _ _ _ h; exact h) (Or.inl ⟨by kernel_rfl, ?hy112⟩) (by assumption) ?rest112
      case hy112 =>
        intro w' hSw
        have hSw : Keeps _ w' := hSw
        clear hSw
        go_simp
        try with_reducible rfl
      change wpAnyH _ _ _ _ _ _ _ (Act.put _ (some 82) _) _
      try simp only [Act.put, List.setIfInBounds_toArray, List.set_cons_zero, List.set_cons_succ]
      refine wpAnyH_done (by kernel_rfl) ?_ _
      refine NoPanic.normal ?_
      have HFN := Lib.hid (HE.out.trans (Keeps.refl wA).drew)
      have hcr := Frm.str_at' (HRr.out.keeps (Keeps.refl wA).drew)
      have HLE := Lib.hid (show L = AB from by rw [HL.out, HAB.out])
      have hbe2 : ((bstr L).toList == (bstr AB).toList) = true := by rw [HLE.out]; simp
      go_wp2_with fail
      go_ret
      exact ⟨by simp, HFN.out⟩
    · obtain ⟨L, hL⟩ : ∃ L : Str, L = [] := ⟨_, rfl⟩
      have HL := Lib.hid hL
      have HR := Lib.hid (show Calls Try.prog 25 #[.pointer (some ⟨g, 0, none⟩), .string (bstr [115])] w9 (ReadDid w9 (L, 7)) from by
        have hh := HR.out
        rw [show textD _ [115] = ([], 7) from hq] at hh
        rw [hL]
        exact hh)
      unfold ReadDid at HR
      
      have hle : L.length ≤ AB.length := by have := HABL.out; rw [hL]; simp <;> omega
      have hnt1 : decide (AB.length < L.length) = false := by simp; omega
      have hnt2 : decide ((AB.length : Int) < (L.length : Int)) = false := by simp; omega
      have HPR := Lib.hid (show AB.take L.length = L from (List.prefix_iff_eq_take.1 (show L <+: AB from by rw [hL, HAB.out]; exact List.nil_prefix)).symm)
      have HCS := Lib.hid (fun w' => show (Instr.slice 9 (.string (bstr AB)) none (some (.int .i64 (L.length : Int))) none).run Try.prog w' = .ok (.string (bstr L)) w' from by
        have := run_cut_str AB L.length hle w'
        rwa [HPR.out] at this)
      clear hL
      go_wp2_with fail
      refine HR.out.mono ?_
      rintro e wA ⟨v, rfl, hr, hk⟩
      obtain ⟨pr, cr, rfl, -, -⟩ := hr.formB
      have HE := Lib.hid (H9.out.keep.trans hk)
      have HRr := Lib.hid hr
      have hca := Frm.str_at' (HR0.out.keeps HE.out)
      have hcb := Frm.str_at' (HR1.out.keeps HE.out)
      have hbe : (!(bstr L).toList == (bstr L).toList) = false := by simp
      clear hr hk HR H9
      go_upto_region 20 with fail
      clear hca hcb
      refine wp_region_noPanic ?_
      refine wp_region_held_drew (S := fun w' => Keeps (wA) w') (by kernel_rfl) ((Keeps.refl _).drew) (fun _ => ?_)
      have hHeld : Keeps (wA) (wA).drew := (Keeps.refl _).drew
      refine wpAnyH_take (i := 0) (v := ?vv113) (by rfl) (by kernel_rfl) (by kernel_rfl) (by kernel_rfl) (by intro _ _ _ h; exact h) (Or.inl ⟨by kernel_rfl, ?hy113⟩) (by assumption) ?rest113
      case hy113 =>
        intro w' hSw
        have hSw : Keeps _ w' := hSw
        clear hSw
        go_simp
        try with_reducible rfl
      change wpAnyH _ _ _ _ _ _ _ (Act.put _ (some 69) _) _
      try simp only [Act.put, List.setIfInBounds_toArray, List.set_cons_zero, List.set_cons_succ]
      refine wpAnyH_take (i := 1) (v := ?vv114) (by rfl) (by kernel_rfl) (by kernel_rfl) (by kernel_rfl) (by intro _ _ _ h; exact h) (Or.inl ⟨by kernel_rfl, ?hy114⟩) (by assumption) ?rest114
      case hy114 =>
        intro w' hSw
        have hSw : Keeps _ w' := hSw
        clear hSw
        go_simp
        try with_reducible rfl
      change wpAnyH _ _ _ _ _ _ _ (Act.put _ (some 70) _) _
      try simp only [Act.put, List.setIfInBounds_toArray, List.set_cons_zero, List.set_cons_succ]
      refine wpAnyH_take (i := 2) (v := ?vv115) (by rfl) (by kernel_rfl) (by kernel_rfl) (by kernel_rfl) (by intro _ _ _ h; exact h) (Or.inl ⟨by kernel_rfl, ?hy115⟩) (by assumption) ?rest115
      case hy115 =>
        intro w' hSw
        have hSw : Keeps _ w' := hSw
        clear hSw
        go_simp
        try with_reducible rfl
      change wpAnyH _ _ _ _ _ _ _ (Act.put _ (some 71) _) _
      try simp only [Act.put, List.setIfInBounds_toArray, List.set_cons_zero, List.set_cons_succ]
      refine wpAnyH_take (i := 3) (v := ?vv116) (by rfl) (by kernel_rfl) (by kernel_rfl) (by kernel_rfl) (by intro _ _ _ h; exact h) (Or.inl ⟨by kernel_rfl, ?hy116⟩) (by assumption) ?rest116
      case hy116 =>
        intro w' hSw
        have hSw : Keeps _ w' := hSw
        clear hSw
        go_simp
        try with_reducible rfl
      change wpAnyH _ _ _ _ _ _ _ (Act.put _ (some 72) _) _
      try simp only [Act.put, List.setIfInBounds_toArray, List.set_cons_zero, List.set_cons_succ]
      refine wpAnyH_take (i := 4) (v := ?vv117) (by rfl) (by kernel_rfl) (by kernel_rfl) (by kernel_rfl) (by intro _ _ _ h; exact h) (Or.inl ⟨by kernel_rfl, ?hy117⟩) (by assumption) ?rest117
      case hy117 =>
        intro w' hSw
        have hSw : Keeps _ w' := hSw
        clear hSw
        go_simp
        try with_reducible rfl
      change wpAnyH _ _ _ _ _ _ _ (Act.put _ (some 73) _) _
      try simp only [Act.put, List.setIfInBounds_toArray, List.set_cons_zero, List.set_cons_succ]
      refine wpAnyH_take (i := 5) (v := ?vv118) (by rfl) (by kernel_rfl) (by kernel_rfl) (by kernel_rfl) (by intro _ _ _ h; exact h) (Or.inl ⟨by kernel_rfl, ?hy118⟩) (by assumption) ?rest118
      case hy118 =>
        intro w' hSw
        have hSw : Keeps _ w' := hSw
        clear hSw
        go_simp
        try with_reducible rfl
      change wpAnyH _ _ _ _ _ _ _ (Act.put _ (some 74) _) _
      try simp only [Act.put, List.setIfInBounds_toArray, List.set_cons_zero, List.set_cons_succ]
      refine wpAnyH_take (i := 6) (v := ?vv119) (by rfl) (by kernel_rfl) (by kernel_rfl) (by kernel_rfl) (by intro _ _ _ h; exact h) (Or.inl ⟨by kernel_rfl, ?hy119⟩) (by assumption) ?rest119
      case hy119 =>
        intro w' hSw
        have hSw : Keeps _ w' := hSw
        clear hSw
        go_simp
        try with_reducible rfl
      change wpAnyH _ _ _ _ _ _ _ (Act.put _ (some 75) _) _
      try simp only [Act.put, List.setIfInBounds_toArray, List.set_cons_zero, List.set_cons_succ]
      refine wpAnyH_take (i := 7) (v := ?vv120) (by rfl) (by kernel_rfl) (by kernel_rfl) (by kernel_rfl) (by intro _ _ _ h; exact h) (Or.inl ⟨by kernel_rfl, ?hy120⟩) (by assumption) ?rest120
      case hy120 =>
        intro w' hSw
        have hSw : Keeps _ w' := hSw
        have hc := Frm.str_at' (HRr.out.keeps hSw)
        clear hSw
        go_simp
        try with_reducible rfl
      change wpAnyH _ _ _ _ _ _ _ (Act.put _ (some 76) _) _
      try simp only [Act.put, List.setIfInBounds_toArray, List.set_cons_zero, List.set_cons_succ]
      refine wpAnyH_take (i := 8) (v := ?vv121) (by rfl) (by kernel_rfl) (by kernel_rfl) (by kernel_rfl) (by intro _ _ _ h; exact h) (Or.inl ⟨by kernel_rfl, ?hy121⟩) (by assumption) ?rest121
      case hy121 =>
        intro w' hSw
        have hSw : Keeps _ w' := hSw
        clear hSw
        go_simp
        try with_reducible rfl
      change wpAnyH _ _ _ _ _ _ _ (Act.put _ (some 77) _) _
      try simp only [Act.put, List.setIfInBounds_toArray, List.set_cons_zero, List.set_cons_succ]
      refine wpAnyH_take (i := 9) (v := ?vv122) (by rfl) (by kernel_rfl) (by kernel_rfl) (by kernel_rfl) (by intro _ _ _ h; exact h) (Or.inl ⟨by kernel_rfl, ?hy122⟩) (by assumption) ?rest122
      case hy122 =>
        intro w' hSw
        have hSw : Keeps _ w' := hSw
        clear hSw
        go_simp
        try with_reducible rfl
      change wpAnyH _ _ _ _ _ _ _ (Act.put _ (some 78) _) _
      try simp only [Act.put, List.setIfInBounds_toArray, List.set_cons_zero, List.set_cons_succ]
      refine wpAnyH_take (i := 10) (v := ?vv123) (by rfl) (by kernel_rfl) (by kernel_rfl) (by kernel_rfl) (by intro _ _ _ h; exact h) (Or.inl ⟨by kernel_rfl, ?hy123⟩) (by assumption) ?rest123
      case hy123 =>
        intro w' hSw
        have hSw : Keeps _ w' := hSw
        clear hSw
        go_simp
        try with_reducible rfl
      change wpAnyH _ _ _ _ _ _ _ (Act.put _ (some 79) _) _
      try simp only [Act.put, List.setIfInBounds_toArray, List.set_cons_zero, List.set_cons_succ]
      refine wpAnyH_take (i := 11) (v := ?vv124) (by rfl) (by kernel_rfl) (by kernel_rfl) (by kernel_rfl) (by intro _ _ _ h; exact h) (Or.inl ⟨by kernel_rfl, ?hy124⟩) (by assumption) ?rest124
      case hy124 =>
        intro w' hSw
        have hSw : Keeps _ w' := hSw
        have hc := HCS.out w'
        clear hSw
        go_simp
        try with_reducible rfl
      change wpAnyH _ _ _ _ _ _ _ (Act.put _ (some 80) _) _
      try simp only [Act.put, List.setIfInBounds_toArray, List.set_cons_zero, List.set_cons_succ]
      refine wpAnyH_take (i := 12) (v := ?vv125) (by rfl) (by kernel_rfl) (by kernel_rfl) (by kernel_rfl) (by intro _ _ _ h; exact h) (Or.inl ⟨by kernel_rfl, ?hy125⟩) (by assumption) ?rest125
      case hy125 =>
        intro w' hSw
        have hSw : Keeps _ w' := hSw
        clear hSw
        go_simp
        try with_reducible rfl
      change wpAnyH _ _ _ _ _ _ _ (Act.put _ (some 81) _) _
      try simp only [Act.put, List.setIfInBounds_toArray, List.set_cons_zero, List.set_cons_succ]
      refine wpAnyH_take (i := 13) (v := ?vv126) (by rfl) (by kernel_rfl) (by kernel_rfl) (by kernel_rfl) (by intro _ _ _ h; exact h) (Or.inl ⟨by kernel_rfl, ?hy126⟩) (by assumption) ?rest126
      case hy126 =>
        intro w' hSw
        have hSw : Keeps _ w' := hSw
        clear hSw
        go_simp
        try with_reducible rfl
      change wpAnyH _ _ _ _ _ _ _ (Act.put _ (some 82) _) _
      try simp only [Act.put, List.setIfInBounds_toArray, List.set_cons_zero, List.set_cons_succ]
      refine wpAnyH_done (by kernel_rfl) ?_ _
      refine NoPanic.normal ?_
      have HFN := Lib.hid (HE.out.trans (Keeps.refl wA).drew)
      have hcr := Frm.str_at' (HRr.out.keeps (Keeps.refl wA).drew)
      skip
      go_wp2_with fail
      go_ret
      exact ⟨by simp, HFN.out⟩
  · have hx : ce = 0 := hx
    have hy : cy = 0 := hy
    have hz : z = 0 := hz
    subst hx hy hz hdr
    have hq := hrd n' f' k' t ks
    clear hrd HCASE
    rw [show textD _ [115] = ([], 7) from hq] at HR
    unfold ReadDid at HR
    go_wp2_with fail
    refine HR.out.mono ?_
    rintro e wA ⟨v, rfl, hr, hk⟩
    have HE := Lib.hid (H9.out.keep.trans hk)
    clear hr hk HR H9
    go_wp2_with fail
    go_ret
    exact ⟨rfl, HE.out⟩
end Sf
end Go.Proofs.Ytohchhgheeolpaa

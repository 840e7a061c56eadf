/- The law OctetSources, walked. -/
import Derived.Test.YtfmjlgkbohidjaaOctetSrcPlain
import Derived.Deep.DeepCutAuto
import Derived.Deep.CutBlock
namespace Go.Proofs.Ytfmjlgkbohidjaa
open Go.RowKit
namespace Oct

set_option maxRecDepth 100000 in
set_option maxHeartbeats 4000000 in
theorem octetSources_walk (W : World) (v0 : Value) (L : List UInt8) (v1 : Value) (l : List Word) (r0 : Row W v0 (L.map u8v)) (r1 : RowS W 5 v1 l.length (l.flatMap wordC)) (w1 : ∀ x ∈ l, wordOk x) :
    Calls Try.prog 3 #[v0, v1] W fun e w' => e = .returned (.bool true) ∧ Keeps W w' := by
  have HS := Lib.hid (fun w k => some_any v1 l w (r1.keeps k))
  obtain ⟨p0, cap0, rfl, hc01, hc02⟩ := r0.formB
  have HR0 := Lib.hid r0
  clear r0
  by_cases h300 : 300 < L.length
  · obtain ⟨p, cap, rfl, -, -⟩ := r1.form
    clear r1 w1
    go_enter Try.func3, Try.ntmps3
    go_wp2_with fail
    refine (awake_any _).mono ?_
    rintro e w1 ⟨rfl, hK1⟩
    go_wp2_with fail
    go_ret
    exact ⟨rfl, hK1⟩
  have hd300 : decide (300 < (L.length : Int)) = false := by simp; omega
  cases hsome : someB l
  · rw [hsome] at HS
    clear hsome w1
    obtain ⟨p, cap, rfl, -, -⟩ := r1.form
    clear r1
    go_enter Try.func3, Try.ntmps3
    go_wp2_with fail
    refine (awake_any _).mono ?_
    rintro e w1 ⟨rfl, hK1⟩
    go_wp2_with fail
    refine (HS.out _ hK1).mono ?_
    rintro e w2 ⟨rfl, rfl⟩
    go_wp2_with fail
    go_ret
    exact ⟨rfl, hK1⟩
  · have h60 : l.length ≤ 60 ∧ ∀ x ∈ l, x.s.size ≤ 300 := by simpa [someB] using hsome
    obtain ⟨h60, h300'⟩ := h60
    rw [hsome] at HS
    clear hsome
    have HW := Lib.hid w1
    clear w1 h300'
    have bt := bstr_toList
    obtain ⟨p, cap, rfl, hc1, hc2⟩ := r1.form
    have hcells : 0 < l.length → ∃ b off, p = some ⟨b, off, none⟩ ∧ Hid (∀ i x, (l.flatMap wordC)[i]? = some x → W.cell? ⟨b, off + i, none⟩ = some x) := fun hl => by
      obtain ⟨b, off, cap', hv, -, -, hcell⟩ := r1.at_ hl
      simp only [Value.slice.injEq] at hv
      exact ⟨b, off, hv.1, hcell⟩
    have HCells := Lib.hid hcells
    clear r1 hcells
    go_enter Try.func3, Try.ntmps3
    go_wp2_with fail
    refine (awake_any _).mono ?_
    rintro e w1 ⟨rfl, hK1⟩
    go_wp2_with fail
    refine (HS.out _ hK1).mono ?_
    rintro e w2 ⟨rfl, rfl⟩
    have HK1 := Lib.hid hK1
    have hsz1 := hK1.size
    clear hK1
    go_wp2_with (at_builtin; refine wpList_app1 (base := w1.heap.size) u8ok rfl _ _ rfl (.slice (some ⟨w1.heap.size, 0, none⟩) 0 0) (.slice p0 L.length cap0) [] (L.map u8v) rfl rfl (Own.empty w1.heap.size rfl (Nat.le_refl _)) (HR0.out.keeps (HK1.out.alloc _)) (oneCell_map_u8 _) (by simp; omega) (by omega) (by simp) ?_; intro vo w2 ho2 hg2 hf2; have hKo := (HK1.out.alloc (.cells #[] 5)).grown hg2 (by intro k hk; simp [Value.ownBlock] at hk; omega); have HKo := Lib.hid hKo; clear hKo hg2 hf2; obtain ⟨po, capo, rfl, hpo1, hpo2⟩ := (by simpa using ho2 : Own w2 w1.heap.size 5 vo (L.map u8v)).row.formB; have HOo := Lib.hid (by simpa using ho2 : Own w2 w1.heap.size 5 (.slice po L.length capo) (L.map u8v)); clear ho2)
    refine (newSource_any _ L _ HOo.out.row (by omega)).mono ?_
    rintro e w3 ⟨gr, vr, rfl, hgr, hSr, hvr, hK3⟩
    have hown3 := (HOo.out.keeps hK3).lower (Nat.zero_le _)
    have hob := HOo.out.block_lt
    have hobb := HOo.out.base
    have hISrc : ∀ x, Fr gr vr x → ¬ Value.ownBlock (.slice po L.length capo) = some x := by
      rintro x (rfl | h) h2
      · have := hob _ h2; omega
      · have := hvr _ h; have := hob _ h2; omega
    have hoW : ∀ x, Value.ownBlock (.slice po L.length capo) = some x → W.heap.size ≤ x := fun x h => by have := hobb _ h; omega
    have hgrW : W.heap.size ≤ gr := by have := HKo.out.size; omega
    have H0 := Lib.hid (And.intro hSr (And.intro (HKo.out.trans hK3) (And.intro hISrc hoW)))
    have hpo : 0 < L.length → ∃ g5, po = some ⟨g5, 0, none⟩ := fun h => by
      obtain ⟨g5, c5, hv, -⟩ := hown3.form (by simpa using h)
      simp only [Value.slice.injEq] at hv
      exact ⟨g5, hv.1⟩
    have HPO := Lib.hid hpo
    have hp00 : 0 < L.length → ∃ b0 off0, p0 = some ⟨b0, off0, none⟩ ∧ Hid (∀ i x, L[i]? = some x → W.cell? ⟨b0, off0 + i, none⟩ = some (.int .u8 (x.toNat : Int))) := fun h => by
      obtain ⟨b0, off0, c5, hv, -, -, hh⟩ := HR0.out.bytesAt h
      simp only [Value.slice.injEq] at hv
      exact ⟨b0, off0, hv.1, hh⟩
    have HP0 := Lib.hid hp00
    clear hSr hISrc hoW hob hobb hvr hK3 hpo HOo hp00
    go_wp2_with fail
    go_loopw [7] (fun i wr => ∃ (j : Nat) (l' : List UInt8), j ≤ L.length ∧ i = .int .i64 j ∧ l'.length = L.length ∧ Own wr 0 5 (.slice po L.length capo) (l'.map u8v) ∧ Mods (fun x => Value.ownBlock (.slice po L.length capo) = some x) w3 wr) (fun i _ => L.length - (intOf i).toNat)
    case atStart => exact ⟨0, L, Nat.zero_le _, rfl, rfl, hown3, Mods.refl _ _⟩
    case round =>
      obtain ⟨j, l', hj, rfl, hl', hoz, hmz⟩ := hrel
      have HL' := Lib.hid hl'
      clear hl' hown3
      by_cases hlt : j < L.length
      · obtain ⟨g5, rfl⟩ := HPO.out (by omega)
        have hlt' : j < l'.length := by have := HL'.out; omega
        have hcell : wr.cell? ⟨g5, j, none⟩ = some (.int .u8 (l'[j].toNat : Int)) := hoz.cellAt j _ (by simp [hlt', u8v])
        have hlm : (l'.map u8v).length = L.length := by rw [List.length_map, HL'.out]
        have hfz : wr.frozen? ⟨g5, j, none⟩ = false := by
          have := hoz
          rw [← hlm] at this
          exact this.frozenAt j
        have hst : ∀ y : UInt8, Own (wr.setCell ⟨g5, j, none⟩ (u8v y)) 0 5 (.slice (some ⟨g5, 0, none⟩) L.length capo) ((l'.set j y).map u8v) := fun y => by
          have := hoz
          rw [← hlm] at this
          have := this.stored j (u8v y)
          rwa [hlm, ← List.map_set] at this
        have HOZ := Lib.hid (hst (l'[j] ^^^ 255))
        have HMZ := Lib.hid (Mods.setCell (p := ⟨g5, j, none⟩) hmz (fun _ => rfl) (u8v (l'[j] ^^^ 255)))
        have hx8 : bits BinOp.xor IntKind.u8 (l'[j].toNat : Int) 255 = (((l'[j] ^^^ 255).toNat : Nat) : Int) := by
          have := u8_xor_nat l'[j].toNat 255 (l'[j].toNat_lt) (by omega)
          rw [UInt8.toNat_xor]
          exact this
        clear hoz hmz hst hlm
        unfold u8v at HOZ HMZ
        generalize l'[j] ^^^ 255 = y at *
        generalize l'[j] = old at *
        go_wp2_with fail
        go_roundw
        case rel => exact ⟨j + 1, l'.set j y, by omega, by go_num, by rw [List.length_set, HL'.out], HOZ.out, HMZ.out⟩
        case measure => simp [intOf] <;> omega
      · obtain ⟨h1, h2, h3, h4⟩ := H0.out
        have hS0 := h1.mods hmz h3
        have hK0 := hmz.keeps h2 h4
        obtain ⟨wz, rfl⟩ : ∃ wz : World, wz = wr := ⟨_, rfl⟩
        clear hoz hmz h1 h2 h3 h4 H0
        go_wp2_with fail
        go_loopw [8, 9, 10] (fun at' er i wr => ∃ (j a : Nat) (e : Int), j ≤ l.length ∧ i = .int .i64 j ∧ at' = .int .i64 (a : Int) ∧ er = .int .i64 e ∧ SrcAt wr gr vr L a e ∧ Keeps W wr) (fun _ _ i _ => l.length - (intOf i).toNat)
        case atStart => exact ⟨0, 0, 0, Nat.zero_le _, rfl, rfl, rfl, hS0, hK0⟩
        case round =>
          obtain ⟨j, a, er, hj, rfl, rfl, rfl, hS, hKr⟩ := hrel
          clear hS0 hK0
          by_cases hlt : j < l.length
          · obtain ⟨b, off, rfl, HC⟩ := HCells.out (by omega)
            have hcs : ∀ i u, i < 5 → (wordC l[j])[i]? = some u → wr.cell? ⟨b, off + j * 5 + i, none⟩ = some u := fun i u hi hu =>
              keep1 hKr (by rw [Nat.add_assoc]; exact HC.out _ _ (by rw [word_at hlt hi]; exact hu))
            have hmem : l[j] ∈ l := List.getElem_mem hlt
            have hxo := HW.out _ hmem
            generalize l[j] = x at *
            have hc0 : wr.cell? ⟨b, off + j * 5, none⟩ = some (.int .i64 x.kind) := hcs 0 _ (by omega) rfl
            have hc1 : wr.cell? ⟨b, off + j * 5 + 1, none⟩ = some (.int .i64 x.k) := hcs 1 _ (by omega) rfl
            have hc2 : wr.cell? ⟨b, off + j * 5 + 2, none⟩ = some (.int .i64 x.n) := hcs 2 _ (by omega) rfl
            have hc3 : wr.cell? ⟨b, off + j * 5 + 3, none⟩ = some (.int .u64 x.v) := hcs 3 _ (by omega) rfl
            have hc4 : wr.cell? ⟨b, off + j * 5 + 4, none⟩ = some (.string x.s) := hcs 4 _ (by omega) rfl
            clear hcs hmem
            have hle := hS.le
            have hn64 := i64_wf hxo.2.2.1
            clear hxo
            go_upto_region 21 with fail
            generalize hWa : World.alloc wr _ = wa
            have hBx : Blk wa wr.heap.size 31 #[.int .i64 x.kind, .int .i64 x.k, .int .i64 x.n, .int .u64 x.v, .string x.s] := by rw [← hWa]; exact Blk.new _ _ _ rfl
            have hKa : Keeps wr wa := by rw [← hWa]; exact (Keeps.refl _).alloc _
            have HSa := Lib.hid (hS.keeps hKa)
            have HRa := Lib.hid (HR0.out.keeps (hKr.trans hKa))
            have hgr' : ¬ wr.heap.size = gr := by have := hS.blk.lt; omega
            have HBx := Lib.hid hBx
            obtain ⟨hb0, hb1, hb2, hb3, hb4⟩ := word_cells hBx
            clear hWa hc0 hc1 hc2 hc3 hc4 hBx
            go_upto_block 4 with fail
            go_cut [12, 13, 14, 15] (fun f n v t wx => wx = wa ∧ f = .int .i64 (sE L a 0 x) ∧ n = .int .i64 (sN L a 0 x) ∧ v = .int .u64 (sV L a 0 x : Nat) ∧ t = .string (bstr (sT L a 0 x)))
            case first =>
              as_aux_lemma =>
                by_cases h01 : x.kind = 0 ∨ x.kind = 1
                · obtain ⟨hs1, hs2, hs3, hs4⟩ := s_num (L := L) (a := a) (er := 0) h01
                  have hkk : ((x.kind == 0) = true) ∨ ((x.kind == 0) = false ∧ (x.kind == 1) = true) := by
                    rcases h01 with h | h
                    · left; simp [h]
                    · right; simp [h]
                  clear h01
                  by_cases hk : okk x.k = true
                  · have hk' : 1 ≤ x.k ∧ x.k ≤ 8 := by simpa [okk] using hk
                    by_cases hlt2 : (L.length : Int) - a < x.k
                    · have hE : uE L.length a 0 x.k = 2 := by simp [uE, hk, hlt2]
                      have H : Hid (sE L a 0 x = 2 ∧ sN L a 0 x = 0 ∧ ((sV L a 0 x : Nat) : Int) = 0 ∧ sT L a 0 x = []) := Lib.hid ⟨hs1.trans hE, by unfold sN; rw [hs2]; simp [uA, hE], by rw [hs3]; simp [uV, hE], hs4⟩
                      clear hs1 hs2 hs3 hs4 hE hk
                      rcases hkk with e0 | ⟨e0, e1⟩
                      all_goals
                        go_wp2_with fail
                        go_meet
                        exact ⟨rfl, by rw [H.out.1], by rw [H.out.2.1], by rw [H.out.2.2.1], by rw [H.out.2.2.2]; rfl⟩
                    · have hE : uE L.length a 0 x.k = 0 := by simp [uE, hk, hlt2]
                      have H : Hid (sE L a 0 x = 0 ∧ sN L a 0 x = x.k ∧ sV L a 0 x = getV L a x.k ∧ sT L a 0 x = []) := Lib.hid ⟨hs1.trans hE, by unfold sN; rw [hs2]; simp [uA, hE]; omega, by rw [hs3]; simp [uV, hE], hs4⟩
                      have HG := Lib.hid (rGet_any _ L a x.k wa HRa.out)
                      have hd : decide ((L.length : Int) - a < x.k) = false := by simp; omega
                      clear hs1 hs2 hs3 hs4 hE hk hlt2
                      rcases hkk with e0 | ⟨e0, e1⟩
                      all_goals
                        go_wp2_with fail
                        refine HG.out.mono ?_
                        rintro e w6 ⟨rfl, rfl⟩
                        go_wp2_with fail
                        go_meet
                        exact ⟨rfl, by rw [H.out.1], by rw [H.out.2.1], by rw [H.out.2.2.1], by rw [H.out.2.2.2]; rfl⟩
                  · have hE : uE L.length a 0 x.k = 1 := by simp [uE, hk]
                    have hk' : x.k < 1 ∨ (1 ≤ x.k ∧ 8 < x.k) := by simp [okk] at hk; omega
                    have H : Hid (sE L a 0 x = 1 ∧ sN L a 0 x = 0 ∧ ((sV L a 0 x : Nat) : Int) = 0 ∧ sT L a 0 x = []) := Lib.hid ⟨hs1.trans hE, by unfold sN; rw [hs2]; simp [uA, hE], by rw [hs3]; simp [uV, hE], hs4⟩
                    clear hs1 hs2 hs3 hs4 hE hk
                    rcases hkk with e0 | ⟨e0, e1⟩ <;> rcases hk' with h | ⟨h, h'⟩
                    all_goals
                      go_wp2_with fail
                      go_meet
                      exact ⟨rfl, by rw [H.out.1], by rw [H.out.2.1], by rw [H.out.2.2.1], by rw [H.out.2.2.2]; rfl⟩
                · have e0 : (x.kind == 0) = false := by simp; omega
                  have e1 : (x.kind == 1) = false := by simp; omega
                  by_cases h2 : x.kind = 2
                  · obtain ⟨hs1, hs2, hs3, hs4⟩ := s_text (L := L) (a := a) (er := 0) h2
                    have e2 : (x.kind == 2) = true := by simp [h2]
                    clear h01 h2
                    have HG := Lib.hid (rGet_any _ L a 4 wa HRa.out)
                    by_cases h4 : (L.length : Int) - a < 4
                    · have hu : uE L.length a 0 4 = 2 := by simp [uE, okk, h4]
                      have hE : tE L a 0 x.n = 2 := by simp [tE, hu]
                      have H : Hid (sE L a 0 x = 2 ∧ sN L a 0 x = 0 ∧ ((sV L a 0 x : Nat) : Int) = 0 ∧ sT L a 0 x = []) := Lib.hid ⟨hs1.trans hE, by unfold sN; rw [hs2]; simp [tA, hE], by rw [hs3]; rfl, by rw [hs4]; simp [tL, hE]⟩
                      have hg : getB L a 4 = false := by simp [getB, okk]; omega
                      rw [hg] at HG
                      clear hs1 hs2 hs3 hs4 hE hu hg
                      go_wp2_with fail
                      refine HG.out.mono ?_
                      rintro e w6 ⟨rfl, rfl⟩
                      go_wp2_with fail
                      go_meet
                      exact ⟨rfl, by rw [H.out.1], by rw [H.out.2.1], by rw [H.out.2.2.1], by rw [H.out.2.2.2]; rfl⟩
                    · have hu : uE L.length a 0 4 = 0 := by simp [uE, okk, h4]
                      have hg : getB L a 4 = true := by simp [getB, okk]; omega
                      have hN := getV4_lt (l := L) (a := (a : Int))
                      rw [hg] at HG
                      clear hg
                      by_cases hbig : x.n < 0 ∨ x.n < (getV L a 4 : Int)
                      · have hE : tE L a 0 x.n = 4 := by simp [tE, hu, hbig]
                        have H : Hid (sE L a 0 x = 4 ∧ sN L a 0 x = 0 ∧ ((sV L a 0 x : Nat) : Int) = 0 ∧ sT L a 0 x = []) := Lib.hid ⟨hs1.trans hE, by unfold sN; rw [hs2]; simp [tA, hE], by rw [hs3]; rfl, by rw [hs4]; simp [tL, hE]⟩
                        clear hs1 hs2 hs3 hs4 hE hu
                        generalize getV L a 4 = N at *
                        have hb2 : x.n < 0 ∨ (0 ≤ x.n ∧ x.n < (N : Int)) := by omega
                        clear hbig
                        rcases hb2 with h | ⟨h, h'⟩
                        all_goals
                          first | (have hd1 : decide (x.n < 0) = false := by simp; omega) | skip
                          go_wp2_with fail
                          refine HG.out.mono ?_
                          rintro e w6 ⟨rfl, rfl⟩
                          go_wp2_with fail
                          go_meet
                          exact ⟨rfl, by rw [H.out.1], by rw [H.out.2.1], by rw [H.out.2.2.1], by rw [H.out.2.2.2]; rfl⟩
                      · have hpos : 0 ≤ x.n := by omega
                        have hN2 : (getV L a 4 : Int) ≤ x.n := by omega
                        have hd1 : decide (x.n < 0) = false := by simp; omega
                        by_cases hshort : (L.length : Int) - a - 4 < (getV L a 4 : Int)
                        · have hE : tE L a 0 x.n = 2 := by simp [tE, hu, hbig, hshort]
                          have H : Hid (sE L a 0 x = 2 ∧ sN L a 0 x = 0 ∧ ((sV L a 0 x : Nat) : Int) = 0 ∧ sT L a 0 x = []) := Lib.hid ⟨hs1.trans hE, by unfold sN; rw [hs2]; simp [tA, hE], by rw [hs3]; rfl, by rw [hs4]; simp [tL, hE]⟩
                          clear hs1 hs2 hs3 hs4 hE hu hbig
                          generalize getV L a 4 = N at *
                          have hd2 : decide (x.n < (N : Int)) = false := by simp; omega
                          go_wp2_with fail
                          refine HG.out.mono ?_
                          rintro e w6 ⟨rfl, rfl⟩
                          go_wp2_with fail
                          go_meet
                          exact ⟨rfl, by rw [H.out.1], by rw [H.out.2.1], by rw [H.out.2.2.1], by rw [H.out.2.2.2]; rfl⟩
                        · have hE : tE L a 0 x.n = 0 := by simp [tE, hu, hbig, hshort]
                          have H : Hid (sE L a 0 x = 0 ∧ sN L a 0 x = 4 + (getV L a 4 : Int) ∧ ((sV L a 0 x : Nat) : Int) = 0 ∧ sT L a 0 x = (L.drop (a + 4)).take (getV L a 4)) := Lib.hid ⟨hs1.trans hE, by unfold sN; rw [hs2]; simp [tA, hE]; omega, by rw [hs3]; rfl, by rw [hs4]; simp [tL, hE]⟩
                          clear hs1 hs2 hs3 hs4 hE hu hbig
                          generalize getV L a 4 = N at *
                          have hd2 : decide (x.n < (N : Int)) = false := by simp; omega
                          have hd3 : decide ((L.length : Int) - a - 4 < (N : Int)) = false := by simp; omega
                          have ea : ∀ w, (Instr.slice 22 (.slice p0 L.length cap0) (some (.int .i64 ((a : Int) + 4))) (some (.int .i64 ((a : Int) + (4 + (N : Int))))) none).run Try.prog w = .ok (cutv p0 (a + 4) (a + 4 + N) cap0) w := fun w => by
                            rw [show ((a : Int) + 4) = ((a + 4 : Nat) : Int) from by omega, show ((a : Int) + (4 + (N : Int))) = ((a + 4 + N : Nat) : Int) from by omega]
                            exact run_cut_lh w Try.underlying22 s5 p0 L.length cap0 (a + 4) (a + 4 + N) (by omega) (by omega)
                          have hst := str_at (w := wa) (v := cutv p0 (a + 4) (a + 4 + N) cap0) (l := (L.drop (a + 4)).take N) (by
                            have := HRa.out.cut (lo := a + 4) (hi := a + 4 + N) (by omega) (by simp; omega)
                            rw [show a + 4 + N - (a + 4) = N from by omega] at this
                            simpa [List.map_take, List.map_drop] using this)
                          go_wp2_with fail
                          refine HG.out.mono ?_
                          rintro e w6 ⟨rfl, rfl⟩
                          go_wp2_with fail
                          go_meet
                          exact ⟨rfl, by rw [H.out.1], by rw [H.out.2.1], by rw [H.out.2.2.1], by rw [H.out.2.2.2]⟩
                  · have e2 : (x.kind == 2) = false := by simp [h2]
                    by_cases h3 : x.kind = 3
                    · obtain ⟨hs1, hs2, hs3, hs4⟩ := s_raw (L := L) (a := a) (er := 0) h3
                      have e3 : (x.kind == 3) = true := by simp [h3]
                      clear h01 h2 h3
                      by_cases h0 : x.n < 0
                      · have hE : rE L.length a 0 x.n = 1 := by simp [rE, h0]
                        have H : Hid (sE L a 0 x = 1 ∧ sN L a 0 x = 0 ∧ ((sV L a 0 x : Nat) : Int) = 0 ∧ sT L a 0 x = []) := Lib.hid ⟨hs1.trans hE, by unfold sN; rw [hs2]; simp [rA, hE], by rw [hs3]; rfl, by rw [hs4]; simp [rL, hE]⟩
                        clear hs1 hs2 hs3 hs4 hE
                        go_wp2_with fail
                        go_meet
                        exact ⟨rfl, by rw [H.out.1], by rw [H.out.2.1], by rw [H.out.2.2.1], by rw [H.out.2.2.2]; rfl⟩
                      · have hd1 : decide (x.n < 0) = false := by simp; omega
                        by_cases hshort : (L.length : Int) - a < x.n
                        · have hE : rE L.length a 0 x.n = 2 := by simp [rE, h0, hshort]
                          have H : Hid (sE L a 0 x = 2 ∧ sN L a 0 x = 0 ∧ ((sV L a 0 x : Nat) : Int) = 0 ∧ sT L a 0 x = []) := Lib.hid ⟨hs1.trans hE, by unfold sN; rw [hs2]; simp [rA, hE], by rw [hs3]; rfl, by rw [hs4]; simp [rL, hE]⟩
                          clear hs1 hs2 hs3 hs4 hE h0
                          go_wp2_with fail
                          go_meet
                          exact ⟨rfl, by rw [H.out.1], by rw [H.out.2.1], by rw [H.out.2.2.1], by rw [H.out.2.2.2]; rfl⟩
                        · have hE : rE L.length a 0 x.n = 0 := by simp [rE, h0, hshort]
                          have H : Hid (sE L a 0 x = 0 ∧ sN L a 0 x = x.n ∧ ((sV L a 0 x : Nat) : Int) = 0 ∧ sT L a 0 x = (L.drop a).take x.n.toNat) := Lib.hid ⟨hs1.trans hE, by unfold sN; rw [hs2]; simp [rA, hE]; omega, by rw [hs3]; rfl, by rw [hs4]; simp [rL, hE]⟩
                          have hd2 : decide ((L.length : Int) - a < x.n) = false := by simp; omega
                          clear hs1 hs2 hs3 hs4 hE
                          have ea : ∀ w, (Instr.slice 22 (.slice p0 L.length cap0) (some (.int .i64 (a : Int))) (some (.int .i64 ((a : Int) + x.n))) none).run Try.prog w = .ok (cutv p0 a (a + x.n.toNat) cap0) w := fun w => by
                            rw [show ((a : Int) + x.n) = ((a + x.n.toNat : Nat) : Int) from by omega]
                            exact run_cut_lh w Try.underlying22 s5 p0 L.length cap0 a (a + x.n.toNat) (by omega) (by omega)
                          have hst := str_at (w := wa) (v := cutv p0 a (a + x.n.toNat) cap0) (l := (L.drop a).take x.n.toNat) (by
                            have := HRa.out.cut (lo := a) (hi := a + x.n.toNat) (by omega) (by simp; omega)
                            rw [show a + x.n.toNat - a = x.n.toNat from by omega] at this
                            simpa [List.map_take, List.map_drop] using this)
                          have hb3 : (a : Int) + x.n ≤ 300 := by omega
                          have hb4 : 0 ≤ x.n := by omega
                          clear h0 hshort
                          go_wp2_with fail
                          go_meet
                          exact ⟨rfl, by rw [H.out.1], by rw [H.out.2.1], by rw [H.out.2.2.1], by rw [H.out.2.2.2]⟩
                    · have hs := s_other (L := L) (a := a) (er := 0) h01 h2 h3
                      have e3 : (x.kind == 3) = false := by simp [h3]
                      have H : Hid (sE L a 0 x = 0 ∧ sN L a 0 x = 0 ∧ ((sV L a 0 x : Nat) : Int) = 0 ∧ sT L a 0 x = []) := Lib.hid ⟨hs.1, by unfold sN; rw [hs.2.1]; omega, by rw [hs.2.2.1]; rfl, hs.2.2.2⟩
                      clear hs h01 h2 h3
                      go_wp2_with fail
                      go_meet
                      exact ⟨rfl, by rw [H.out.1], by rw [H.out.2.1], by rw [H.out.2.2.1], by rw [H.out.2.2.2]; rfl⟩
            case rest =>
            obtain ⟨rfl, rfl, rfl, rfl, rfl⟩ := hcut
            go_upto_if 152 with fail
            go_cut [13, 14, 15] (fun n v t wx => wx = wc ∧ n = .int .i64 (sN L a er x) ∧ v = .int .u64 (sV L a er x : Nat) ∧ t = .string (bstr (sT L a er x)))
            case first =>
              as_aux_lemma =>
                by_cases he : er = 0
                · subst he
                  go_wp2_with fail
                  go_meet
                  exact ⟨rfl, rfl, rfl, rfl⟩
                · have hs := s_er (L := L) (a := a) (x := x) he
                  have he' : (er != 0) = true := by simp [he]
                  have H := Lib.hid hs
                  clear hs he
                  go_wp2_with fail
                  go_meet
                  exact ⟨rfl, by rw [H.out.2.2.1], by rw [H.out.2.2.2.1]; rfl, by rw [H.out.2.2.2.2]; rfl⟩
            case rest =>
            obtain ⟨rfl, rfl, rfl, rfl⟩ := hcut
            go_upto_block 5 with fail
            obtain ⟨wb, rfl⟩ : ∃ wb : World, wb = wc := ⟨_, rfl⟩
            go_cut [18] (fun gd wx => gd = .bool true ∧ SrcAt wx gr vr L (sA L a er x) (sE L a er x) ∧ Mods (· = gr) wb wx)
            case first =>
              as_aux_lemma =>
                by_cases h0 : x.kind = 0
                · obtain ⟨hs1, hs2, hs3, hs4⟩ := s_num (L := L) (a := a) (er := er) (.inl h0)
                  have e0 : (x.kind == 0) = true := by simp [h0]
                  have HU := srcU_any gr vr L a er x.k wb HSa.out
                  rw [← hs1, ← hs2, ← hs3] at HU
                  have HU := Lib.hid HU
                  clear hs1 hs2 hs3 hs4 h0
                  go_wp2_with fail
                  refine HU.out.mono ?_
                  rintro e w6 ⟨rfl, hS6, hM6⟩
                  go_wp2_with fail
                  go_meet
                  exact ⟨rfl, hS6, hM6⟩
                have e0 : (x.kind == 0) = false := by simp [h0]
                by_cases h1 : x.kind = 1
                · obtain ⟨hs1, hs2, hs3, hs4⟩ := s_num (L := L) (a := a) (er := er) (.inr h1)
                  have e1 : (x.kind == 1) = true := by simp [h1]
                  have HU := srcI_any gr vr L a er x.k wb HSa.out
                  have hvl := uV_lt (l := L) (a := a) (er := er) (k := x.k)
                  rw [← hs3] at hvl
                  rw [← hs1, ← hs2, ← hs3] at HU
                  have HU := Lib.hid HU
                  have HSg := Lib.hid (rSigned_any (sV L a er x) hvl x.k wb)
                  clear hs1 hs2 hs3 hs4 h0 h1 hvl
                  go_wp2_with fail
                  refine HSg.out.mono ?_
                  rintro e w6 ⟨rfl, rfl⟩
                  go_wp2_with fail
                  refine HU.out.mono ?_
                  rintro e w6 ⟨rfl, hS6, hM6⟩
                  go_wp2_with fail
                  go_meet
                  exact ⟨rfl, hS6, hM6⟩
                have e1 : (x.kind == 1) = false := by simp [h1]
                by_cases h2 : x.kind = 2
                · obtain ⟨hs1, hs2, hs3, hs4⟩ := s_text (L := L) (a := a) (er := er) h2
                  have e2 : (x.kind == 2) = true := by simp [h2]
                  have HU := srcText_any gr vr L a er x.n wb HSa.out hn64.1 hn64.2
                  rw [← hs1, ← hs2, ← hs4] at HU
                  have HU := Lib.hid HU
                  clear hs1 hs2 hs3 hs4 h0 h1 h2
                  go_wp2_with fail
                  refine HU.out.mono ?_
                  rintro e w6 ⟨rfl, hS6, hM6⟩
                  go_wp2_with fail
                  go_meet
                  exact ⟨rfl, hS6, hM6⟩
                have e2 : (x.kind == 2) = false := by simp [h2]
                by_cases h3 : x.kind = 3
                · obtain ⟨hs1, hs2, hs3, hs4⟩ := s_raw (L := L) (a := a) (er := er) h3
                  have e3 : (x.kind == 3) = true := by simp [h3]
                  have HU := srcRaw_any gr vr L a er x.n wb HSa.out
                  rw [← hs1, ← hs2, ← hs4] at HU
                  have HU := Lib.hid HU
                  clear hs1 hs2 hs3 hs4 h0 h1 h2 h3
                  go_wp2_with fail
                  refine HU.out.mono ?_
                  rintro e w6 ⟨b6, rfl, hown6, hS6, hM6⟩
                  have hst6 := str_at hown6.row
                  clear hown6
                  go_wp2_with fail
                  go_meet
                  exact ⟨rfl, hS6, hM6⟩
                · have hs := s_other (L := L) (a := a) (er := er) (by omega) h2 h3
                  have e3 : (x.kind == 3) = false := by simp [h3]
                  have HH : Hid (SrcAt wb gr vr L (sA L a er x) (sE L a er x)) := Lib.hid (by rw [hs.1, hs.2.1]; exact HSa.out)
                  clear hs h0 h1 h2 h3
                  go_wp2_with fail
                  go_meet
                  exact ⟨rfl, HH.out, Mods.refl _ _⟩
            case rest =>
            obtain ⟨rfl, hSx, hMx⟩ := hcut
            have hKx := ((Mods.of_keeps hKa : Mods (· = gr) wr wb).trans hMx fun _ h _ => h).keeps hKr (fun x hx => by rw [hx]; exact hgrW)
            have HKx := Lib.hid hKx
            have hsl := sA_le (L := L) (x := x) hle er
            clear hKx hMx hb0 hb1 hb2 hb3 hb4 hKa hKr hS
            by_cases he : er = 0
            · subst he
              have hn1 : 0 ≤ sN L a 0 x ∧ (a : Int) + sN L a 0 x ≤ 300 := by unfold sN; omega
              obtain ⟨hn1, hn2⟩ := hn1
              have HSx := Lib.hid hSx
              have HErr := Lib.hid (err_any gr vr L _ _ wc hSx)
              have HLeft := Lib.hid (left_any gr vr L _ _ wc hSx)
              have hsum : (a : Int) + sN L a 0 x = (sA L a 0 x : Nat) := by unfold sN; omega
              clear hSx
              go_wp2_with fail
              refine HErr.out.mono ?_
              rintro e w7 ⟨rfl, rfl⟩
              go_wp2_with fail
              refine HLeft.out.mono ?_
              rintro e w7 ⟨rfl, hK7⟩
              go_wp2_with fail
              go_roundw
              case rel => exact ⟨j + 1, sA L a 0 x, sE L a 0 x, by omega, by go_num, rfl, rfl, HSx.out.keeps hK7, HKx.out.trans hK7⟩
              case measure => simp [intOf] <;> omega
            · have hs := s_er (L := L) (a := a) (x := x) he
              rw [hs.1, hs.2.1] at hSx
              have he' : (er == 0) = false := by simp [he]
              have HSx := Lib.hid hSx
              have HErr := Lib.hid (err_any gr vr L _ _ wc hSx)
              have HLeft := Lib.hid (left_any gr vr L _ _ wc hSx)
              clear hSx hs he hsl
              go_wp2_with fail
              refine HErr.out.mono ?_
              rintro e w7 ⟨rfl, rfl⟩
              go_wp2_with fail
              refine HLeft.out.mono ?_
              rintro e w7 ⟨rfl, hK7⟩
              go_wp2_with fail
              go_roundw
              case rel => exact ⟨j + 1, a, er, by omega, by go_num, rfl, rfl, HSx.out.keeps hK7, HKx.out.trans hK7⟩
              case measure => simp [intOf] <;> omega
          · have HD := Lib.hid (done_any gr vr L a er wr hS)
            have hle := hS.le
            have HKr := Lib.hid hKr
            clear hS hKr
            by_cases he : er = 0
            · subst he
              by_cases hal : a < L.length
              · rw [show doneE 0 a L.length = 3 from by simp [doneE, hal]] at HD
                go_wp2_with fail
                refine HD.out.mono ?_
                rintro e w9 ⟨rfl, hK9⟩
                go_wp2_with fail
                go_ret
                exact ⟨rfl, HKr.out.trans hK9⟩
              · rw [show doneE 0 a L.length = 0 from by simp [doneE, hal]] at HD
                go_wp2_with fail
                refine HD.out.mono ?_
                rintro e w9 ⟨rfl, hK9⟩
                go_wp2_with fail
                go_ret
                exact ⟨rfl, HKr.out.trans hK9⟩
            · rw [show doneE er a L.length = er from by simp [doneE, he]] at HD
              have he' : (er == 0) = false := by simp [he]
              clear he
              go_wp2_with fail
              refine HD.out.mono ?_
              rintro e w9 ⟨rfl, hK9⟩
              go_wp2_with fail
              go_ret
              exact ⟨rfl, HKr.out.trans hK9⟩
end Oct
end Go.Proofs.Ytfmjlgkbohidjaa

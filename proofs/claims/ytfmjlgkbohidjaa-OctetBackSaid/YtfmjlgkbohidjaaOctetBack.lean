/- The law OctetBack, walked. -/
import Derived.Test.YtfmjlgkbohidjaaOctetBackPlain
import Derived.Deep.RegionHeld3
import Derived.Deep.DeepCutAuto
namespace Go.Proofs.Ytfmjlgkbohidjaa
open Go.RowKit
namespace Oct

def ins (l : List Word) : List Bool := l.map inB
theorem ins_take {l : List Word} {j : Nat} (h : j < l.length) : ins (l.take (j + 1)) = ins (l.take j) ++ [inB l[j]] := by
  unfold ins
  rw [List.take_succ_eq_append_getElem h, List.map_append]
  rfl
theorem acc_split {l : List Word} {j : Nat} (h : j < l.length) : acc l = acc (l.take j) ++ (putW l[j] ++ acc (l.drop (j + 1))) := by
  conv => lhs; rw [← List.take_append_drop j l, List.drop_eq_getElem_cons h]
  unfold acc
  rw [List.flatMap_append, List.flatMap_cons]

set_option maxRecDepth 100000 in
set_option maxHeartbeats 4000000 in
theorem octetBack_walk (W : World) (v0 : Value) (l : List Word) (r0 : RowS W 5 v0 l.length (l.flatMap wordC)) (w0 : ∀ x ∈ l, wordOk x) :
    Calls Try.prog 7 #[v0] W fun e w' => e = .returned (.bool true) ∧ Keeps W w' := by
  have HS := Lib.hid (fun w k => some_any v0 l w (r0.keeps k))
  cases hsome : someB l
  · rw [hsome] at HS
    clear hsome w0
    obtain ⟨p, cap, rfl, -, -⟩ := r0.form
    clear r0
    go_enter Try.func7, Try.ntmps7
    go_wp2_with fail
    refine (awake_any _).mono ?_
    rintro e w1 ⟨rfl, hK1⟩
    go_wp2_with fail
    refine (HS.out _ hK1).mono ?_
    rintro e w2 ⟨rfl, rfl⟩
    go_wp2_with fail
    go_ret
    exact ⟨rfl, hK1⟩
  · have h60 : l.length ≤ 60 ∧ ∀ x ∈ l, x.s.size ≤ 300 := by simpa [someB] using hsome
    obtain ⟨h60, h300⟩ := h60
    rw [hsome] at HS
    clear hsome
    have HW := Lib.hid w0
    have H300 := Lib.hid h300
    clear w0 h300
    have bt := bstr_toList
    obtain ⟨p, cap, rfl, hc1, hc2⟩ := r0.form
    have HR := Lib.hid r0
    have hcells : 0 < l.length → ∃ b off, p = some ⟨b, off, none⟩ ∧ Hid (∀ i x, (l.flatMap wordC)[i]? = some x → W.cell? ⟨b, off + i, none⟩ = some x) := fun hl => by
      obtain ⟨b, off, cap', hv, -, -, hcell⟩ := r0.at_ hl
      simp only [Value.slice.injEq] at hv
      exact ⟨b, off, hv.1, hcell⟩
    have HCells := Lib.hid hcells
    clear r0 hcells
    go_enter Try.func7, Try.ntmps7
    go_wp2_with fail
    refine (awake_any _).mono ?_
    rintro e w1 ⟨rfl, hK1⟩
    go_wp2_with fail
    refine (HS.out _ hK1).mono ?_
    rintro e w2 ⟨rfl, rfl⟩
    go_wp2_with fail
    refine (newSink_any _).mono ?_
    rintro e w2 ⟨g, rfl, hg, hS2, hK2⟩
    have hsz1 := hK1.size
    have hR0 : Beside W w2 g (.slice none 0 0) (acc (l.take 0)) 4 (.slice none 0 0) ((ins (l.take 0)).map Value.bool) := ⟨by simpa [acc] using hS2, by simpa [ins] using Own.nil _ _ _, by simp [Value.ownBlock], by rintro x (rfl | h); omega; simp [Value.ownBlock] at h, hK1.trans hK2⟩
    clear hS2 hK1 hK2
    go_wp2_with fail
    go_loopw [4, 5] (fun va i wr => ∃ (j : Nat) (vs : Value), j ≤ l.length ∧ i = .int .i64 j ∧ Beside W wr g vs (acc (l.take j)) 4 va ((ins (l.take j)).map Value.bool)) (fun _ i _ => l.length - (intOf i).toNat)
    case atStart => exact ⟨0, _, Nat.zero_le _, rfl, hR0⟩
    case round =>
      obtain ⟨j, vs, hj, rfl, hrel⟩ := hrel
      have HRel := Lib.hid hrel
      clear hrel hR0
      obtain ⟨pa, nb, capa, rfl⟩ := HRel.out.own.sl
      by_cases hlt : j < l.length
      · obtain ⟨b, off, rfl, HC⟩ := HCells.out (by omega)
        have HA : Hid (acc (l.take (j + 1)) = acc (l.take j) ++ putW l[j]) := Lib.hid (acc_take hlt)
        have HI : Hid (ins (l.take (j + 1)) = ins (l.take j) ++ [inB l[j]]) := Lib.hid (ins_take hlt)
        have hcs : ∀ i u, i < 5 → (wordC l[j])[i]? = some u → wr.cell? ⟨b, off + j * 5 + i, none⟩ = some u := fun i u hi hu =>
          keep1 HRel.out.keeps (by rw [Nat.add_assoc]; exact HC.out _ _ (by rw [word_at hlt hi]; exact hu))
        have hmem : l[j] ∈ l := List.getElem_mem hlt
        have hx3 := H300.out _ hmem
        have hxo := HW.out _ hmem
        have hal : (acc (l.take j)).length ≤ 18480 := by
          have := acc_len (l.take j) (fun x hx => H300.out x (List.mem_of_mem_take hx))
          have h2 : (l.take j).length ≤ j := List.length_take_le _ _
          omega
        have hbl : (ins (l.take j)).length ≤ 60 := by simp [ins]; omega
        generalize l[j] = x at *
        obtain ⟨kind, k, n, v, s⟩ := x
        obtain ⟨-, -, hn, hv, -⟩ := hxo
        have hn' := i64_wf hn
        simp only at hx3 hv hn'
        have hc0 : wr.cell? ⟨b, off + j * 5, none⟩ = some (.int .i64 kind) := hcs 0 _ (by omega) rfl
        have hc1 : wr.cell? ⟨b, off + j * 5 + 1, none⟩ = some (.int .i64 k) := hcs 1 _ (by omega) rfl
        have hc2 : wr.cell? ⟨b, off + j * 5 + 2, none⟩ = some (.int .i64 n) := hcs 2 _ (by omega) rfl
        have hc3 : wr.cell? ⟨b, off + j * 5 + 3, none⟩ = some (.int .u64 v) := hcs 3 _ (by omega) rfl
        have hc4 : wr.cell? ⟨b, off + j * 5 + 4, none⟩ = some (.string s) := hcs 4 _ (by omega) rfl
        clear hcs hn hmem
        generalize acc (l.take j) = a at *
        generalize ins (l.take j) = bs at *
        by_cases h0 : kind = 0
        · subst h0
          have HP : Hid (putW ⟨0, k, n, v, s⟩ = putL v k) := Lib.hid rfl
          have HB : Hid (inB ⟨0, k, n, v, s⟩ = putB v k) := Lib.hid rfl
          go_wp2_with fail
          generalize hWa : World.alloc wr _ = wa
          have hBx : Blk wa wr.heap.size 31 #[.int .i64 0, .int .i64 k, .int .i64 n, .int .u64 v, .string s] := by rw [← hWa]; exact Blk.new _ _ _ rfl
          have hKa : Keeps wr wa := by rw [← hWa]; exact (Keeps.refl _).alloc _
          have hR1 := HRel.out.kept hKa
          have hsza := hKa.size
          obtain ⟨hb0, hb1, hb2, hb3, hb4⟩ := word_cells hBx
          clear hWa hc0 hc1 hc2 hc3 hc4
          have HC2 := Lib.hid (sinkU_any g vs a v hv k wa hR1.sink (by omega))
          go_wp2_with fail
          refine HC2.out.mono ?_
          rintro e w3 ⟨vs3, rfl, hS3, hM3, hF3⟩
          have hR3 := hR1.did hS3 hM3 hF3
          clear hb0 hb1 hb2 hb3 hb4 hS3 hR1 hBx HC2
          have HR3 := Lib.hid hR3
          clear hR3
          have HKI := Lib.hid HR3.out.keeps
          have hszi := HR3.out.keeps.size
          go_wp2_with (at_builtin; refine wpList_app1 (base := W.heap.size) bok rfl _ _ rfl (.slice pa nb capa) (.slice (some ⟨w3.heap.size, 0, none⟩) 1 1) (bs.map Value.bool) [.bool (putB v k)] rfl rfl ((HR3.out.kept ((Keeps.refl _).alloc _)).own) (row_one rfl) (by simp [Value.oneCell']) (by simp; omega) (by omega) (by simp; omega) ?_; intro va4 w4 ho4 hg4 hf4; have HR4 := Lib.hid ((HR3.out.kept ((Keeps.refl _).alloc _)).grown ho4 hg4 hf4))
          go_roundw
          case rel => exact ⟨j + 1, vs3, by omega, by go_num, by rw [HA.out, HI.out, HP.out, HB.out]; simpa using HR4.out⟩
          case measure => simp [intOf] <;> omega
        by_cases h1 : kind = 1
        · subst h1
          clear h0
          have HP : Hid ((if fitsB n k = true then a ++ putL (unsV n k) k else a) = a ++ putW ⟨1, k, n, v, s⟩) := Lib.hid (by simp [putW]; split <;> simp)
          have HB : Hid (inB ⟨1, k, n, v, s⟩ = fitsB n k) := Lib.hid rfl
          go_wp2_with fail
          generalize hWa : World.alloc wr _ = wa
          have hBx : Blk wa wr.heap.size 31 #[.int .i64 1, .int .i64 k, .int .i64 n, .int .u64 v, .string s] := by rw [← hWa]; exact Blk.new _ _ _ rfl
          have hKa : Keeps wr wa := by rw [← hWa]; exact (Keeps.refl _).alloc _
          have hR1 := HRel.out.kept hKa
          have hsza := hKa.size
          obtain ⟨hb0, hb1, hb2, hb3, hb4⟩ := word_cells hBx
          clear hWa hc0 hc1 hc2 hc3 hc4
          have HC2 := Lib.hid (sinkI_any g vs a n hn' k wa hR1.sink (by omega))
          have hfa0 := HP.out
          generalize hfa : (if fitsB n k = true then a ++ putL (unsV n k) k else a) = fa at *
          clear hfa
          have HP := Lib.hid hfa0
          clear hfa0
          go_wp2_with fail
          refine HC2.out.mono ?_
          rintro e w3 ⟨vs3, rfl, hS3, hM3, hF3⟩
          have hR3 := hR1.did hS3 hM3 hF3
          rw [HP.out] at hR3
          clear hb0 hb1 hb2 hb3 hb4 hS3 hR1 hBx HC2
          have HR3 := Lib.hid hR3
          clear hR3
          have HKI := Lib.hid HR3.out.keeps
          have hszi := HR3.out.keeps.size
          go_wp2_with (at_builtin; refine wpList_app1 (base := W.heap.size) bok rfl _ _ rfl (.slice pa nb capa) (.slice (some ⟨w3.heap.size, 0, none⟩) 1 1) (bs.map Value.bool) [.bool (fitsB n k)] rfl rfl ((HR3.out.kept ((Keeps.refl _).alloc _)).own) (row_one rfl) (by simp [Value.oneCell']) (by simp; omega) (by omega) (by simp; omega) ?_; intro va4 w4 ho4 hg4 hf4; have HR4 := Lib.hid ((HR3.out.kept ((Keeps.refl _).alloc _)).grown ho4 hg4 hf4))
          go_roundw
          case rel => exact ⟨j + 1, vs3, by omega, by go_num, by rw [HA.out, HI.out, HB.out]; simpa using HR4.out⟩
          case measure => simp [intOf] <;> omega
        by_cases h2 : kind = 2
        · subst h2
          clear h0 h1
          have HP : Hid (putW ⟨2, k, n, v, s⟩ = textL s) := Lib.hid rfl
          have HB : Hid (inB ⟨2, k, n, v, s⟩ = true) := Lib.hid rfl
          go_wp2_with fail
          generalize hWa : World.alloc wr _ = wa
          have hBx : Blk wa wr.heap.size 31 #[.int .i64 2, .int .i64 k, .int .i64 n, .int .u64 v, .string s] := by rw [← hWa]; exact Blk.new _ _ _ rfl
          have hKa : Keeps wr wa := by rw [← hWa]; exact (Keeps.refl _).alloc _
          have hR1 := HRel.out.kept hKa
          have hsza := hKa.size
          obtain ⟨hb0, hb1, hb2, hb3, hb4⟩ := word_cells hBx
          clear hWa hc0 hc1 hc2 hc3 hc4
          have HC2 := Lib.hid (sinkText_any g vs a s wa hR1.sink (by omega))
          go_wp2_with fail
          refine HC2.out.mono ?_
          rintro e w3 ⟨vs3, rfl, hS3, hM3, hF3⟩
          have hR3 := hR1.did hS3 hM3 hF3
          clear hb0 hb1 hb2 hb3 hb4 hS3 hR1 hBx HC2
          have HR3 := Lib.hid hR3
          clear hR3
          have HKI := Lib.hid HR3.out.keeps
          have hszi := HR3.out.keeps.size
          go_wp2_with (at_builtin; refine wpList_app1 (base := W.heap.size) bok rfl _ _ rfl (.slice pa nb capa) (.slice (some ⟨w3.heap.size, 0, none⟩) 1 1) (bs.map Value.bool) [.bool (true)] rfl rfl ((HR3.out.kept ((Keeps.refl _).alloc _)).own) (row_one rfl) (by simp [Value.oneCell']) (by simp; omega) (by omega) (by simp; omega) ?_; intro va4 w4 ho4 hg4 hf4; have HR4 := Lib.hid ((HR3.out.kept ((Keeps.refl _).alloc _)).grown ho4 hg4 hf4))
          go_roundw
          case rel => exact ⟨j + 1, vs3, by omega, by go_num, by rw [HA.out, HI.out, HP.out, HB.out]; simpa using HR4.out⟩
          case measure => simp [intOf] <;> omega
        by_cases h3 : kind = 3
        · subst h3
          clear h0 h1 h2
          have HP : Hid (putW ⟨3, k, n, v, s⟩ = s.data.toList) := Lib.hid rfl
          have HB : Hid (inB ⟨3, k, n, v, s⟩ = true) := Lib.hid rfl
          go_wp2_with fail
          generalize hWa : World.alloc wr _ = wa
          have hBx : Blk wa wr.heap.size 31 #[.int .i64 3, .int .i64 k, .int .i64 n, .int .u64 v, .string s] := by rw [← hWa]; exact Blk.new _ _ _ rfl
          have hKa : Keeps wr wa := by rw [← hWa]; exact (Keeps.refl _).alloc _
          have hR1 := HRel.out.kept hKa
          have hsza := hKa.size
          obtain ⟨hb0, hb1, hb2, hb3, hb4⟩ := word_cells hBx
          clear hWa hc0 hc1 hc2 hc3 hc4
          obtain ⟨c9, w9, hcv, hrow9, hK9⟩ := str_bytes (P := Try.prog) wa Try.underlying22 Try.underlying5 str9 s (by unfold maxLen; omega)
          have hlen9 : s.data.toList.length = s.size := by simp
          have hR9 := hR1.kept hK9
          have HC2 := Lib.hid (sinkRaw_any g vs a _ s.data.toList w9 hR9.sink hrow9 (by rw [hlen9]; omega))
          clear hBx hR1 hrow9 hlen9
          rw [hcv]
          go_wp2_with fail
          refine HC2.out.mono ?_
          rintro e w3 ⟨vs3, rfl, hS3, hM3, hF3⟩
          have hR3 := hR9.did hS3 hM3 hF3
          clear hb0 hb1 hb2 hb3 hb4 hS3 hR9 HC2 hcv
          have HR3 := Lib.hid hR3
          clear hR3
          have HKI := Lib.hid HR3.out.keeps
          have hszi := HR3.out.keeps.size
          go_wp2_with (at_builtin; refine wpList_app1 (base := W.heap.size) bok rfl _ _ rfl (.slice pa nb capa) (.slice (some ⟨w3.heap.size, 0, none⟩) 1 1) (bs.map Value.bool) [.bool (true)] rfl rfl ((HR3.out.kept ((Keeps.refl _).alloc _)).own) (row_one rfl) (by simp [Value.oneCell']) (by simp; omega) (by omega) (by simp; omega) ?_; intro va4 w4 ho4 hg4 hf4; have HR4 := Lib.hid ((HR3.out.kept ((Keeps.refl _).alloc _)).grown ho4 hg4 hf4))
          go_roundw
          case rel => exact ⟨j + 1, vs3, by omega, by go_num, by rw [HA.out, HI.out, HP.out, HB.out]; simpa using HR4.out⟩
          case measure => simp [intOf] <;> omega
        · have HP : Hid (putW ⟨kind, k, n, v, s⟩ = []) := Lib.hid (by simp [putW, h0, h1, h2, h3])
          have HB : Hid (inB ⟨kind, k, n, v, s⟩ = true) := Lib.hid (by simp [inB, h0, h1])
          have e0 : (kind == 0) = false := by simp [h0]
          have e1 : (kind == 1) = false := by simp [h1]
          have e2 : (kind == 2) = false := by simp [h2]
          have e3 : (kind == 3) = false := by simp [h3]
          clear h0 h1 h2 h3
          go_upto_region 21 with fail
          generalize hWa : World.alloc wr _ = wa
          have hKa : Keeps wr wa := by rw [← hWa]; exact (Keeps.refl _).alloc _
          have HR1 := Lib.hid (HRel.out.kept hKa)
          have hszi := HR1.out.keeps.size
          clear hWa hc0 hc1 hc2 hc3 hc4
          go_wp2_with (at_builtin; refine wpList_app1 (base := W.heap.size) bok rfl _ _ rfl (.slice pa nb capa) (.slice (some ⟨wa.heap.size, 0, none⟩) 1 1) (bs.map Value.bool) [.bool true] rfl rfl ((HR1.out.kept ((Keeps.refl _).alloc _)).own) (row_one rfl) (by simp [Value.oneCell']) (by simp; omega) (by omega) (by simp; omega) ?_; intro va4 w4 ho4 hg4 hf4; have HR4 := Lib.hid ((HR1.out.kept ((Keeps.refl _).alloc _)).grown ho4 hg4 hf4))
          go_roundw
          case rel => exact ⟨j + 1, vs, by omega, by go_num, by rw [HA.out, HI.out, HP.out, HB.out]; simpa using HR4.out⟩
          case measure => simp [intOf] <;> omega
      · obtain rfl : j = l.length := by omega
        rw [List.take_length] at *
        obtain ⟨wo, rfl⟩ : ∃ wo : World, wo = wr := ⟨_, rfl⟩
        have hacc := acc_len l H300.out
        go_wp2_with fail
        refine (sinkBytes_any g vs (acc l) _ HRel.out.sink (by omega)).mono ?_
        rintro e w5 ⟨b5, rfl, hown5, hK5⟩
        have HC6 := Lib.hid (newSource_any b5 (acc l) w5 hown5.row (by omega))
        obtain ⟨p5, cap5, rfl, hp51, hp52⟩ := hown5.row.formB
        go_wp2_with fail
        refine HC6.out.mono ?_
        rintro e w6 ⟨gr, vr, rfl, hgr, hSr, hvr, hK6⟩
        have hI6 := (HRel.out.own.keeps hK5).keeps hK6
        have hK06 := (HRel.out.keeps.trans hK5).trans hK6
        have hown6 := (hown5.keeps hK6).lower (Nat.zero_le _)
        have hgr5 := hown5.block_lt
        have hgb5 := hown5.base
        have hi5 := HRel.out.own.block_lt
        have hgrW : W.heap.size ≤ gr := by have := hK5.size; have := HRel.out.keeps.size; omega
        have hIn : Value.ownBlock (.slice pa nb capa) ≠ some gr := fun h => by have := hi5 _ h; have := hK5.size; omega
        have hISrc : ∀ x, Fr gr vr x → ¬ Value.ownBlock (.slice p5 (acc l).length cap5) = some x := by
          rintro x (rfl | h) h2
          · have := hgr5 _ h2; omega
          · have := hvr _ h; have := hgr5 _ h2; omega
        have hI5 : ∀ x, Value.ownBlock (.slice pa nb capa) = some x → ¬ Value.ownBlock (.slice p5 (acc l).length cap5) = some x := fun x h1 h2 => by
          have := hi5 _ h1; have := hgb5 _ h2; omega
        have hb5W : ∀ x, Value.ownBlock (.slice p5 (acc l).length cap5) = some x → W.heap.size ≤ x := fun x h => by
          have := hgb5 _ h; have := HRel.out.keeps.size; omega
        have H0 := Lib.hid (And.intro hSr (And.intro hI6 (And.intro hK06 (And.intro hISrc (And.intro hI5 hb5W)))))
        clear HC6 HRel hSr hI6 hK06 hISrc hI5 hb5W hgr5 hgb5 hi5 hvr hown5
        have HACC := Lib.hid (fun j (h : j < l.length) => acc_split h)
        generalize hL : acc l = L at *
        have hp5 : 0 < L.length → ∃ g5, p5 = some ⟨g5, 0, none⟩ := fun h => by
          obtain ⟨g5, c5, hv, -⟩ := hown6.form (by simpa using h)
          simp only [Value.slice.injEq] at hv
          exact ⟨g5, hv.1⟩
        have HP5 := Lib.hid hp5
        clear hp5
        have HLL := Lib.hid hL
        clear hL
        go_wp2_with fail
        go_loopw [10] (fun i wr => ∃ (j : Nat) (l' : List UInt8), j ≤ L.length ∧ i = .int .i64 j ∧ l'.length = L.length ∧ Own wr 0 5 (.slice p5 L.length cap5) (l'.map u8v) ∧ Mods (fun x => Value.ownBlock (.slice p5 L.length cap5) = some x) w6 wr) (fun i _ => L.length - (intOf i).toNat)
        case atStart => exact ⟨0, L, Nat.zero_le _, rfl, rfl, hown6, Mods.refl _ _⟩
        case round =>
          obtain ⟨j, l', hj, rfl, hl', hoz, hmz⟩ := hrel
          have HL' := Lib.hid hl'
          clear hl' hown6
          by_cases hlt : j < L.length
          · obtain ⟨g5, rfl⟩ := HP5.out (by omega)
            have hlt' : j < l'.length := by have := HL'.out; omega
            have hcell : wr.cell? ⟨g5, j, none⟩ = some (u8v l'[j]) := hoz.cellAt j _ (by simp [hlt'])
            have hlm : (l'.map u8v).length = L.length := by rw [List.length_map, HL'.out]
            have hfz : wr.frozen? ⟨g5, j, none⟩ = false := by
              have := hoz
              rw [← hlm] at this
              exact this.frozenAt j
            have hst : Own (wr.setCell ⟨g5, j, none⟩ (u8v 0)) 0 5 (.slice (some ⟨g5, 0, none⟩) L.length cap5) ((l'.set j 0).map u8v) := by
              have := hoz
              rw [← hlm] at this
              have := this.stored j (u8v 0)
              rwa [hlm, ← List.map_set] at this
            have HOZ := Lib.hid hst
            have HMZ := Lib.hid (Mods.setCell (p := ⟨g5, j, none⟩) hmz (fun _ => rfl) (u8v 0))
            clear hoz hmz hst hlm
            generalize u8v l'[j] = old at *
            go_wp2_with fail
            go_roundw
            case rel => exact ⟨j + 1, l'.set j 0, by omega, by go_num, by rw [List.length_set, HL'.out], HOZ.out, HMZ.out⟩
            case measure => simp [intOf] <;> omega
          · obtain ⟨h1, h2, h3, h4, h5, h6⟩ := H0.out
            have hS0 := h1.mods hmz h4
            have hI0 := h2.mods hmz h5
            have hK0 := hmz.keeps h3 h6
            have hnb : nb = l.length := by
              rcases hI0.length_lt with ⟨h, h'⟩ | ⟨g', c', h, -⟩
              · have h' : ins l = [] := by simpa using h'
                simp only [Value.slice.injEq] at h
                rw [h.2.1]
                have := congrArg List.length h'
                simp [ins] at this
                simp [this]
              · simp only [Value.slice.injEq] at h
                rw [h.2.1]
                simp [ins]
            subst hnb
            obtain ⟨wz, rfl⟩ : ∃ wz : World, wz = wr := ⟨_, rfl⟩
            have HI0 := Lib.hid hI0
            clear hoz hmz h1 h2 h3 h4 h5 h6 H0 hI0
            go_wp2_with fail
            go_loopw [11] (fun i wr => ∃ (j : Nat), j ≤ l.length ∧ i = .int .i64 j ∧ SrcAt wr gr vr L (acc (l.take j)).length 0 ∧ Own wr W.heap.size 4 (.slice pa l.length capa) ((ins l).map Value.bool) ∧ Keeps W wr) (fun i _ => l.length - (intOf i).toNat)
            case atStart => exact ⟨0, Nat.zero_le _, rfl, by simpa [acc] using hS0, HI0.out, hK0⟩
            case round =>
              obtain ⟨j, hj, rfl, hS, hI, hKr⟩ := hrel
              clear hS0 HI0 hK0
              by_cases hlt : j < l.length
              · obtain ⟨b, off, rfl, HC⟩ := HCells.out (by omega)
                obtain ⟨gi, ci, hv, -⟩ := hI.form (by simpa [ins] using Nat.lt_of_le_of_lt (Nat.zero_le _) hlt)
                simp only [Value.slice.injEq] at hv
                obtain ⟨rfl, -, rfl⟩ := hv
                have hin : wr.cell? ⟨gi, j, none⟩ = some (.bool (inB l[j])) := hI.cellAt j _ (by simp [ins, hlt])
                have HA : Hid (acc (l.take (j + 1)) = acc (l.take j) ++ putW l[j]) := Lib.hid (acc_take hlt)
                have HX' := Lib.hid (HACC.out j hlt)
                have hcs : ∀ i u, i < 5 → (wordC l[j])[i]? = some u → wr.cell? ⟨b, off + j * 5 + i, none⟩ = some u := fun i u hi hu =>
                  keep1 hKr (by rw [Nat.add_assoc]; exact HC.out _ _ (by rw [word_at hlt hi]; exact hu))
                have hmem : l[j] ∈ l := List.getElem_mem hlt
                have hx3 := H300.out _ hmem
                have hxo := HW.out _ hmem
                generalize l[j] = x at *
                generalize acc (l.take j) = pre at *
                generalize acc (l.drop (j + 1)) = post at *
                cases hinb : inB x
                · have HP : Hid (putW x = []) := Lib.hid (putW_out hinb)
                  rw [hinb] at hin
                  have hib := lt_of_cell hin
                  obtain ⟨kind, k, n, v, s⟩ := x
                  obtain ⟨-, -, hn, hv, -⟩ := hxo
                  have hn' := i64_wf hn
                  simp only at hx3 hv hn'
                  have hc0 : wr.cell? ⟨b, off + j * 5, none⟩ = some (.int .i64 kind) := hcs 0 _ (by omega) rfl
                  have hc1 : wr.cell? ⟨b, off + j * 5 + 1, none⟩ = some (.int .i64 k) := hcs 1 _ (by omega) rfl
                  have hc2 : wr.cell? ⟨b, off + j * 5 + 2, none⟩ = some (.int .i64 n) := hcs 2 _ (by omega) rfl
                  have hc3 : wr.cell? ⟨b, off + j * 5 + 3, none⟩ = some (.int .u64 v) := hcs 3 _ (by omega) rfl
                  have hc4 : wr.cell? ⟨b, off + j * 5 + 4, none⟩ = some (.string s) := hcs 4 _ (by omega) rfl
                  clear hcs hn hmem
                  clear hinb
                  go_wp2_with fail
                  go_roundw
                  case rel => exact ⟨j + 1, by omega, by go_num, by rw [HA.out, HP.out, List.append_nil]; exact hS.keeps ((Keeps.refl _).alloc _), hI.alloc _, hKr.alloc _⟩
                  case measure => simp [intOf] <;> omega
                · rw [hinb] at hin
                  have hib := lt_of_cell hin
                  obtain ⟨kind, k, n, v, s⟩ := x
                  obtain ⟨-, -, hn, hv, -⟩ := hxo
                  have hn' := i64_wf hn
                  simp only at hx3 hv hn'
                  have hc0 : wr.cell? ⟨b, off + j * 5, none⟩ = some (.int .i64 kind) := hcs 0 _ (by omega) rfl
                  have hc1 : wr.cell? ⟨b, off + j * 5 + 1, none⟩ = some (.int .i64 k) := hcs 1 _ (by omega) rfl
                  have hc2 : wr.cell? ⟨b, off + j * 5 + 2, none⟩ = some (.int .i64 n) := hcs 2 _ (by omega) rfl
                  have hc3 : wr.cell? ⟨b, off + j * 5 + 3, none⟩ = some (.int .u64 v) := hcs 3 _ (by omega) rfl
                  have hc4 : wr.cell? ⟨b, off + j * 5 + 4, none⟩ = some (.string s) := hcs 4 _ (by omega) rfl
                  clear hcs hn hmem
                  by_cases h0 : kind = 0
                  · subst h0
                    have HP : Hid (putW ⟨0, k, n, v, s⟩ = putL v k) := Lib.hid rfl
                    have hpb : putB v k = true := hinb
                    have HU : Hid (∀ w, SrcAt w gr vr L pre.length 0 → Calls Try.prog 19 #[.pointer (some ⟨gr, 0, none⟩), .int .i64 k] w (SrcDid w gr vr L (pre ++ putL v k).length 0 (.returned (.int .u64 (v : Int))))) := Lib.hid (fun w h => by
                      have hb := back_num hpb HX'.out
                      have := srcU_any gr vr L pre.length 0 k w h
                      rwa [hb.1, hb.2.1, hb.2.2] at this)
                    clear hinb hpb
                    go_upto_region 36 with fail
                    generalize hWa : World.alloc wr _ = wa
                    have hBx : Blk wa wr.heap.size 31 #[.int .i64 0, .int .i64 k, .int .i64 n, .int .u64 v, .string s] := by rw [← hWa]; exact Blk.new _ _ _ rfl
                    have hKa : Keeps wr wa := by rw [← hWa]; exact (Keeps.refl _).alloc _
                    have hSa := hS.keeps hKa
                    have hIa := hI.keeps hKa
                    have hgr : ¬ wr.heap.size = gr := by have := hS.blk.lt; omega
                    have HBx := Lib.hid hBx
                    obtain ⟨hb0, hb1, hb2, hb3, hb4⟩ := word_cells hBx
                    have HBc := Lib.hid (⟨hb0, hb1, hb2, hb3, hb4⟩ : wa.cell? ⟨wr.heap.size, 0, none⟩ = some (.int .i64 0) ∧ wa.cell? ⟨wr.heap.size, 1, none⟩ = some (.int .i64 k) ∧ wa.cell? ⟨wr.heap.size, 2, none⟩ = some (.int .i64 n) ∧ wa.cell? ⟨wr.heap.size, 3, none⟩ = some (.int .u64 v) ∧ wa.cell? ⟨wr.heap.size, 4, none⟩ = some (.string s))
                    clear hWa hc0 hc1 hc2 hc3 hc4 hBx
                    go_region_held3 (fun w' => w'.cell? ⟨wr.heap.size, 0, none⟩ = some (.int .i64 0) ∧ w'.cell? ⟨wr.heap.size, 1, none⟩ = some (.int .i64 k) ∧ w'.cell? ⟨wr.heap.size, 2, none⟩ = some (.int .i64 n) ∧ w'.cell? ⟨wr.heap.size, 3, none⟩ = some (.int .u64 v) ∧ w'.cell? ⟨wr.heap.size, 4, none⟩ = some (.string s)) (first | exact HBc.out | exact word_cells ((Blk.drew HBx.out).mods hM6 hgr))
                      (first | (go_at_call 19; refine (HU.out _ ?_).mono ?_; exact hSa.keeps ((Keeps.refl _).drew); rintro e w6 ⟨rfl, hS6, hM6⟩))
                    all_goals
                      have hSx : SrcAt w6 gr vr L ((pre ++ putW ⟨0, k, n, v, s⟩).length) 0 := by rw [HP.out]; exact hS6
                      have hMx := (Mods.of_keeps (hKa.drew) : Mods (· = gr) wr wa.drew).trans hM6 fun _ h _ => h
                      have hIx := hI.mods hMx (fun x hx h => hIn (by rw [hx, h]))
                      have hKx := hMx.keeps hKr (fun x hx => by rw [hx]; exact hgrW)
                      have HSx := Lib.hid hSx
                      have HIx := Lib.hid hIx
                      have HKx := Lib.hid hKx
                      clear hSx hIx hKx hS hI hKr hb0 hb1 hb2 hb3 hb4 hMx hS6 hM6
                      go_wp2_with fail
                      go_roundw
                      case rel => exact ⟨j + 1, by omega, by go_num, by rw [HA.out]; exact HSx.out, HIx.out, HKx.out⟩
                      case measure => simp [intOf] <;> omega
                  by_cases h1 : kind = 1
                  · subst h1
                    clear h0
                    have hfb : fitsB n k = true := hinb
                    have hup := uns_put hfb
                    have hpw : putW ⟨1, k, n, v, s⟩ = putL (unsV n k) k := by simp [putW, hfb]
                    have HP := Lib.hid hpw
                    have HU : Hid (∀ w, SrcAt w gr vr L pre.length 0 → Calls Try.prog 21 #[.pointer (some ⟨gr, 0, none⟩), .int .i64 k] w (SrcDid w gr vr L (pre ++ putL (unsV n k) k).length 0 (.returned (.int .i64 n)))) := Lib.hid (fun w h => by
                      have hX := HX'.out
                      rw [hpw] at hX
                      have hb := back_num hup.1 hX
                      have := srcI_any gr vr L pre.length 0 k w h
                      rwa [hb.1, hb.2.1, hb.2.2, hup.2.1] at this)
                    clear hinb hfb hup hpw
                    go_upto_region 38 with fail
                    generalize hWa : World.alloc wr _ = wa
                    have hBx : Blk wa wr.heap.size 31 #[.int .i64 1, .int .i64 k, .int .i64 n, .int .u64 v, .string s] := by rw [← hWa]; exact Blk.new _ _ _ rfl
                    have hKa : Keeps wr wa := by rw [← hWa]; exact (Keeps.refl _).alloc _
                    have hSa := hS.keeps hKa
                    have hIa := hI.keeps hKa
                    have hgr : ¬ wr.heap.size = gr := by have := hS.blk.lt; omega
                    have HBx := Lib.hid hBx
                    obtain ⟨hb0, hb1, hb2, hb3, hb4⟩ := word_cells hBx
                    have HBc := Lib.hid (⟨hb0, hb1, hb2, hb3, hb4⟩ : wa.cell? ⟨wr.heap.size, 0, none⟩ = some (.int .i64 1) ∧ wa.cell? ⟨wr.heap.size, 1, none⟩ = some (.int .i64 k) ∧ wa.cell? ⟨wr.heap.size, 2, none⟩ = some (.int .i64 n) ∧ wa.cell? ⟨wr.heap.size, 3, none⟩ = some (.int .u64 v) ∧ wa.cell? ⟨wr.heap.size, 4, none⟩ = some (.string s))
                    clear hWa hc0 hc1 hc2 hc3 hc4 hBx
                    go_region_held3 (fun w' => w'.cell? ⟨wr.heap.size, 0, none⟩ = some (.int .i64 1) ∧ w'.cell? ⟨wr.heap.size, 1, none⟩ = some (.int .i64 k) ∧ w'.cell? ⟨wr.heap.size, 2, none⟩ = some (.int .i64 n) ∧ w'.cell? ⟨wr.heap.size, 3, none⟩ = some (.int .u64 v) ∧ w'.cell? ⟨wr.heap.size, 4, none⟩ = some (.string s)) (first | exact HBc.out | exact word_cells ((Blk.drew HBx.out).mods hM6 hgr))
                      (first | (go_at_call 21; refine (HU.out _ ?_).mono ?_; exact hSa.keeps ((Keeps.refl _).drew); rintro e w6 ⟨rfl, hS6, hM6⟩))
                    all_goals
                      have hSx : SrcAt w6 gr vr L ((pre ++ putW ⟨1, k, n, v, s⟩).length) 0 := by rw [HP.out]; exact hS6
                      have hMx := (Mods.of_keeps (hKa.drew) : Mods (· = gr) wr wa.drew).trans hM6 fun _ h _ => h
                      have hIx := hI.mods hMx (fun x hx h => hIn (by rw [hx, h]))
                      have hKx := hMx.keeps hKr (fun x hx => by rw [hx]; exact hgrW)
                      have HSx := Lib.hid hSx
                      have HIx := Lib.hid hIx
                      have HKx := Lib.hid hKx
                      clear hSx hIx hKx hS hI hKr hb0 hb1 hb2 hb3 hb4 hMx hS6 hM6
                      go_wp2_with fail
                      go_roundw
                      case rel => exact ⟨j + 1, by omega, by go_num, by rw [HA.out]; exact HSx.out, HIx.out, HKx.out⟩
                      case measure => simp [intOf] <;> omega
                  by_cases h2 : kind = 2
                  · subst h2
                    clear h0 h1
                    have HP : Hid (putW ⟨2, k, n, v, s⟩ = textL s) := Lib.hid rfl
                    have HU : Hid (∀ w, SrcAt w gr vr L pre.length 0 → Calls Try.prog 22 #[.pointer (some ⟨gr, 0, none⟩), .int .i64 300] w (SrcDid w gr vr L (pre ++ textL s).length 0 (.returned (.string s)))) := Lib.hid (fun w h => by
                      have hb := back_text hx3 HX'.out
                      have := srcText_any gr vr L pre.length 0 300 w h (by omega) (by omega)
                      rwa [hb.1, hb.2.1, hb.2.2, bstr_list] at this)
                    clear hinb
                    go_upto_region 40 with fail
                    generalize hWa : World.alloc wr _ = wa
                    have hBx : Blk wa wr.heap.size 31 #[.int .i64 2, .int .i64 k, .int .i64 n, .int .u64 v, .string s] := by rw [← hWa]; exact Blk.new _ _ _ rfl
                    have hKa : Keeps wr wa := by rw [← hWa]; exact (Keeps.refl _).alloc _
                    have hSa := hS.keeps hKa
                    have hIa := hI.keeps hKa
                    have hgr : ¬ wr.heap.size = gr := by have := hS.blk.lt; omega
                    have HBx := Lib.hid hBx
                    obtain ⟨hb0, hb1, hb2, hb3, hb4⟩ := word_cells hBx
                    have HBc := Lib.hid (⟨hb0, hb1, hb2, hb3, hb4⟩ : wa.cell? ⟨wr.heap.size, 0, none⟩ = some (.int .i64 2) ∧ wa.cell? ⟨wr.heap.size, 1, none⟩ = some (.int .i64 k) ∧ wa.cell? ⟨wr.heap.size, 2, none⟩ = some (.int .i64 n) ∧ wa.cell? ⟨wr.heap.size, 3, none⟩ = some (.int .u64 v) ∧ wa.cell? ⟨wr.heap.size, 4, none⟩ = some (.string s))
                    clear hWa hc0 hc1 hc2 hc3 hc4 hBx
                    go_region_held3 (fun w' => w'.cell? ⟨wr.heap.size, 0, none⟩ = some (.int .i64 2) ∧ w'.cell? ⟨wr.heap.size, 1, none⟩ = some (.int .i64 k) ∧ w'.cell? ⟨wr.heap.size, 2, none⟩ = some (.int .i64 n) ∧ w'.cell? ⟨wr.heap.size, 3, none⟩ = some (.int .u64 v) ∧ w'.cell? ⟨wr.heap.size, 4, none⟩ = some (.string s)) (first | exact HBc.out | exact word_cells ((Blk.drew HBx.out).mods hM6 hgr))
                      (first | (go_at_call 22; refine (HU.out _ ?_).mono ?_; exact hSa.keeps ((Keeps.refl _).drew); rintro e w6 ⟨rfl, hS6, hM6⟩))
                    all_goals
                      have hSx : SrcAt w6 gr vr L ((pre ++ putW ⟨2, k, n, v, s⟩).length) 0 := by rw [HP.out]; exact hS6
                      have hMx := (Mods.of_keeps (hKa.drew) : Mods (· = gr) wr wa.drew).trans hM6 fun _ h _ => h
                      have hIx := hI.mods hMx (fun x hx h => hIn (by rw [hx, h]))
                      have hKx := hMx.keeps hKr (fun x hx => by rw [hx]; exact hgrW)
                      have HSx := Lib.hid hSx
                      have HIx := Lib.hid hIx
                      have HKx := Lib.hid hKx
                      clear hSx hIx hKx hS hI hKr hb0 hb1 hb2 hb3 hb4 hMx hS6 hM6
                      go_wp2_with fail
                      go_roundw
                      case rel => exact ⟨j + 1, by omega, by go_num, by rw [HA.out]; exact HSx.out, HIx.out, HKx.out⟩
                      case measure => simp [intOf] <;> omega
                  by_cases h3 : kind = 3
                  · subst h3
                    clear h0 h1 h2
                    have HP : Hid (putW ⟨3, k, n, v, s⟩ = s.data.toList) := Lib.hid rfl
                    have HU : Hid (∀ w, SrcAt w gr vr L pre.length 0 → Calls Try.prog 23 #[.pointer (some ⟨gr, 0, none⟩), .int .i64 (s.size : Int)] w (RawDid w gr vr L (pre ++ s.data.toList).length 0 s.data.toList)) := Lib.hid (fun w h => by
                      have hb := back_raw (k := (s.size : Int)) (m := s.data.toList) (by simp) HX'.out
                      have := srcRaw_any gr vr L pre.length 0 (s.size : Int) w h
                      rwa [hb.1, hb.2.1, hb.2.2] at this)
                    clear hinb
                    go_upto_region 42 with fail
                    generalize hWa : World.alloc wr _ = wa
                    have hBx : Blk wa wr.heap.size 31 #[.int .i64 3, .int .i64 k, .int .i64 n, .int .u64 v, .string s] := by rw [← hWa]; exact Blk.new _ _ _ rfl
                    have hKa : Keeps wr wa := by rw [← hWa]; exact (Keeps.refl _).alloc _
                    have hSa := hS.keeps hKa
                    have hIa := hI.keeps hKa
                    have hgr : ¬ wr.heap.size = gr := by have := hS.blk.lt; omega
                    have HBx := Lib.hid hBx
                    obtain ⟨hb0, hb1, hb2, hb3, hb4⟩ := word_cells hBx
                    have HBc := Lib.hid (⟨hb0, hb1, hb2, hb3, hb4⟩ : wa.cell? ⟨wr.heap.size, 0, none⟩ = some (.int .i64 3) ∧ wa.cell? ⟨wr.heap.size, 1, none⟩ = some (.int .i64 k) ∧ wa.cell? ⟨wr.heap.size, 2, none⟩ = some (.int .i64 n) ∧ wa.cell? ⟨wr.heap.size, 3, none⟩ = some (.int .u64 v) ∧ wa.cell? ⟨wr.heap.size, 4, none⟩ = some (.string s))
                    clear hWa hc0 hc1 hc2 hc3 hc4 hBx
                    go_region_with (go_at_call 23; refine (HU.out _ ?_).mono ?_; exact hSa.keeps ((Keeps.refl _).drew); rintro e w6 ⟨b6, rfl, hown6, hS6, hM6⟩; have hst6 := str_at hown6.row; rw [bstr_list] at hst6; obtain ⟨hd0, hd1, hd2, hd3, hd4⟩ := word_cells ((Blk.drew HBx.out).mods hM6 hgr))
                    all_goals
                      have hSx : SrcAt w6 gr vr L ((pre ++ putW ⟨3, k, n, v, s⟩).length) 0 := by rw [HP.out]; exact hS6
                      have hMx := (Mods.of_keeps (hKa.drew) : Mods (· = gr) wr wa.drew).trans hM6 fun _ h _ => h
                      have hIx := hI.mods hMx (fun x hx h => hIn (by rw [hx, h]))
                      have hKx := hMx.keeps hKr (fun x hx => by rw [hx]; exact hgrW)
                      have HSx := Lib.hid hSx
                      have HIx := Lib.hid hIx
                      have HKx := Lib.hid hKx
                      clear hSx hIx hKx hS hI hKr hb0 hb1 hb2 hb3 hb4 hMx hS6 hM6
                      go_wp2_with fail
                      go_roundw
                      case rel => exact ⟨j + 1, by omega, by go_num, by rw [HA.out]; exact HSx.out, HIx.out, HKx.out⟩
                      case measure => simp [intOf] <;> omega
                  · have HP : Hid (putW ⟨kind, k, n, v, s⟩ = []) := Lib.hid (by simp [putW, h0, h1, h2, h3])
                    have e0 : (kind == 0) = false := by simp [h0]
                    have e1 : (kind == 1) = false := by simp [h1]
                    have e2 : (kind == 2) = false := by simp [h2]
                    have e3 : (kind == 3) = false := by simp [h3]
                    clear h0 h1 h2 h3 hinb
                    go_wp2_with fail
                    go_roundw
                    case rel => exact ⟨j + 1, by omega, by go_num, by rw [HA.out, HP.out, List.append_nil]; exact hS.keeps ((Keeps.refl _).alloc _), hI.alloc _, hKr.alloc _⟩
                    case measure => simp [intOf] <;> omega
              · obtain rfl : j = l.length := by omega
                rw [List.take_length, HLL.out] at hS
                have HD := Lib.hid (done_any gr vr L _ 0 wr hS)
                rw [show doneE 0 L.length L.length = 0 from by simp [doneE]] at HD
                clear hS
                go_wp2_with fail
                refine HD.out.mono ?_
                rintro e w9 ⟨rfl, hK9⟩
                go_wp2_with fail
                go_ret
                exact ⟨rfl, hKr.trans hK9⟩
end Oct
end Go.Proofs.Ytfmjlgkbohidjaa

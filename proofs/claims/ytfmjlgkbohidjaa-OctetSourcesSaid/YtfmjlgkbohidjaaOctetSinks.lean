/- The law OctetSinks, walked. -/
import Derived.Test.YtfmjlgkbohidjaaOctetWords
import Derived.Deep.RegionHeld3
import Derived.Deep.DeepCutAuto
namespace Go.Proofs.Ytfmjlgkbohidjaa
open Go.RowKit
namespace Oct

theorem rText_any (s : ByteArray) (w : World) (hs : s.size ≤ 35184372088000) : Calls Try.prog 42 #[.string s] w (RetS w (textL s)) := by
  have hpl : (putL s.size 4).length ≤ 8 := by unfold putL; split <;> simp [be_length]
  go_enter Try.func42, Try.ntmps42
  go_wp2_with fail
  refine (rPut_any s.size (by omega) 4 _).mono ?_
  rintro e w1 ⟨b, rfl, hown1, hK1⟩
  have HO := Lib.hid hown1
  clear hown1
  go_wp2_with (at_builtin; refine wpList_appstr (base := w.heap.size) Try.underlying22 str9 i22 rfl _ _ rfl b ((putL s.size 4).map u8v) s rfl rfl HO.out (by simp; omega) hK1.size ?_; intro v' w2 ho2 hg2 hf2)
  rw [← List.map_append] at ho2
  go_ret
  exact ⟨_, rfl, ho2, hK1.grown hg2 (fun k hk => HO.out.base k hk)⟩

/-- what a word puts down -/
def putW (x : Word) : List UInt8 :=
  if x.kind = 0 then putL x.v x.k else if x.kind = 1 then (if fitsB x.n x.k then putL (unsV x.n x.k) x.k else []) else if x.kind = 2 then textL x.s else if x.kind = 3 then x.s.data.toList else []
def acc (l : List Word) : List UInt8 := l.flatMap putW

theorem putL_len (v : Nat) (k : Int) : (putL v k).length ≤ 8 := by
  unfold putL; split <;> simp [be_length, putB, okk] at * <;> omega
theorem textL_len (s : ByteArray) : (textL s).length ≤ 8 + s.size := by
  have := putL_len s.size 4
  simp [textL]; exact this
theorem putW_len (x : Word) (h : x.s.size ≤ 300) : (putW x).length ≤ 308 := by
  have h1 := putL_len x.v x.k
  have h2 := putL_len (unsV x.n x.k) x.k
  have h3 := textL_len x.s
  have h4 : x.s.data.toList.length = x.s.size := by simp
  unfold putW
  split
  · omega
  · split
    · split
      · omega
      · simp
    · split
      · omega
      · split
        · omega
        · simp
theorem acc_len (l : List Word) (h : ∀ x ∈ l, x.s.size ≤ 300) : (acc l).length ≤ 308 * l.length := by
  induction l with
  | nil => simp [acc]
  | cons x l ih =>
    have h1 := putW_len x (h x (by simp))
    have h2 := ih (fun y hy => h y (by simp [hy]))
    simp only [acc, List.flatMap_cons, List.length_append, List.length_cons] at *
    omega
theorem acc_take {l : List Word} {j : Nat} (h : j < l.length) : acc (l.take (j + 1)) = acc (l.take j) ++ putW l[j] := by
  unfold acc
  rw [List.take_succ_eq_append_getElem h, List.flatMap_append]
  simp

theorem word_cells {w : World} {g : Nat} {t : TypeId} {a b c d e : Value} (h : Blk w g t #[a, b, c, d, e]) : w.cell? ⟨g, 0, none⟩ = some a ∧ w.cell? ⟨g, 1, none⟩ = some b ∧ w.cell? ⟨g, 2, none⟩ = some c ∧ w.cell? ⟨g, 3, none⟩ = some d ∧ w.cell? ⟨g, 4, none⟩ = some e :=
  ⟨by rw [h.cell]; rfl, by rw [h.cell]; rfl, by rw [h.cell]; rfl, by rw [h.cell]; rfl, by rw [h.cell]; rfl⟩
/-- behind j words: the sink, and all -/
structure SinksRel (W w : World) (g : Nat) (vs va : Value) (a : List UInt8) : Prop where
  sink : SinkAt w g vs a
  own : Own w W.heap.size 5 va (a.map u8v)
  apart : ∀ x, va.ownBlock = some x → ¬ Fr g vs x
  base : ∀ x, Fr g vs x → W.heap.size ≤ x
  keeps : Keeps W w

theorem SinksRel.kept {W w w' : World} {g : Nat} {vs va : Value} {a : List UInt8} (h : SinksRel W w g vs va a) (k : Keeps w w') : SinksRel W w' g vs va a :=
  ⟨h.sink.keeps k, h.own.keeps k, h.apart, h.base, h.keeps.trans k⟩
/-- the sink's call -/
theorem SinksRel.did {W w w' : World} {g : Nat} {vs va vs' : Value} {a m : List UInt8} (h : SinksRel W w g vs va a) (hs : SinkAt w' g vs' m) (hm : Mods (Fr g vs) w w') (hf : Fresh w vs vs') :
    SinkAt w' g vs' m ∧ Own w' W.heap.size 5 va (a.map u8v) ∧ (∀ x, va.ownBlock = some x → ¬ Fr g vs' x) ∧ (∀ x, Fr g vs' x → W.heap.size ≤ x) ∧ Keeps W w' := by
  have hlt := h.own.block_lt
  refine ⟨hs, h.own.mods hm (fun x hx => h.apart x hx), ?_, ?_, hm.keeps h.keeps h.base⟩
  · rintro x hx (h1 | h1)
    · exact h.apart x hx (.inl h1)
    · rcases hf x h1 with h2 | h2
      · exact h.apart x hx (.inr h2)
      · have := hlt x hx; omega
  · rintro x (h1 | h1)
    · exact h.base x (.inl h1)
    · rcases hf x h1 with h2 | h2
      · exact h.base x (.inr h2)
      · have := h.keeps.size; omega
/-- .. and all's append -/
theorem SinksRel.grown {W w w' : World} {g : Nat} {vs va va' : Value} {a m : List UInt8} (h1 : SinkAt w g vs m) (_h2 : Own w W.heap.size 5 va (a.map u8v)) (h3 : ∀ x, va.ownBlock = some x → ¬ Fr g vs x) (h4 : ∀ x, Fr g vs x → W.heap.size ≤ x) (h5 : Keeps W w)
    (ho : Own w' W.heap.size 5 va' (m.map u8v)) (hg : w.grownBy w' va.ownBlock) (hf : Fresh w va va') : SinksRel W w' g vs va' m := by
  have hM : Mods (fun x => va.ownBlock = some x) w w' := (Mods.refl _ w).grown hg (fun k hk _ => hk)
  refine ⟨h1.mods hM (fun x hx hh => h3 x hh hx), ho, ?_, h4, hM.keeps h5 (fun x hx => _h2.base x hx)⟩
  intro x hx hfr
  rcases hf x hx with h | h
  · exact h3 x h hfr
  · have := h1.lt x hfr; omega

set_option maxRecDepth 100000 in
set_option maxHeartbeats 2000000 in
theorem octetSinks_walk (W : World) (v0 : Value) (l : List Word) (r0 : RowS W 5 v0 l.length (l.flatMap wordC)) (w0 : ∀ x ∈ l, wordOk x) :
    Calls Try.prog 6 #[v0] W fun e w' => e = .returned (.bool true) ∧ Keeps W w' := by
  have HS := Lib.hid (fun w k => some_any v0 l w (r0.keeps k))
  cases hsome : someB l
  · rw [hsome] at HS
    clear hsome w0
    obtain ⟨p, cap, rfl, -, -⟩ := r0.form
    clear r0
    go_enter Try.func6, Try.ntmps6
    go_wp2_with fail
    refine (awake_any _).mono ?_
    rintro e w1 ⟨rfl, hK1⟩
    go_wp2_with fail
    refine (HS.out _ hK1).mono ?_
    rintro e w2 ⟨rfl, rfl⟩
    go_wp2_with fail
    go_ret
    exact ⟨rfl, hK1⟩
  · have h60 : l.length ≤ 60 ∧ ∀ x ∈ l, x.s.size ≤ 300 := by simpa [someB] using hsome
    obtain ⟨h60, h300⟩ := h60
    rw [hsome] at HS
    clear hsome
    have HW := Lib.hid w0
    have H300 := Lib.hid h300
    clear w0 h300
    have bt := bstr_toList
    obtain ⟨p, cap, rfl, hc1, hc2⟩ := r0.form
    have HR := Lib.hid r0
    clear r0
    go_enter Try.func6, Try.ntmps6
    go_wp2_with fail
    refine (awake_any _).mono ?_
    rintro e w1 ⟨rfl, hK1⟩
    go_wp2_with fail
    refine (HS.out _ hK1).mono ?_
    rintro e w2 ⟨rfl, rfl⟩
    go_wp2_with fail
    refine (newSink_any _).mono ?_
    rintro e w2 ⟨g, rfl, hg, hS2, hK2⟩
    have hsz1 := hK1.size
    have hR0 : SinksRel W w2 g (.slice none 0 0) (.slice none 0 0) (acc (l.take 0)) := ⟨by simpa [acc] using hS2, by simpa [acc] using Own.nil _ _ _, by simp [Value.ownBlock], by rintro x (rfl | h); omega; simp [Value.ownBlock] at h, hK1.trans hK2⟩
    clear hS2 hK1 hK2
    go_wp2_with fail
    go_loopw [4, 5] (fun va i wr => ∃ (j : Nat) (vs : Value), j ≤ l.length ∧ i = .int .i64 j ∧ SinksRel W wr g vs va (acc (l.take j))) (fun _ i _ => l.length - (intOf i).toNat)
    case atStart => exact ⟨0, _, Nat.zero_le _, rfl, hR0⟩
    case round =>
      obtain ⟨j, vs, hj, rfl, hrel⟩ := hrel
      have HRel := Lib.hid hrel
      clear hrel hR0
      obtain ⟨pa, capa, rfl, hca1, hca2⟩ := HRel.out.own.row.formB
      by_cases hlt : j < l.length
      · obtain ⟨b, off, rfl, HC⟩ : ∃ b off, p = some ⟨b, off, none⟩ ∧ Hid (∀ i x, (l.flatMap wordC)[i]? = some x → W.cell? ⟨b, off + i, none⟩ = some x) := by
          obtain ⟨b, off, cap', hv, -, -, hcell⟩ := HR.out.at_ (by omega)
          simp only [Value.slice.injEq] at hv
          exact ⟨b, off, hv.1, hcell⟩
        have HA : Hid (acc (l.take (j + 1)) = acc (l.take j) ++ putW l[j]) := Lib.hid (acc_take hlt)
        have hcs : ∀ i u, i < 5 → (wordC l[j])[i]? = some u → wr.cell? ⟨b, off + j * 5 + i, none⟩ = some u := fun i u hi hu =>
          keep1 HRel.out.keeps (by rw [Nat.add_assoc]; exact HC.out _ _ (by rw [word_at hlt hi]; exact hu))
        have hmem : l[j] ∈ l := List.getElem_mem hlt
        have hx3 := H300.out _ hmem
        have hxo := HW.out _ hmem
        have hal : (acc (l.take j)).length ≤ 18480 := by
          have := acc_len (l.take j) (fun x hx => H300.out x (List.mem_of_mem_take hx))
          have h2 : (l.take j).length ≤ j := List.length_take_le _ _
          omega
        generalize l[j] = x at *
        obtain ⟨kind, k, n, v, s⟩ := x
        obtain ⟨-, -, hn, hv, -⟩ := hxo
        have hn' := i64_wf hn
        simp only at hx3 hv hn'
        have hc0 : wr.cell? ⟨b, off + j * 5, none⟩ = some (.int .i64 kind) := hcs 0 _ (by omega) rfl
        have hc1 : wr.cell? ⟨b, off + j * 5 + 1, none⟩ = some (.int .i64 k) := hcs 1 _ (by omega) rfl
        have hc2 : wr.cell? ⟨b, off + j * 5 + 2, none⟩ = some (.int .i64 n) := hcs 2 _ (by omega) rfl
        have hc3 : wr.cell? ⟨b, off + j * 5 + 3, none⟩ = some (.int .u64 v) := hcs 3 _ (by omega) rfl
        have hc4 : wr.cell? ⟨b, off + j * 5 + 4, none⟩ = some (.string s) := hcs 4 _ (by omega) rfl
        clear hcs hn hmem
        generalize acc (l.take j) = a at *
        by_cases h0 : kind = 0
        · subst h0
          have HP : Hid (putW ⟨0, k, n, v, s⟩ = putL v k) := Lib.hid rfl
          go_wp2_with fail
          generalize hWa : World.alloc wr _ = wa
          have hBx : Blk wa wr.heap.size 31 #[.int .i64 0, .int .i64 k, .int .i64 n, .int .u64 v, .string s] := by rw [← hWa]; exact Blk.new _ _ _ rfl
          have hKa : Keeps wr wa := by rw [← hWa]; exact (Keeps.refl _).alloc _
          have hR1 := HRel.out.kept hKa
          have hFlt : ∀ x, Fr g vs x → x < wr.heap.size := HRel.out.sink.lt
          have hsza := hKa.size
          clear hWa hc0 hc1 hc2 hc3 hc4
          refine (rPut_any v hv k _).mono ?_
          rintro e w2 ⟨b2, rfl, hown2, hK2⟩
          have hBx2 := hBx.keeps hK2
          have hR2 := hR1.kept hK2
          have hb2lt : ∀ x, b2.ownBlock = some x → ¬ Fr g vs x := fun x hx hf => by have := hown2.base x hx; have := hFlt x hf; omega
          obtain ⟨hb0, hb1, hb2, hb3, hb4⟩ := word_cells hBx2
          have HC2 := Lib.hid (sinkU_any g vs a v hv k w2 hR2.sink (by omega))
          have HBx2 := Lib.hid hBx2
          have HR2 := Lib.hid hR2
          have HO2 := Lib.hid hown2
          have hpl := putL_len v k
          clear hBx hBx2 hR1 hR2 hown2
          go_wp2_with fail
          refine HC2.out.mono ?_
          rintro e w3 ⟨vs3, rfl, hS3, hM3, hF3⟩
          obtain ⟨d1, d2, d3, d4, d5⟩ := HR2.out.did hS3 hM3 hF3
          have HRow3 := Lib.hid (HO2.out.mods hM3 hb2lt).row
          have HD2 := Lib.hid d2
          clear hb0 hb1 hb2 hb3 hb4 hS3
          go_wp2_with (at_builtin; refine wpList_app1 (base := W.heap.size) u8ok rfl _ _ rfl (.slice pa a.length capa) b2 (a.map u8v) ((putL v k).map u8v) rfl rfl HD2.out HRow3.out (oneCell_map_u8 _) (by simp; omega) (by omega) (d5.size) ?_; intro va4 w4 ho4 hg4 hf4; rw [← List.map_append] at ho4; have hR4 := SinksRel.grown d1 HD2.out d3 d4 d5 ho4 hg4 hf4; clear d1 d2 d3 d4 HD2 HRow3; obtain ⟨pa4, capa4, rfl, hca41, hca42⟩ := ho4.row.formB; have HC4 := Lib.hid (sinkLen_any g vs3 _ w4 hR4.sink); have HR4 := Lib.hid hR4; clear hR4 ho4)
          refine HC4.out.mono ?_
          rintro e w5 ⟨rfl, rfl⟩
          go_wp2_with fail
          go_roundw
          case rel => exact ⟨j + 1, vs3, by omega, by go_num, by rw [HA.out, HP.out]; have := HR4.out; rwa [List.length_append] at this⟩
          case measure => simp [intOf] <;> omega
        by_cases h1 : kind = 1
        · subst h1
          clear h0
          go_wp2_with fail
          generalize hWa : World.alloc wr _ = wa
          have hBx : Blk wa wr.heap.size 31 #[.int .i64 1, .int .i64 k, .int .i64 n, .int .u64 v, .string s] := by rw [← hWa]; exact Blk.new _ _ _ rfl
          have hKa : Keeps wr wa := by rw [← hWa]; exact (Keeps.refl _).alloc _
          have hR1 := HRel.out.kept hKa
          have hFlt : ∀ x, Fr g vs x → x < wr.heap.size := HRel.out.sink.lt
          have hsza := hKa.size
          clear hWa hc0 hc1 hc2 hc3 hc4
          obtain ⟨hb0, hb1, hb2, hb3, hb4⟩ := word_cells hBx
          refine (rFits_any n k hn' _).mono ?_
          rintro e w2 ⟨rfl, rfl⟩
          have HC2 := Lib.hid (sinkI_any g vs a n hn' k wa hR1.sink (by omega))
          have HBx := Lib.hid hBx
          have HR1 := Lib.hid hR1
          clear hBx hR1
          cases hf : fitsB n k
          · have HP : Hid (putW ⟨1, k, n, v, s⟩ = []) := Lib.hid (by simp [putW, hf])
            rw [hf, if_neg (by decide)] at HC2
            clear hf
            go_wp2_with fail
            refine HC2.out.mono ?_
            rintro e w3 ⟨vs3, rfl, hS3, hM3, hF3⟩
            obtain ⟨d1, d2, d3, d4, d5⟩ := HR1.out.did hS3 hM3 hF3
            have HR4 := Lib.hid (⟨d1, d2, d3, d4, d5⟩ : SinksRel W w3 g vs3 _ a)
            have HC4 := Lib.hid (sinkLen_any g vs3 _ w3 hS3)
            clear hb0 hb1 hb2 hb3 hb4 hS3 d1 d2 d3 d4
            go_wp2_with fail
            refine HC4.out.mono ?_
            rintro e w5 ⟨rfl, rfl⟩
            go_wp2_with fail
            go_roundw
            case rel => exact ⟨j + 1, vs3, by omega, by go_num, by rw [HA.out, HP.out, List.append_nil]; exact HR4.out⟩
            case measure => simp [intOf] <;> omega
          · have HP : Hid (putW ⟨1, k, n, v, s⟩ = putL (unsV n k) k) := Lib.hid (by simp [putW, hf])
            rw [hf, if_pos rfl] at HC2
            have HU := Lib.hid (fun w => rUnsigned_any n k hf w)
            have hul := (uns_put hf).2.2.2
            clear hf
            have hpl := putL_len (unsV n k) k
            generalize unsV n k = u at *
            go_wp2_with fail
            refine HC2.out.mono ?_
            rintro e w3 ⟨vs3, rfl, hS3, hM3, hF3⟩
            obtain ⟨d1, d2, d3, d4, d5⟩ := HR1.out.did hS3 hM3 hF3
            have HD2 := Lib.hid d2
            have hFr : ¬ Fr g vs wr.heap.size := fun h => Nat.lt_irrefl _ (hFlt _ h)
            obtain ⟨hb0, hb1, hb2, hb3, hb4⟩ := word_cells (HBx.out.mods hM3 hFr)
            clear hS3
            have hb1' := Lib.hid hb1
            have hb2' := Lib.hid hb2
            go_upto_region 22 with fail
            go_cut [10] (fun s10 wx => Own wx w3.heap.size 5 s10 ((putL u k).map u8v) ∧ Keeps w3 wx)
            case first =>
              go_region_held3 (fun w' => w'.cell? ⟨wr.heap.size, 1, none⟩ = some (.int .i64 k) ∧ w'.cell? ⟨wr.heap.size, 2, none⟩ = some (.int .i64 n)) (first | exact ⟨hb1'.out, hb2'.out⟩ | exact ⟨keep1 hK6 hb1'.out, keep1 hK6 hb2'.out⟩)
                (first | (go_at_call 40; refine (HU.out _).mono ?_; rintro e w' ⟨rfl, rfl⟩) | (go_at_call 28; refine (rPut_any u hul k _).mono ?_; rintro e w6 ⟨b2, rfl, hown2, hK6⟩))
              all_goals (go_wp2_with fail; go_meet; exact ⟨hown2, ((Keeps.refl _).drew).trans hK6⟩)
            case rest =>
            obtain ⟨hown2, hK36⟩ := hcut
            have d1' := d1.keeps hK36
            have HD2' := Lib.hid (HD2.out.keeps hK36)
            have d5' := d5.trans hK36
            have HRow3 := Lib.hid hown2.row
            clear hb0 hb1 hb2 hb3 hb4 d1 d2 HD2 d5 hown2
            rename SinkAt wc g vs3 _ => d1
            rename Hid (Own wc _ _ _ _) => HD2
            rename Keeps W wc => d5
            have d2 := trivial
            go_wp2_with (at_builtin; refine wpList_app1 (base := W.heap.size) u8ok rfl _ _ rfl (.slice pa a.length capa) u10 (a.map u8v) ((putL u k).map u8v) rfl rfl HD2.out HRow3.out (oneCell_map_u8 _) (by simp; omega) (by omega) (d5.size) ?_; intro va4 w4 ho4 hg4 hf4; rw [← List.map_append] at ho4; have hR4 := SinksRel.grown d1 HD2.out d3 d4 d5 ho4 hg4 hf4; clear d1 d2 d3 d4 HD2; obtain ⟨pa4, capa4, rfl, hca41, hca42⟩ := ho4.row.formB; have HC4 := Lib.hid (sinkLen_any g vs3 _ w4 hR4.sink); have HR4 := Lib.hid hR4; clear hR4 ho4)
            refine HC4.out.mono ?_
            rintro e w5 ⟨rfl, rfl⟩
            go_wp2_with fail
            go_roundw
            case rel => exact ⟨j + 1, vs3, by omega, by go_num, by rw [HA.out, HP.out]; have := HR4.out; rwa [List.length_append] at this⟩
            case measure => simp [intOf] <;> omega
        by_cases h2 : kind = 2
        · subst h2
          clear h0 h1
          have HP : Hid (putW ⟨2, k, n, v, s⟩ = textL s) := Lib.hid rfl
          go_wp2_with fail
          generalize hWa : World.alloc wr _ = wa
          have hBx : Blk wa wr.heap.size 31 #[.int .i64 2, .int .i64 k, .int .i64 n, .int .u64 v, .string s] := by rw [← hWa]; exact Blk.new _ _ _ rfl
          have hKa : Keeps wr wa := by rw [← hWa]; exact (Keeps.refl _).alloc _
          have hR1 := HRel.out.kept hKa
          have hFlt : ∀ x, Fr g vs x → x < wr.heap.size := HRel.out.sink.lt
          have hsza := hKa.size
          clear hWa hc0 hc1 hc2 hc3 hc4
          obtain ⟨hb0, hb1, hb2, hb3, hb4⟩ := word_cells hBx
          have HC2 := Lib.hid (sinkText_any g vs a s wa hR1.sink (by omega))
          have HBx := Lib.hid hBx
          have HR1 := Lib.hid hR1
          clear hBx hR1
          have hpl := textL_len s
          go_wp2_with fail
          refine HC2.out.mono ?_
          rintro e w3 ⟨vs3, rfl, hS3, hM3, hF3⟩
          obtain ⟨d1, d2, d3, d4, d5⟩ := HR1.out.did hS3 hM3 hF3
          have hFr : ¬ Fr g vs wr.heap.size := fun h => Nat.lt_irrefl _ (hFlt _ h)
          obtain ⟨hb0, hb1, hb2, hb3, hb4⟩ := word_cells (HBx.out.mods hM3 hFr)
          have HC3 := Lib.hid (rText_any s w3 (by omega))
          clear hS3
          go_wp2_with fail
          refine HC3.out.mono ?_
          rintro e w6 ⟨b2, rfl, hown2, hK36⟩
          have d1' := d1.keeps hK36
          have HD2' := Lib.hid (d2.keeps hK36)
          have d5' := d5.trans hK36
          have HRow3 := Lib.hid hown2.row
          clear hb0 hb1 hb2 hb3 hb4 d1 d2 d5 hown2
          rename SinkAt w6 g vs3 _ => d1
          rename Hid (Own w6 _ _ _ _) => HD2
          rename Keeps W w6 => d5
          have d2 := trivial
          go_wp2_with (at_builtin; refine wpList_app1 (base := W.heap.size) u8ok rfl _ _ rfl (.slice pa a.length capa) b2 (a.map u8v) ((textL s).map u8v) rfl rfl HD2.out HRow3.out (oneCell_map_u8 _) (by simp; omega) (by omega) (d5.size) ?_; intro va4 w4 ho4 hg4 hf4; rw [← List.map_append] at ho4; have hR4 := SinksRel.grown d1 HD2.out d3 d4 d5 ho4 hg4 hf4; clear d1 d2 d3 d4 HD2; obtain ⟨pa4, capa4, rfl, hca41, hca42⟩ := ho4.row.formB; have HC4 := Lib.hid (sinkLen_any g vs3 _ w4 hR4.sink); have HR4 := Lib.hid hR4; clear hR4 ho4)
          refine HC4.out.mono ?_
          rintro e w5 ⟨rfl, rfl⟩
          go_wp2_with fail
          go_roundw
          case rel => exact ⟨j + 1, vs3, by omega, by go_num, by rw [HA.out, HP.out]; have := HR4.out; rwa [List.length_append] at this⟩
          case measure => simp [intOf] <;> omega
        by_cases h3 : kind = 3
        · subst h3
          clear h0 h1 h2
          have HP : Hid (putW ⟨3, k, n, v, s⟩ = s.data.toList) := Lib.hid rfl
          go_wp2_with fail
          generalize hWa : World.alloc wr _ = wa
          have hBx : Blk wa wr.heap.size 31 #[.int .i64 3, .int .i64 k, .int .i64 n, .int .u64 v, .string s] := by rw [← hWa]; exact Blk.new _ _ _ rfl
          have hKa : Keeps wr wa := by rw [← hWa]; exact (Keeps.refl _).alloc _
          have hR1 := HRel.out.kept hKa
          have hFlt : ∀ x, Fr g vs x → x < wr.heap.size := HRel.out.sink.lt
          have hsza := hKa.size
          clear hWa hc0 hc1 hc2 hc3 hc4
          obtain ⟨hb0, hb1, hb2, hb3, hb4⟩ := word_cells hBx
          obtain ⟨c9, w9, hcv, hrow9, hK9⟩ := str_bytes (P := Try.prog) wa Try.underlying22 Try.underlying5 str9 s (by unfold maxLen; omega)
          have hlen9 : s.data.toList.length = s.size := by simp
          have HR9 := Lib.hid (hR1.kept hK9)
          have HC2 := Lib.hid (sinkRaw_any g vs a _ s.data.toList w9 HR9.out.sink hrow9 (by rw [hlen9]; omega))
          have HBx := Lib.hid (hBx.keeps hK9)
          have HLen9 := Lib.hid hlen9
          clear hBx hR1 hrow9 hlen9
          rw [hcv]
          go_wp2_with fail
          refine HC2.out.mono ?_
          rintro e w3 ⟨vs3, rfl, hS3, hM3, hF3⟩
          obtain ⟨d1, d2, d3, d4, d5⟩ := HR9.out.did hS3 hM3 hF3
          have hFr : ¬ Fr g vs wr.heap.size := fun h => Nat.lt_irrefl _ (hFlt _ h)
          have HD2 := Lib.hid d2
          clear hb0 hb1 hb2 hb3 hb4 hS3 hcv
          obtain ⟨hb0, hb1, hb2, hb3, hb4⟩ := word_cells (HBx.out.mods hM3 hFr)
          go_wp2_with (at_builtin; refine wpList_appstr (base := W.heap.size) Try.underlying22 str9 i22 rfl _ _ rfl (.slice pa a.length capa) (a.map u8v) s rfl rfl HD2.out (by simp; omega) (d5.size) ?_; intro va4 w4 ho4 hg4 hf4; rw [← List.map_append] at ho4; have hR4 := SinksRel.grown d1 HD2.out d3 d4 d5 ho4 hg4 hf4; clear d1 d2 d3 d4 HD2 hb0 hb1 hb2 hb3 hb4; obtain ⟨pa4, capa4, rfl, hca41, hca42⟩ := ho4.row.formB; have HC4 := Lib.hid (sinkLen_any g vs3 _ w4 hR4.sink); have HR4 := Lib.hid hR4; clear hR4 ho4)
          refine HC4.out.mono ?_
          rintro e w5 ⟨rfl, rfl⟩
          go_wp2_with fail
          go_roundw
          case rel => exact ⟨j + 1, vs3, by omega, by go_num, by rw [HA.out, HP.out]; have := HR4.out; rwa [List.length_append] at this⟩
          case measure => simp [intOf] <;> omega
        · have HP : Hid (putW ⟨kind, k, n, v, s⟩ = []) := Lib.hid (by simp [putW, h0, h1, h2, h3])
          have e0 : (kind == 0) = false := by simp [h0]
          have e1 : (kind == 1) = false := by simp [h1]
          have e2 : (kind == 2) = false := by simp [h2]
          have e3 : (kind == 3) = false := by simp [h3]
          clear h0 h1 h2 h3
          obtain ⟨wa, hWa⟩ : ∃ wa, wr.alloc (.cells #[.int .i64 kind, .int .i64 k, .int .i64 n, .int .u64 v, .string s] 31) = wa := ⟨_, rfl⟩
          have hBx : Blk wa wr.heap.size 31 #[.int .i64 kind, .int .i64 k, .int .i64 n, .int .u64 v, .string s] := by rw [← hWa]; exact Blk.new _ _ _ rfl
          have hKa : Keeps wr wa := by rw [← hWa]; exact (Keeps.refl _).alloc _
          have hR1 := HRel.out.kept hKa
          have hFlt : ∀ x, Fr g vs x → x < wr.heap.size := HRel.out.sink.lt
          have hsza := hKa.size
          have HC4 := Lib.hid (sinkLen_any g vs _ wa hR1.sink)
          have HR4 := Lib.hid hR1
          have HWa := Lib.hid hWa
          clear hBx hR1 hWa
          go_wp2_with fail
          rw [HWa.out]
          refine HC4.out.mono ?_
          rintro e w5 ⟨rfl, rfl⟩
          go_wp2_with fail
          go_roundw
          case rel => exact ⟨j + 1, vs, by omega, by go_num, by rw [HA.out, HP.out, List.append_nil]; exact HR4.out⟩
          case measure => simp [intOf] <;> omega
      · obtain rfl : j = l.length := by omega
        rw [List.take_length] at *
        have hst1 : ∀ w', Keeps wr w' → (convert 22 9 (.slice pa (acc l).length capa)).run Try.prog w' = .ok (.string (bstr (acc l))) w' := fun w' k => str_at (HRel.out.own.keeps k).row
        have hsd := hst1 _ ((Keeps.refl _).drew)
        have HST := Lib.hid hst1
        clear hst1
        have HC5 := Lib.hid (fun w k => sinkBytes_any g vs (acc l) w (HRel.out.sink.keeps k) (by have := acc_len l H300.out; omega))
        go_wp2_with fail
        go_region_with (go_at_call 38; refine (HC5.out _ ?_).mono ?_; exact (Keeps.refl _).drew; rintro e w5 ⟨b5, rfl, hown5, hK5⟩; have hs5 := str_at hown5.row; have hsA := HST.out w5 (((Keeps.refl _).drew).trans hK5); clear hown5)
        all_goals
          go_wp2_with fail
          go_ret
          exact ⟨rfl, HRel.out.keeps.trans (((Keeps.refl _).drew).trans hK5)⟩
end Oct
end Go.Proofs.Ytfmjlgkbohidjaa

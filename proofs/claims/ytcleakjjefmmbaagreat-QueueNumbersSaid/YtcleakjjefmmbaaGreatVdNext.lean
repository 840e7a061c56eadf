/- keepers.next: how many bytes of the next write are kept. -/
import Derived.Test.YtcleakjjefmmbaaGreatK25
import Derived.BigQuiet
namespace Go.Proofs.YtcleakjjefmmbaaGreat
open Go.RowKit
namespace Vd
open Go.Maps
theorem patM : Mids Tryz.prog 148 2 := ⟨⟨_, Tryz.underlying148, rfl⟩, by kernel_rfl⟩
def patA (p : Pat) : Array Value := #[.int .i64 (p.place : Int), .string (bstr p.b)]
theorem patA_one (p : Pat) : (patA p).all (·.oneCell') = true := by simp [patA, Value.oneCell']
theorem run_cut_str (l : Str) (n : Nat) (hn : n ≤ l.length) (w : World) : (Instr.slice 9 (.string (bstr l)) none (some (.int .i64 (n : Int))) none).run Tryz.prog w = .ok (.string (bstr (l.take n))) w := by
 rw [run_slice_string_to_if w 9 (bstr l) .i64 (n : Int) Tryz.underlying9, if_pos (by rw [bstr_size]; omega)]
 congr 2
 apply ByteArray.ext
 simp [bstr, ByteArray.data_extract]
def nKeep (ks : List Int) (p : Pat) : Nat := match ks with
 | [] => 0
 |a :: _ => (min (max a 0) (p.b.length : Int)).toNat
theorem keepN_eq (ks : List Int) (p : Pat) : keepN ks p = (⟨p.place, p.b.take (nKeep ks p)⟩, ks.tail) := by
 cases ks <;> simp [keepN, nKeep]
theorem nKeep_le (ks : List Int) (p : Pat) : nKeep ks p ≤ p.b.length := by
 cases ks
 ·exact Nat.zero_le _
 ·simp only [nKeep]
  omega
def NextDid (W : World) (kb : Nat) (kv : Value) (ks : List Int) (p : Pat) (e : Ending) (w' : World) : Prop := ∃ kv', e = .returned (.agg (patA (keepN ks p).1)) ∧ Blk w' kb 145 #[kv'] ∧ (∀ w2, Row w2 kv (ks.map (Value.int .i64)) → Row w2 kv' ((keepN ks p).2.map (Value.int .i64))) ∧ Mods (· = kb) W w'
set_option maxRecDepth 100000 in
set_option maxHeartbeats 4000000 in
theorem next_any (w : World) {kb : Nat} {kv : Value} {ks : List Int} (hB : Blk w kb 145 #[kv]) (hr : ∀ w', Mods (· = kb) w w' → Row w' kv (ks.map (Value.int .i64))) (p : Pat) (hp : p.b.length ≤ 1000000000) : Calls Tryz.prog 66 #[.pointer (some ⟨kb, 0, none⟩), .agg (patA p)] w (NextDid w kb kv ks p) := by
 have HB := Lib.hid hB
 have HR0 := Lib.hid hr
 obtain ⟨pk, ck, rfl, hkl, hkm⟩ := (hr w (Mods.refl _ _)).form
 rw [List.length_map] at *
 have hcut := run_cut_str p.b (nKeep ks p) (nKeep_le ks p)
 have hnl := nKeep_le ks p
 have HNK : Hid (∀ m, nKeep ks p = m ↔ nKeep ks p = m) := Lib.hid (fun _ => Iff.rfl)
 unfold NextDid
 rw [keepN_eq]
 obtain ⟨N, hN⟩ : ∃ N, N = nKeep ks p := ⟨_, rfl⟩
 rw [← hN] at hcut hnl ⊢
 have HN := Lib.hid hN
 clear hB hr hN HNK
 go_enter Tryz.func66, Tryz.ntmps66
 go_upto_region 1 with fail
 have HP := Lib.hid (show Blk ((w.alloc (.cells (patA p) 148)).alloc (.cells (patA ⟨0, []⟩) 148)) w.heap.size 148 (patA p) from (Blk.new _ _ _ rfl).alloc _)
 have HZ := Lib.hid (show Blk ((w.alloc (.cells (patA p) 148)).alloc (.cells (patA ⟨0, []⟩) 148)) (w.heap.size + 1) 148 (patA ⟨0, []⟩) from Blk.new _ _ _ (by rw [Frm.alloc_size]))
 have HK := Lib.hid (show Keeps w ((w.alloc (.cells (patA p) 148)).alloc (.cells (patA ⟨0, []⟩) 148)) from ((Keeps.refl _).alloc _).alloc _)
 change Code.wp _ _ _ _ ((w.alloc (.cells (patA p) 148)).alloc (.cells (patA ⟨0, []⟩) 148))
 generalize (w.alloc (.cells (patA p) 148)).alloc (.cells (patA ⟨0, []⟩) 148) = w1 at *
 have HKB := Lib.hid (show kb < w.heap.size from HB.out.lt)
 have HB1 := Lib.hid (HB.out.keeps HK.out)
 have hk0 : w1.cell? ⟨kb, 0, none⟩ = some (.slice pk ks.length ck) := by rw [HB1.out.cell]; rfl
 have hz0 : w1.frozen? ⟨kb, 0, none⟩ = false := HB1.out.frozen _
 obtain ⟨Q, hQ⟩ : ∃ Q, Q = w.heap.size := ⟨_, rfl⟩
 rw [← hQ] at HP HZ HKB ⊢
 have HQ := Lib.hid hQ
 clear hQ
 have hp1 : w1.cell? ⟨Q, 1, none⟩ = some (.string (bstr p.b)) := by rw [HP.out.cell]; rfl
 have hsz := bstr_size p.b
 obtain ⟨n', hn'⟩ : ∃ n', n' = ks.length := ⟨_, rfl⟩
 rw [← hn'] at hk0 hkl
 have HLN := Lib.hid hn'
 have hn2 : (n' : Int) ≤ 9223372036854775807 := by rw [hn']; unfold maxLen at hkm; omega
 clear hn'
 have hw10 : ∀ b, decide ((0 : Int) < (n' : Int)) = b → decide ((0 : Int) < (n' : Int)) = b := fun _ h => h
 clear hw10
 go_upto_if 10 with fail
 go_cut [5] (fun nv wx => nv = .int .i64 (N : Int) ∧ Hid (∃ kv', Blk wx kb 145 #[kv'] ∧ Mods (· = kb) w1 wx ∧ ∀ w2, Row w2 (.slice pk ks.length ck) (ks.map (Value.int .i64)) → Row w2 kv' (ks.tail.map (Value.int .i64))))
 case first =>
  cases ks with
  |nil =>
   have hN0 : N = 0 := by rw [HN.out]; rfl
   subst hN0
   have h0 : n' = 0 := HLN.out
   subst h0
   go_wp2_with fail
   go_meet
   exact ⟨rfl, Lib.hid ⟨_, HB1.out, Mods.refl _ _, fun _ h => h⟩⟩
  |cons a ks =>
   have HROW := Lib.hid (fun w2 (h : Row w2 (.slice pk (a :: ks).length ck) ((a :: ks).map (Value.int .i64))) => show Row w2 (cutv pk 1 (a :: ks).length ck) (ks.map (Value.int .i64)) from by
    have := h.cut (lo := 1) (hi := (a :: ks).length) (by simp) (by simp)
    simpa [List.take_of_length_le] using this)
   have hcutk : ∀ w', (Instr.slice 145 (.slice pk (a :: ks).length ck) (some (.int .i64 1)) none none).run Tryz.prog w' = .ok (cutv pk 1 (a :: ks).length ck) w' := fun w' => run_cut_l w' Tryz.underlying145 (by intro w; kernel_rfl) pk (a :: ks).length ck 1 (by simp)
   have HNN : Hid (N = (min (max a 0) (p.b.length : Int)).toNat) := Lib.hid HN.out
   obtain ⟨bk, ok, rfl, hka⟩ : ∃ bk ok, pk = some ⟨bk, ok, none⟩ ∧ w1.cell? ⟨bk, ok, none⟩ = some (.int .i64 a) := by
    rcases HR0.out w1 (Mods.of_keeps HK.out) with ⟨a0, cap', hv, hl, -, -⟩ | ⟨b, off, cap', hv, -, -, hc⟩
    ·simp at hl
    ·simp only [Value.slice.injEq] at hv
     obtain ⟨rfl, -, rfl⟩ := hv
     exact ⟨b, off, rfl, hc 0 _ rfl⟩
   have hn1 : 0 < n' := by rw [HLN.out]; simp
   rw [← HLN.out] at hcutk HROW
   unfold cutv at hcutk HROW
   generalize hpk' : (if ck = 1 then some (⟨bk, ok, none⟩ : Addr) else (some (⟨bk, ok, none⟩ : Addr)).map (·.add 1)) = pk' at *
   have HPK := Lib.hid hpk'
   clear hpk' HN
   obtain ⟨L, hL⟩ : ∃ L, L = (bstr p.b).size := ⟨_, rfl⟩
   have hLb : L ≤ 1000000000 := by rw [hL, hsz]; exact hp
   have HL := Lib.hid (show L = p.b.length from by rw [hL, hsz])
   clear hsz
   have hz0' : w1.frozen? ⟨kb, 0, none⟩ = false := HB1.out.frozen _
   by_cases h1 : a < 0
   ·have HV := Lib.hid (show (if ((bstr p.b).size : Int) < 0 then ((bstr p.b).size : Int) else 0) = (N : Int) from by
     have h1 := HNN.out
     have h2 := HL.out
     rw [← hL, h2]
     split <;> omega)
    clear HNN hL
    go_upto_region 3 with fail
    refine wp_region_noPanic ?_
    refine wp_region_held_drew (S := fun w' => Keeps (w1) w') (by kernel_rfl) ((Keeps.refl _).drew) (fun _ => ?_)
    have hHeld : Keeps (w1) (w1).drew := (Keeps.refl _).drew
    refine tq 0 11 ?_
    refine tq 1 12 ?_
    refine tq 2 13 ?_ (hy := fun w' hSw => by
     have hSw : Keeps _ w' := hSw
     have hx := keep1 hSw hk0
     clear hSw
     go_simp
     try with_reducible rfl)
    refine tq 3 14 ?_
    refine tq 4 15 ?_ (hy := fun w' hSw => by
     have hSw : Keeps _ w' := hSw
     have hx := keep1 hSw hka
     clear hSw
     go_simp
     try with_reducible rfl)
    refine tq 5 16 ?_
    refine tq 6 17 ?_
    refine tq 7 18 ?_ (hy := fun w' hSw => by
     have hSw : Keeps _ w' := hSw
     have hx := keep1 hSw hp1
     clear hSw
     go_simp
     try with_reducible rfl)
    refine tq 8 19 ?_
    refine tq 9 20 ?_
    refine tq 10 5 ?_
    refine wpAnyH_done (by kernel_rfl) ?_ _
    refine NoPanic.normal ?_
    rw [HV.out]
    have HK2 := Lib.hid (show Keeps w1 w1.drew from (Keeps.refl w1).drew)
    have HB2 := Lib.hid (HB1.out.keeps HK2.out)
    have hk2 : w1.drew.cell? ⟨kb, 0, none⟩ = some (.slice (some ⟨bk, ok, none⟩) n' ck) := keep1 HK2.out hk0
    have hz2 : w1.drew.frozen? ⟨kb, 0, none⟩ = false := HB2.out.frozen _
    generalize w1.drew = w2 at *
    go_wp2_with fail
    go_meet
    exact ⟨rfl, Lib.hid ⟨_, HB2.out.set_ 0 _, (Mods.of_keeps (S := (· = kb)) HK2.out).setCell (p := ⟨kb, 0, none⟩) (fun _ => rfl) _, fun w2 h => by
     have := HROW.out w2 (by rw [HLN.out]; exact h)
     exact this⟩⟩
   ·have HV := Lib.hid (show (if ((bstr p.b).size : Int) < a then ((bstr p.b).size : Int) else a) = (N : Int) from by
     have h1 := HNN.out
     have h2 := HL.out
     rw [← hL, h2]
     split <;> omega)
    clear HNN hL
    go_upto_region 3 with fail
    refine wp_region_noPanic ?_
    refine wp_region_held_drew (S := fun w' => Keeps (w1) w') (by kernel_rfl) ((Keeps.refl _).drew) (fun _ => ?_)
    have hHeld : Keeps (w1) (w1).drew := (Keeps.refl _).drew
    refine tq 0 11 ?_
    refine tq 1 12 ?_
    refine tq 2 13 ?_ (hy := fun w' hSw => by
     have hSw : Keeps _ w' := hSw
     have hx := keep1 hSw hk0
     clear hSw
     go_simp
     try with_reducible rfl)
    refine tq 3 14 ?_
    refine tq 4 15 ?_ (hy := fun w' hSw => by
     have hSw : Keeps _ w' := hSw
     have hx := keep1 hSw hka
     clear hSw
     go_simp
     try with_reducible rfl)
    refine tq 5 16 ?_
    refine tq 6 17 ?_
    refine tq 7 18 ?_ (hy := fun w' hSw => by
     have hSw : Keeps _ w' := hSw
     have hx := keep1 hSw hp1
     clear hSw
     go_simp
     try with_reducible rfl)
    refine tq 8 19 ?_
    refine tq 9 20 ?_
    refine tq 10 5 ?_
    refine wpAnyH_done (by kernel_rfl) ?_ _
    refine NoPanic.normal ?_
    rw [HV.out]
    have HK2 := Lib.hid (show Keeps w1 w1.drew from (Keeps.refl w1).drew)
    have HB2 := Lib.hid (HB1.out.keeps HK2.out)
    have hk2 : w1.drew.cell? ⟨kb, 0, none⟩ = some (.slice (some ⟨bk, ok, none⟩) n' ck) := keep1 HK2.out hk0
    have hz2 : w1.drew.frozen? ⟨kb, 0, none⟩ = false := HB2.out.frozen _
    generalize w1.drew = w2 at *
    go_wp2_with fail
    go_meet
    exact ⟨rfl, Lib.hid ⟨_, HB2.out.set_ 0 _, (Mods.of_keeps (S := (· = kb)) HK2.out).setCell (p := ⟨kb, 0, none⟩) (fun _ => rfl) _, fun w2 h => by
     have := HROW.out w2 (by rw [HLN.out]; exact h)
     exact this⟩⟩
 case rest =>
 obtain ⟨rfl, HC⟩ := hcut
 obtain ⟨w2, rfl⟩ : ∃ z : World, z = wc := ⟨_, rfl⟩
 obtain ⟨kv', hkb, hm2, hrow⟩ := HC.out
 have HNQ := Lib.hid (show Q ≠ kb ∧ Q + 1 ≠ kb from by have := HKB.out; omega)
 have HP2 := Lib.hid (HP.out.mods hm2 HNQ.out.1)
 have HZ2 := Lib.hid (HZ.out.mods hm2 HNQ.out.2)
 have HF := Lib.hid (And.intro hkb (And.intro hm2 hrow))
 have p0 : w2.cell? ⟨Q, 0, none⟩ = some (.int .i64 (p.place : Int)) := by rw [HP2.out.cell]; rfl
 have p1 : w2.cell? ⟨Q, 1, none⟩ = some (.string (bstr p.b)) := by rw [HP2.out.cell]; rfl
 clear hkb hm2 hrow HC hk0 hz0 hp1 hsz
 have HZx := Lib.hid HZ2.out.drew
 have HSZ := Lib.hid (show Mods (fun y => y = kb) w w2 from (Mods.of_keeps HK.out).trans HF.out.2.1 (fun y hy _ => hy))
 have HQW := Lib.hid (show w.heap.size ≤ Q + 1 from by have := HQ.out; omega)
 go_upto_region 5 with fail
 refine wp_region_noPanic ?_
 refine wp_region_held_drew (S := fun w' => Mods (· = Q + 1) w2 w') (by kernel_rfl) ((Mods.refl (· = Q + 1) w2).drew) (fun _ => ?_)
 have hHeld : Mods (· = Q + 1) w2 (w2).drew := (Mods.refl (· = Q + 1) w2).drew
 generalize World.drew w2 = xs at *
 refine tq 0 27 ?_
 refine tq 1 28 ?_ (hy := fun w' hSw => by
  have hSw : Mods (· = Q + 1) w2 w' := hSw
  have hx : w'.cell? ⟨Q, 0, none⟩ = some (.int .i64 (p.place : Int)) := by rw [(HP2.out.mods hSw (by omega)).cell]; rfl
  clear hSw
  go_simp
  try with_reducible rfl)
 refine tq 2 29 ?_
 refine tq 3 30 ?_ (hy := fun w' hSw => by
  have hSw : Mods (· = Q + 1) w2 w' := hSw
  have hx : w'.cell? ⟨Q, 1, none⟩ = some (.string (bstr p.b)) := by rw [(HP2.out.mods hSw (by omega)).cell]; rfl
  clear hSw
  go_simp
  try with_reducible rfl)
 refine tq 4 31 ?_
 refine tq 5 32 ?_ (hy := fun w' hSw => by
  have hSw : Mods (· = Q + 1) w2 w' := hSw
  have hx := hcut w'
  clear hSw
  go_simp
  try with_reducible rfl)
 refine tq 6 33 ?_
 refine rd1 7 (fun K hK => ?_)
 refine step_st (ds := patA ⟨p.place, p.b.take N⟩) rfl patM HZx.out rfl (patA_one _) _ _ rfl rfl rfl rfl ?_
 intro yF hBF hMF
 have hb := hHeld.trans hMF (fun x h _ => h)
 have HLd := Lib.hid (ld_run (P := Tryz.prog) patM hBF)
 clear hBF hMF
 refine bkm hK hb ?_
 clear hK K hHeld
 have hHeld : Mods (· = Q + 1) w2 yF := hb
 clear hb
 refine wpAnyH_done (by kernel_rfl) ?_ _
 refine NoPanic.normal ?_
 go_wp2_with fail
 have hkb := HF.out.1.mods hHeld (fun e => HNQ.out.2 e.symm)
 have hmm : Mods (fun y => y = kb) w yF := HSZ.out.trans hHeld (fun y hy hlt => by have := HQW.out; omega)
 exact bodyPost_ret (v := .agg (patA ⟨p.place, p.b.take N⟩)) (by simp [results, Tryz.results66, Sem.run_bind, Sem.run_pure, Result.andThen_ok, Act.put, asAddr, HLd.out]) rfl ⟨_, rfl, hkb, HF.out.2.2, hmm⟩
end Vd
end Go.Proofs.YtcleakjjefmmbaaGreat

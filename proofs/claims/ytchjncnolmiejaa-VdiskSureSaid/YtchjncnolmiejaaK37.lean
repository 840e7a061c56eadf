/- Several texts in one: RfUsed, RfWith, RfWrite. -/
import Derived.Test.YtchjncnolmiejaaK36
/- The document's disk: Used. -/
namespace Go.Proofs.Ytchjncnolmiejaa
open Go.RowKit
namespace Rf
open Vd
theorem zip_get {α β : Type} {l : List α} {r : List β} (h : r.length = l.length) {i : Nat} (hi : i < l.length) : (l.zip r)[i]? = some (l[i], r[i]'(by omega)) := by
  rw [List.getElem?_eq_getElem (by rw [List.length_zip]; omega), List.getElem_zip]
section
variable {w : World} {M : Nat → Prop} {m : Nat} {fv nv sv wv : Value} {fw : List Value} {d : RDsk} {k : Nat}
/-- a file's three cells -/
theorem RefIn.file (h : RefIn w M m fv nv sv wv fw d k) {i : Nat} (hi : i < d.files.length) : ∃ b off cap, fv = .slice (some ⟨b, off, none⟩) d.files.length cap ∧ w.rangeAt b (off + i * 3) [.string (bstr d.files[i].now), .string (bstr d.files[i].sure), fw[i]'(by rw [h.len]; exact hi)] := by
  obtain ⟨b, off, cap, hv, -, -, hc⟩ := RowS.at_ (rowS_of h.files) (by omega)
  refine ⟨b, off, cap, hv, fun j x hx => ?_⟩
  have hj : j < 3 := by
    have := (List.getElem?_eq_some_iff.1 hx).1
    simpa using this
  rw [Nat.add_assoc]
  refine hc.out (i * 3 + j) x ?_
  rw [flat_get filC_len (d.files.zip fw) i j _ (zip_get h.len hi) hj]
  exact hx
def fLen (files : List RFil) (i : Nat) : Nat := ((files[i]?).map (·.now.length)).getD 0
theorem bytes_take {files : List RFil} {l : Nms} {j : Nat} (h : j < l.length) : bytesR files (l.take (j + 1)) = bytesR files (l.take j) + fLen files l[j].2 := by
  unfold bytesR fLen
  rw [List.take_succ_eq_append_getElem h, List.map_append, List.sum_append]
  simp
theorem bytes_le {files : List RFil} (hb : ∀ x ∈ files, x.now.length ≤ 1000000000) : ∀ l : Nms, bytesR files l ≤ l.length * 1000000000
  | [] => by simp [bytesR]
  | p :: l => by
    have ih := bytes_le hb l
    have : bytesR files (p :: l) = fLen files p.2 + bytesR files l := by simp [bytesR, fLen]
    have hf : fLen files p.2 ≤ 1000000000 := by
      unfold fLen
      cases h : files[p.2]? with
      | none => simp
      | some x => exact hb x (List.mem_of_getElem? h)
    rw [this, List.length_cons]
    omega
set_option maxRecDepth 100000 in
set_option maxHeartbeats 2000000 in
theorem used_r (h : RefAt w M m d k) (hk : k ≤ 1000000) : Calls Try.prog 155 #[.pointer (some ⟨m, 0, none⟩)] w fun e w' => e = .returned (.int .i64 (usedR d : Int)) ∧ Keeps w w' := by
  obtain ⟨fv, nv, sv, wv, fw, h⟩ := h
  have H := Lib.hid h
  obtain ⟨c0, c1, -⟩ := h.cells
  obtain ⟨pn, cn, rfl, hn1, -⟩ := Frm.ownsRow_form h.now
  obtain ⟨pf, cf, rfl, -, -⟩ := Frm.ownsRow_form h.files
  have hbl := bytes_le (fun x hx => (h.fit.b x hx).1)
  have HBL := Lib.hid hbl
  have hnk : d.now.length ≤ 1000000 := Nat.le_trans h.fit.n hk
  clear h hbl
  obtain ⟨n, hn⟩ : ∃ n, n = d.now.length := ⟨_, rfl⟩
  rw [← hn] at hn1 hnk
  have HN := Lib.hid hn
  rw [← hn] at c1
  clear hn
  have HC0 := Lib.hid c0
  have HC1 := Lib.hid c1
  clear c0 c1
  go_enter Try.func155, Try.ntmps155
  go_wp2_with fail
  go_loopw [3, 4] (fun sx ix wr => ∃ j : Nat, ix = .int .i64 (j : Int) ∧ j ≤ n ∧ sx = .int .i64 (bytesR d.files (d.now.take j) : Int) ∧ Hid (Keeps w wr)) (fun _ ix _ => n - (RowKit.intOf ix).toNat)
  case atStart => exact ⟨0, rfl, Nat.zero_le _, by simp [bytesR], Lib.hid (Keeps.refl _)⟩
  case round =>
    obtain ⟨j, rfl, hj, rfl, HK⟩ := hrel
    have c1 := keep1 HK.out HC1.out
    by_cases hlt : j < n
    · have hjl : j < d.now.length := by rw [← HN.out]; exact hlt
      have HI := Lib.hid (H.out.apart (T := fun _ => False) (Mods.of_keeps HK.out) (fun _ _ h => h))
      obtain ⟨b, off, cap, hv, -, -, hc3⟩ := NmsAt.one (NmsOwn.at_ HI.out.now) hjl
      rw [← HN.out] at hv
      simp only [Value.slice.injEq] at hv
      obtain ⟨rfl, -, rfl⟩ := hv
      have hip := H.out.fit.is _ (List.getElem_mem hjl)
      obtain ⟨bf, of, cf', hvf, hrg⟩ := HI.out.file hip
      simp only [Value.slice.injEq] at hvf
      obtain ⟨rfl, -, rfl⟩ := hvf
      have hf0 := hrg 0 _ rfl
      rw [Nat.add_zero] at hf0
      have hsum := bytes_take (files := d.files) hjl
      have hfl : fLen d.files d.now[j].2 = d.files[d.now[j].2].now.length := by unfold fLen; rw [List.getElem?_eq_getElem hip]; rfl
      rw [hfl] at hsum
      have hle := HBL.out (d.now.take (j + 1))
      rw [List.length_take] at hle
      have hlt' : (j : Int) < (n : Int) := by omega
      have c0 := keep1 HK.out HC0.out
      have hsz := bstr_size d.files[d.now[j].2].now
      have hzn : (d.files[d.now[j].2].now.length) ≤ 1000000000 := (H.out.fit.b _ (List.getElem_mem hip)).1
      have hfn : d.files.length ≤ 1000000 := Nat.le_trans H.out.fit.f hk
      have HSUM := Lib.hid hsum
      generalize d.files[d.now[j].2].now = y at *
      generalize d.now[j].2 = i at *
      obtain ⟨F, hF⟩ : ∃ F, F = d.files.length := ⟨_, rfl⟩
      rw [← hF] at c0 hip hfn
      have hi1 : (i : Int) < (F : Int) := by omega
      obtain ⟨s0, hs0⟩ : ∃ s0, s0 = bytesR d.files (d.now.take j) := ⟨_, rfl⟩
      rw [← hs0] at hsum ⊢
      have HS0 := Lib.hid hs0
      have hw : IntKind.i64.wrap ((s0 : Int) + (y.length : Int)) = ((s0 + y.length : Nat) : Int) := by rw [IntKind.wrap_i64]; omega
      clear hrg hfl hs0 hF hle hsum
      go_upto_region 5 with fail
      go_quiet (fail)
      go_wp2_with fail
      go_roundw
      case rel => exact ⟨j + 1, by simp, by omega, by rw [HSUM.out, ← HS0.out]; simp, Lib.hid (by simpa using HK.out.drewN nq)⟩
      case measure =>
        simp only [RowKit.intOf]
        omega
    · have hjn : j = n := by omega
      have hlt' : decide ((j : Int) < (n : Int)) = false := by simp; omega
      have HX := Lib.hid (show bytesR d.files (d.now.take j) = usedR d from by rw [hjn, HN.out, List.take_length]; rfl)
      clear hjn
      go_wp2_with fail
      go_ret
      exact ⟨by rw [← HX.out]; rfl, HK.out⟩
end
end Rf
end Go.Proofs.Ytchjncnolmiejaa

/- The document's disk: with. -/
namespace Go.Proofs.Ytchjncnolmiejaa
open Go.RowKit
namespace Rf
open Vd
theorem filM : Mids Try.prog 117 3 := ⟨⟨_, Try.underlying117, rfl⟩, by kernel_rfl⟩
theorem set_parts {α : Type} : ∀ (l : List α) (i : Nat) (x : α), i < l.length → l.take i ++ [x] ++ l.drop (i + 1) = l.set i x
  | [], i, x, h => by simp at h
  | a :: l, 0, x, _ => by simp
  | a :: l, i + 1, x, h => by
    have := set_parts l i x (by simpa using h)
    simp at this
    simp [this]
theorem zip_set {α β : Type} : ∀ (l : List α) (r : List β) (i : Nat) (x : α) (y : β), (l.zip r).set i (x, y) = (l.set i x).zip (r.set i y)
  | [], r, i, x, y => by simp
  | a :: l, [], i, x, y => by simp
  | a :: l, b :: r, 0, x, y => by simp
  | a :: l, b :: r, i + 1, x, y => by simp [zip_set l r i x y]
def filA (f : RFil) (v : Value) : Array Value := #[.string (bstr f.now), .string (bstr f.sure), v]
def setR (d : RDsk) (i : Nat) (f : RFil) : RDsk := { d with files := d.files.set i f }
section
variable {w : World} {M : Nat → Prop} {m : Nat} {d : RDsk} {k : Nat}
set_option maxRecDepth 100000 in
set_option maxHeartbeats 4000000 in
theorem with_r (h : RefAt w M m d k) (hk : k ≤ 1000000) {i : Nat} (hi : i < d.files.length) (f : RFil) (vw : Value) (hvw : w.ownsRow 0 184 2 vw f.waits.length (f.waits.flatMap wrC)) (hM : ∀ y, vw.ownBlock = some y → M y) (hf : RFit (setR d i f) k) : Calls Try.prog 115 #[.pointer (some ⟨m, 0, none⟩), .int .i64 (i : Int), .agg (filA f vw)] w fun e w' => e = .returned (.tuple #[]) ∧ RefAt w' (More M w w') m (setR d i f) k ∧ Mods (· = m) w w' := by
  obtain ⟨fv, nv, sv, wv, fw, h⟩ := h
  have H := Lib.hid h
  have HF := Lib.hid hf
  have HVW := Lib.hid hvw
  have HMM := Lib.hid hM
  have hfl : d.files.length ≤ 1000000 := Nat.le_trans h.fit.f hk
  obtain ⟨pf, cf, rfl, hcf, -⟩ := Frm.ownsRow_form h.files
  obtain ⟨pv, cv, rfl, -, -⟩ := Frm.ownsRow_form hvw
  have HZL := Lib.hid (show (d.files.zip fw).length = d.files.length from by rw [List.length_zip, h.len]; omega)
  have HON := Lib.hid h.one
  obtain ⟨nw, nws⟩ : ∃ n, n = f.waits.length := ⟨_, rfl⟩
  have HNWS := Lib.hid nws
  rw [← nws]
  clear h hf hvw hM nws
  obtain ⟨n, hn⟩ : ∃ n, n = d.files.length := ⟨_, rfl⟩
  have HN := Lib.hid hn
  have HFL := Lib.hid (show w.ownsRow 0 117 3 (.slice pf n cf) n ((d.files.zip fw).flatMap filC) from by rw [hn]; exact H.out.files)
  have HBL := Lib.hid (show Blk w m 113 (rdA d (.slice pf n cf) nv sv wv) from by rw [hn]; exact H.out.blk)
  rw [← hn] at hfl hi hcf
  rw [← hn] at HZL
  clear hn
  have hc1 : ∀ w', (Instr.slice 109 (.slice pf n cf) none (some (.int .i64 (i : Int))) none).run Try.prog w' = .ok (cutS 3 pf 0 i cf) w' := fun w' => run_cutS_h w' Try.underlying109 (by intro w; kernel_rfl) pf n cf i (by omega)
  have hc2 : ∀ w', (Instr.slice 109 (.slice pf n cf) (some (.int .i64 ((i : Int) + 1))) none none).run Try.prog w' = .ok (cutS 3 pf (i + 1) n cf) w' := fun w' => by
    rw [show ((i : Int) + 1) = ((i + 1 : Nat) : Int) from by omega]
    exact run_cutS_l w' Try.underlying109 (by intro w; kernel_rfl) pf n cf (i + 1) hi
  have HRS := Lib.hid (fun w' (kw : Keeps w w') => show RowS w' 3 (.slice pf (d.files.zip fw).length cf) (d.files.zip fw).length ((d.files.zip fw).flatMap filC) from by rw [HZL.out]; exact rowS_of (Frm.ownsRow_keeps HFL.out kw))
  have HP1 := Lib.hid (fun w' (kw : Keeps w w') => show RowS w' 3 (cutS 3 pf 0 i cf) i (((d.files.zip fw).take i).flatMap filC) from by
    have := RowS.part filC_len (HRS.out w' kw) (Nat.zero_le i) (by rw [HZL.out]; omega)
    simpa using this)
  have HP2 := Lib.hid (fun w' (kw : Keeps w w') => show RowS w' 3 (cutS 3 pf (i + 1) n cf) (n - (i + 1)) (((d.files.zip fw).drop (i + 1)).flatMap filC) from by
    have := RowS.part filC_len (HRS.out w' kw) (lo := i + 1) (hi := (d.files.zip fw).length) (by rw [HZL.out]; omega) (Nat.le_refl _)
    rw [List.take_of_length_le (by simp)] at this
    rw [HZL.out] at this
    exact this)
  obtain ⟨pa, hpa⟩ := cutS_sl 3 pf 0 i cf
  obtain ⟨pb, hpb⟩ := cutS_sl 3 pf (i + 1) n cf
  rw [hpa] at hc1 HP1
  rw [hpb] at hc2 HP2
  rw [Nat.sub_zero, Nat.sub_zero] at hc1 HP1
  clear hpa hpb
  have HO1 := Lib.hid (show (∀ p ∈ (d.files.zip fw).take i, p.2.oneCell' = true) ∧ (∀ p ∈ (d.files.zip fw).drop (i + 1), p.2.oneCell' = true) from ⟨fun p hp => HON.out p (List.mem_of_mem_take hp), fun p hp => HON.out p (List.mem_of_mem_drop hp)⟩)
  obtain ⟨nowb, hnow⟩ : ∃ s, s = bstr f.now := ⟨_, rfl⟩
  obtain ⟨sureb, hsure⟩ : ∃ s, s = bstr f.sure := ⟨_, rfl⟩
  have HBS := Lib.hid (And.intro hnow hsure)
  unfold filA
  rw [← hnow, ← hsure]
  clear hnow hsure
  go_enter Try.func115, Try.ntmps115
  go_upto_region 1 with fail
  generalize hW : World.alloc w _ = w1
  have HK1 := Lib.hid (show Keeps w w1 from by rw [← hW]; exact (Keeps.refl _).alloc _)
  have HB := Lib.hid (show Blk w1 w.heap.size 117 #[.string nowb, .string sureb, .slice pv nw cv] from by rw [← hW]; exact Blk.new _ _ _ rfl)
  clear hW
  obtain ⟨q, hq⟩ : ∃ q, q = w.heap.size := ⟨_, rfl⟩
  rw [← hq] at HB ⊢
  have HQ := Lib.hid hq
  clear hq
  have HB1 := Lib.hid (HBL.out.keeps HK1.out)
  have c0 : w1.cell? ⟨m, 0, none⟩ = some (.slice pf n cf) := by rw [HB1.out.cell]; rfl
  go_upto_region 3 with (at_builtin; go_loud (refine wpList_apps (base := w1.heap.size) filok (by decide) rfl _ _ rfl (.slice none 0 0) (.slice pa i (cf - 0)) 0 i [] (((d.files.zip fw).take i).flatMap filC) rfl rfl (World.ownsRow_nil _ _ _ 3) (HP1.out _ HK1.out) (filC_flat HO1.out.1) (by omega) (by decide) (Nat.le_refl _) ?_; intro v4 w4 ho4 hg4 hf4; obtain ⟨p4, c4, rfl, -, -⟩ := Frm.ownsRow_form ho4))
  have HO4 := Lib.hid (show w4.ownsRow w1.heap.size 117 3 (.slice p4 i c4) i (((d.files.zip fw).take i).flatMap filC) from by simpa using ho4)
  have HK4 := Lib.hid (show Keeps w1 w4 from (Keeps.refl w1).grown hg4 (fun k hk => by simp [Value.ownBlock] at hk))
  have HB4 := Lib.hid (show Blk w4 q 117 #[.string nowb, .string sureb, .slice pv nw cv] from HB.out.keeps HK4.out)
  have hs4 := HK4.out.size
  clear ho4 hg4 hf4 c0
  go_upto_region 4 with (first
    | refine wpList_ld rfl filM HB4.out _ rfl rfl ?_
    | (at_builtin; go_loud (refine wpList_apps (base := w1.heap.size) filok (by decide) rfl _ _ rfl (.slice p4 i c4) (.slice (some ⟨w4.heap.size, 0, none⟩) 1 1) i 1 (((d.files.zip fw).take i).flatMap filC) [.string nowb, .string sureb, .slice pv nw cv] rfl rfl (Frm.ownsRow_keeps HO4.out ((Keeps.refl _).alloc _)) (Frm.rowS_lit rfl rfl rfl) (by simp [Value.oneCell']) (by omega) (by decide) (by rw [Frm.alloc_size]; omega) ?_; intro v5 w5 ho5 hg5 hf5; obtain ⟨p5, c5, rfl, -, -⟩ := Frm.ownsRow_form ho5)))
  have HO5 := Lib.hid ho5
  have HK5 := Lib.hid (show Keeps w1 w5 from (HK4.out.alloc _).grown hg5 (Frm.ownsRow_base HO4.out))
  have hs5 := HK5.out.size
  have HB5 := Lib.hid (HB1.out.keeps HK5.out)
  have c0 : w5.cell? ⟨m, 0, none⟩ = some (.slice pf n cf) := by rw [HB5.out.cell]; rfl
  clear ho5 hg5 hf5 hc1
  go_wp2_with (at_builtin; go_loud (refine wpList_apps (base := w1.heap.size) filok (by decide) rfl _ _ rfl (.slice p5 (i + 1) c5) (.slice pb (n - (i + 1)) (cf - (i + 1))) (i + 1) (n - (i + 1)) (((d.files.zip fw).take i).flatMap filC ++ [.string nowb, .string sureb, .slice pv nw cv]) (((d.files.zip fw).drop (i + 1)).flatMap filC) rfl rfl HO5.out (HP2.out _ (HK1.out.trans HK5.out)) (filC_flat HO1.out.2) (by omega) (by decide) hs5 ?_; intro v6 w6 ho6 hg6 hf6; obtain ⟨p6, c6, rfl, -, -⟩ := Frm.ownsRow_form ho6; have HK6 := Lib.hid (show Keeps w1 w6 from HK5.out.grown hg6 (Frm.ownsRow_base HO5.out)); have HB6 := Lib.hid (HB1.out.keeps HK6.out); have c6' : w6.cell? ⟨m, 0, none⟩ = some (.slice pf n cf) := by { rw [HB6.out.cell]; rfl }; have z6 : w6.frozen? ⟨m, 0, none⟩ = false := HB6.out.frozen _; have HO6 := Lib.hid ho6; clear ho6 hg6 hf6))
  go_end0
  obtain ⟨n', hn'⟩ : ∃ n', n' = i + 1 + (n - (i + 1)) := ⟨_, rfl⟩
  have HN' := Lib.hid hn'
  rw [← hn'] at HO6 ⊢
  clear hn'
  have HM7 := Lib.hid ((Mods.of_keeps (S := (· = m)) (HK1.out.trans HK6.out)).setCell (p := ⟨m, 0, none⟩) (fun _ => rfl) (.slice p6 n' c6))
  have HM67 := Lib.hid ((Mods.refl (· = m) w6).setCell (p := ⟨m, 0, none⟩) (fun _ => rfl) (.slice p6 n' c6))
  have HB7 := Lib.hid (show Blk (w6.setCell ⟨m, 0, none⟩ (.slice p6 n' c6)) m 113 (rdA (setR d i f) (.slice p6 n' c6) nv sv wv) from HB6.out.set_ 0 _)
  have HO7 := Lib.hid (Frm.ownsRow_mods HO6.out HM67.out (fun y hy e => Frm.ownsRow_ne HO6.out HB6.out (by decide) (by rw [hy, e])))
  clear c6' z6 c0
  generalize w6.setCell ⟨m, 0, none⟩ (.slice p6 n' c6) = w7 at *
  obtain ⟨r1, r2, r3, r4, r5⟩ := H.out.rows HM7.out
  have hv7 := Frm.ownsRow_mods HVW.out HM7.out (fun y hy e => Frm.ownsRow_ne HVW.out HBL.out (by decide) (by rw [hy, e]))
  have hs1 := HK1.out.size
  have hs7 := HM7.out.size
  have hnl := HN.out
  have hlen := H.out.len
  refine ⟨rfl, ⟨.slice p6 n' c6, nv, sv, wv, fw.set i (.slice pv f.waits.length cv), ?_⟩, HM7.out⟩
  exact
    { blk := HB7.out
      files := by
        have h0 := ownsRow_low HO7.out (Nat.zero_le _)
        have e1 : (setR d i f).files.length = n' := by simp [setR]; have := HN'.out; omega
        have e2 : ((setR d i f).files.zip (fw.set i (.slice pv f.waits.length cv))).flatMap filC = ((d.files.zip fw).take i).flatMap filC ++ [.string nowb, .string sureb, .slice pv nw cv] ++ ((d.files.zip fw).drop (i + 1)).flatMap filC := by
          show ((d.files.set i f).zip (fw.set i (.slice pv f.waits.length cv))).flatMap filC = _
          rw [← zip_set, ← set_parts _ _ _ (by rw [HZL.out]; exact hi), List.flatMap_append, List.flatMap_append, HBS.out.1, HBS.out.2, HNWS.out]
          simp [filC]
        rw [e1, e2]
        exact h0
      len := by simp [setR, hlen]
      waits := fun j h1 h2 => by
        have h1' : j < fw.length := by simpa using h1
        have h2' : j < d.files.length := by simpa [setR] using h2
        by_cases hj : i = j
        · subst hj
          have e1 : (fw.set i (.slice pv f.waits.length cv))[i] = .slice pv f.waits.length cv := List.getElem_set_self _
          have e2 : (setR d i f).files[i] = f := List.getElem_set_self _
          rw [e1, e2]
          exact hv7
        · have e1 : (fw.set i (.slice pv f.waits.length cv))[j] = fw[j] := List.getElem_set_ne hj _
          have e2 : (setR d i f).files[j] = d.files[j] := List.getElem_set_ne hj _
          rw [e1, e2]
          exact r2 j h1' h2'
      now := r3, sure := r4, turns := r5
      sm := .inl H.out.sm
      sf := fun y hy => .inr ⟨by have := Frm.ownsRow_base HO7.out y hy; omega, (owns_ty HO7.out hy).lt⟩
      sn := fun y hy => .inl (H.out.sn y hy), ss := fun y hy => .inl (H.out.ss y hy), st := fun y hy => .inl (H.out.st y hy)
      sw := fun v hv y hy => by
        rcases List.mem_or_eq_of_mem_set hv with hv | rfl
        · exact .inl (H.out.sw v hv y hy)
        · exact .inl (HMM.out y hy)
      fit := HF.out }
end
end Rf
end Go.Proofs.Ytchjncnolmiejaa

/- The document's disk: write. -/
namespace Go.Proofs.Ytchjncnolmiejaa
open Go.RowKit
namespace Rf
open Vd
theorem writok : ElemOkS Try.prog 115 184 2 24 := elemOkS (z := .agg #[.int .i64 0, .string (bstr [])]) Try.underlying115 (by kernel_rfl) rfl
theorem bytes_mem {files : List RFil} {l : Nms} {p : Str × Nat} (h : p ∈ l) : fLen files p.2 ≤ bytesR files l := by
  induction l with
  | nil => simp at h
  | cons q l ih =>
    have e : bytesR files (q :: l) = fLen files q.2 + bytesR files l := by simp [bytesR, fLen]
    rcases List.mem_cons.1 h with rfl | h
    · omega
    · have := ih h; omega
theorem filAt_get {d : RDsk} {i : Nat} (hi : i < d.files.length) : filAt d i = d.files[i] := by
  unfold filAt
  rw [List.getD_eq_getElem?_getD, List.getElem?_eq_getElem hi]
  rfl
theorem set_fit {d : RDsk} {k : Nat} (h : RFit d k) {i : Nat} {f : RFil} (h1 : f.waits.length ≤ k + 1) (h2 : f.now.length ≤ 1000000000 ∧ f.sure.length ≤ 1000000000) : RFit (setR d i f) (k + 1) :=
  { h.more (Nat.le_succ k) with
    f := by simpa [setR] using Nat.le_succ_of_le h.f
    p := fun x hx => by
      rcases List.mem_or_eq_of_mem_set hx with hx | rfl
      · exact Nat.le_succ_of_le (h.p x hx)
      · exact h1
    b := fun x hx => by
      rcases List.mem_or_eq_of_mem_set hx with hx | rfl
      · exact h.b x hx
      · exact h2
    is := fun p hp => by simpa [setR] using h.is p hp }
theorem write_fit {d : RDsk} {k : Nat} (h : RFit d k) {i : Nat} (hi : i < d.files.length) (hn : ∃ x, (x, i) ∈ d.now) {a : Nat} {b : Str} (ha : a ≤ d.files[i].now.length) (hs : ¬ d.cap - (usedR d : Int) < max 0 ((a : Int) + (b.length : Int) - (d.files[i].now.length : Int))) : RFit (setR d i (wroteR d.files[i] ⟨a, b⟩)) (k + 1) := by
  obtain ⟨x, hx⟩ := hn
  have hu := bytes_mem (files := d.files) hx
  have hf : fLen d.files i = d.files[i].now.length := by unfold fLen; rw [List.getElem?_eq_getElem hi]; rfl
  have hb := h.b _ (List.getElem_mem hi)
  have hp := h.p _ (List.getElem_mem hi)
  have hc := h.cap
  refine set_fit h (by simp [wroteR]; omega) ⟨?_, hb.2⟩
  show (overL d.files[i].now a b).length ≤ _
  rw [overL_len]
  unfold usedR at hs
  simp only at hu
  omega
theorem wrC_flat (l : List Pat) : ∀ u ∈ l.flatMap wrC, u.oneCell' = true := fun u hu => by
  obtain ⟨p, -, hp⟩ := List.mem_flatMap.1 hu
  simp [wrC] at hp
  rcases hp with rfl | rfl <;> rfl
/-- a row of bytes doesn't lie in a block of other cells -/
theorem row_apart {w w' : World} {v : Value} {l : List UInt8} (h : Row w v (l.map u8v)) {m : Nat} {t : TypeId} {cs : Array Value} (hB : Blk w m t cs) (hc : ∀ x ∈ cs.toList, ∀ n, x ≠ .int .u8 n) (hm : Mods (· = m) w w') : Row w' v (l.map u8v) := by
  rcases h with h | ⟨b, off, cap, hv, h1, h2, h3⟩
  · exact .inl h
  · refine .inr ⟨b, off, cap, hv, h1, h2, fun i x hx => ?_⟩
    have hh := h3 i x hx
    refine hm.cell hh (fun e => ?_)
    have e : b = m := e
    subst e
    rw [hB.cell] at hh
    have hx2 := List.mem_of_getElem? hx
    obtain ⟨y, -, hy⟩ := List.mem_map.1 hx2
    exact hc x (Array.mem_toList_iff.2 (Array.mem_of_getElem? hh)) y.toNat hy.symm
section
variable {w : World} {M : Nat → Prop} {m : Nat} {d : RDsk} {k : Nat}
theorem RefIn.bytes {fv nv sv wv : Value} {fw : List Value} (h : RefIn w M m fv nv sv wv fw d k) {w' : World} (hm : Mods (· = m) w w') {v : Value} {l : List UInt8} (hr : Row w v (l.map u8v)) : Row w' v (l.map u8v) := by
  obtain ⟨_, _, e1, -, -⟩ := Frm.ownsRow_form h.files
  obtain ⟨_, _, e2, -, -⟩ := Frm.ownsRow_form h.now
  obtain ⟨_, _, e3, -, -⟩ := Frm.ownsRow_form h.sure
  obtain ⟨_, _, e4, -, -⟩ := Frm.ownsRow_form h.turns
  refine row_apart hr h.blk (fun x hx n => ?_) hm
  rw [e1, e2, e3, e4] at hx
  simp [rdA] at hx
  rcases hx with rfl | rfl | rfl | rfl | rfl | rfl | rfl | rfl | rfl | rfl <;> simp
set_option maxRecDepth 100000 in
set_option maxHeartbeats 4000000 in
theorem write_r (h : RefAt w M m d k) (hk : k ≤ 100000) {i : Nat} (hi : i < d.files.length) (hn : ∃ x, (x, i) ∈ d.now) {a : Nat} {b : Str} {bv : Value} (hb : Row w bv (b.map u8v)) (hbl : b.length ≤ 1000000000) (ha : a ≤ d.files[i].now.length) : Calls Try.prog 114 #[.pointer (some ⟨m, 0, none⟩), .int .i64 (i : Int), .int .i64 (a : Int), bv] w (RDid w M m (writeR d i ⟨a, b⟩) (k + 1)) := by
  have HR := Lib.hid h
  have HX0 : Hid (writeR d i ⟨a, b⟩ = if d.cap - (usedR d : Int) < max 0 ((a : Int) + (b.length : Int) - (d.files[i].now.length : Int)) then (d, 10) else (setR d i (wroteR d.files[i] ⟨a, b⟩), 0)) := Lib.hid (by unfold writeR; rw [filAt_get hi]; rfl)
  obtain ⟨fv, nv, sv, wv, fw, h⟩ := h
  have H := Lib.hid h
  have HBV := Lib.hid hb
  have hfl : d.files.length ≤ 100000 := Nat.le_trans h.fit.f hk
  have hcap := h.fit.cap
  have hfb := h.fit.b _ (List.getElem_mem hi)
  have hwl : d.files[i].waits.length ≤ 100000 := Nat.le_trans (h.fit.p _ (List.getElem_mem hi)) hk
  have HWO := Lib.hid (h.waits i (by rw [h.len]; exact hi) hi)
  obtain ⟨pw, cw, hpw, -, -⟩ := Frm.ownsRow_form HWO.out
  obtain ⟨c0, -, -, -, c4, -⟩ := h.cells
  obtain ⟨bf, of, cf, hfv, hrg⟩ := h.file hi
  subst hfv
  have HSW := Lib.hid (show ∀ y, (Value.slice pw d.files[i].waits.length cw).ownBlock = some y → M y from by rw [← hpw]; exact h.sw _ (List.getElem_mem _))
  rw [hpw] at hrg HWO
  clear hpw
  have HRG := Lib.hid hrg
  have hub : usedR d ≤ 100000000000000 := Nat.le_trans (bytes_le (fun x hx => (h.fit.b x hx).1) d.now) (Nat.le_trans (Nat.mul_le_mul_right _ (Nat.le_trans h.fit.n hk)) (by decide))
  have HFT := Lib.hid (fun hs => write_fit h.fit hi hn (b := b) ha hs)
  obtain ⟨pb, cb, rfl, -, -⟩ := hb.formB
  have hcm := h.blk.cell 4
  clear h hb hrg hn
  obtain ⟨F, hF⟩ : ∃ F, F = d.files.length := ⟨_, rfl⟩
  have HFE := Lib.hid hF
  obtain ⟨f, hf⟩ : ∃ f, f = d.files[i] := ⟨_, rfl⟩
  have HFI := Lib.hid hf
  rw [← hf] at HX0 HRG HWO HSW HFT hfb hwl ha
  rw [← hF] at c0 hfl
  have hiF : (i : Int) < (F : Int) := by omega
  clear hf hF
  obtain ⟨U, hU⟩ : ∃ U, U = usedR d := ⟨_, rfl⟩
  have HU := Lib.hid hU
  rw [← hU] at HX0 hub
  clear hU
  obtain ⟨fnow, fsure, fwt⟩ := f
  simp only at hfb hwl ha HX0 HRG HWO HSW
  obtain ⟨nw, hnw⟩ : ∃ nw, nw = fwt.length := ⟨_, rfl⟩
  have HNW := Lib.hid hnw
  rw [← hnw] at HRG HWO HSW hwl
  clear hnw
  have hn1 := bstr_size fnow
  go_enter Try.func114, Try.ntmps114
  go_upto_region 2 with (refine wpList_ldR rfl filM HRG.out _ rfl rfl ?_)
  generalize hW : World.alloc w _ = w1
  have HK1 := Lib.hid (show Keeps w w1 from by rw [← hW]; exact (Keeps.refl _).alloc _)
  have HB1 := Lib.hid (show Blk w1 w.heap.size 117 #[.string (bstr fnow), .string (bstr fsure), .slice pw nw cw] from by rw [← hW]; exact Blk.new _ _ _ rfl)
  clear hW c0
  obtain ⟨q, hq⟩ : ∃ q, q = w.heap.size := ⟨_, rfl⟩
  rw [← hq] at HB1 ⊢
  have HQ := Lib.hid hq
  clear hq
  have q0 : w1.cell? ⟨q, 0, none⟩ = some (.string (bstr fnow)) := by rw [HB1.out.cell]; rfl
  obtain ⟨gr, hgr⟩ : ∃ gr : Int, gr = max 0 ((a : Int) + (b.length : Int) - (fnow.length : Int)) := ⟨_, rfl⟩
  have hgl : 0 ≤ gr ∧ gr ≤ 2000000000 := by omega
  have HG := Lib.hid hgr
  rw [← hgr] at HX0
  clear hgr
  have hif : (if (fnow.length : Int) < (a : Int) + (b.length : Int) then (a : Int) + (b.length : Int) - (fnow.length : Int) else 0) = gr := by
    rw [HG.out]
    split <;> omega
  have HIF := Lib.hid hif
  clear hif
  go_upto_region 3 with fail
  rw [HIF.out]
  have HC4 := Lib.hid (keep1 HK1.out c4)
  have HR1 := Lib.hid (HR.out.keeps HK1.out)
  have HUS := Lib.hid (used_r (HR1.out.keeps (Keeps.refl w1).drew) (by omega))
  rw [← HU.out] at HUS
  have hsub : IntKind.i64.wrap (d.cap - (U : Int)) = d.cap - (U : Int) := by rw [IntKind.wrap_i64]; omega
  clear c4 q0
  by_cases hsp : d.cap - (U : Int) < gr
  · have HX := Lib.hid (HX0.out.trans (if_pos hsp))
    have ht : decide (d.cap - (U : Int) < gr) = true := by simp; omega
    refine wp_region_noPanic ?_
    refine wp_region_held_drew (S := fun w' => Keeps (w1) w') (by kernel_rfl) ((Keeps.refl _).drew) (fun _ => ?_)
    have hHeld : Keeps (w1) (w1).drew := (Keeps.refl _).drew
    refine wpAnyH_take (i := 0) (v := ?vv1) (by rfl) (by kernel_rfl) (by kernel_rfl) (by kernel_rfl) (by intro _ _ _ h; exact h) (Or.inl ⟨by kernel_rfl, ?hy1⟩) (by assumption) ?rest1
    case hy1 =>
      intro w' hSw
      have hSw : Keeps _ w' := hSw
      clear hSw
      go_simp
      try with_reducible rfl
    change wpAnyH _ _ _ _ _ _ _ (Act.put _ (some 28) _) _
    try simp only [Act.put, List.setIfInBounds_toArray, List.set_cons_zero, List.set_cons_succ]
    refine wpAnyH_take (i := 1) (v := ?vv2) (by rfl) (by kernel_rfl) (by kernel_rfl) (by kernel_rfl) (by intro _ _ _ h; exact h) (Or.inl ⟨by kernel_rfl, ?hy2⟩) (by assumption) ?rest2
    case hy2 =>
      intro w' hSw
      have hSw : Keeps _ w' := hSw
      clear hSw
      go_simp
      try with_reducible rfl
    change wpAnyH _ _ _ _ _ _ _ (Act.put _ (some 29) _) _
    try simp only [Act.put, List.setIfInBounds_toArray, List.set_cons_zero, List.set_cons_succ]
    refine wpAnyH_take (i := 2) (v := ?vv3) (by rfl) (by kernel_rfl) (by kernel_rfl) (by kernel_rfl) (by intro _ _ _ h; exact h) (Or.inl ⟨by kernel_rfl, ?hy3⟩) (by assumption) ?rest3
    case hy3 =>
      intro w' hSw
      have hSw : Keeps _ w' := hSw
      clear hSw
      go_simp
      try with_reducible rfl
    change wpAnyH _ _ _ _ _ _ _ (Act.put _ (some 30) _) _
    try simp only [Act.put, List.setIfInBounds_toArray, List.set_cons_zero, List.set_cons_succ]
    refine wpAnyH_take (i := 3) (v := ?vv4) (by rfl) (by kernel_rfl) (by kernel_rfl) (by kernel_rfl) (by intro _ _ _ h; exact h) (Or.inl ⟨by kernel_rfl, ?hy4⟩) (by assumption) ?rest4
    case hy4 =>
      intro w' hSw
      have hSw : Keeps _ w' := hSw
      clear hSw
      go_simp
      try with_reducible rfl
    change wpAnyH _ _ _ _ _ _ _ (Act.put _ (some 31) _) _
    try simp only [Act.put, List.setIfInBounds_toArray, List.set_cons_zero, List.set_cons_succ]
    refine wpAnyH_take (i := 4) (v := ?vv5) (by rfl) (by kernel_rfl) (by kernel_rfl) (by kernel_rfl) (by intro _ _ _ h; exact h) (Or.inl ⟨by kernel_rfl, ?hy5⟩) (by assumption) ?rest5
    case hy5 =>
      intro w' hSw
      have hSw : Keeps _ w' := hSw
      have hx := keep1 hSw HC4.out
      clear hSw
      go_simp
      try with_reducible rfl
    change wpAnyH _ _ _ _ _ _ _ (Act.put _ (some 32) _) _
    try simp only [Act.put, List.setIfInBounds_toArray, List.set_cons_zero, List.set_cons_succ]
    refine wpAnyH_take (i := 5) (v := ?vv6) (by rfl) (by kernel_rfl) (by kernel_rfl) (by kernel_rfl) (by intro _ _ _ h; exact h) (Or.inl ⟨by kernel_rfl, ?hy6⟩) (by assumption) ?rest6
    case hy6 =>
      intro w' hSw
      have hSw : Keeps _ w' := hSw
      clear hSw
      go_simp
      try with_reducible rfl
    change wpAnyH _ _ _ _ _ _ _ (Act.put _ (some 33) _) _
    try simp only [Act.put, List.setIfInBounds_toArray, List.set_cons_zero, List.set_cons_succ]
    refine wpAnyH_ready (rs := [6]) (by kernel_rfl) (by simp) ?_
    refine AllReadyH.cons (o := _) rfl (fun K hK => ?_) AllReadyH.nil
    go_simp
    refine (HUS.out).mono ?_
    rintro e w2 ⟨rfl, hk⟩
    have hb : Keeps _ w2 := hHeld.trans hk
    have HK2 := Lib.hid hk
    go_wp2_with fail
    refine hK.out _ _ hb (fun _ => ?_)
    clear hK K
    try simp only [Act.put, List.setIfInBounds_toArray, List.set_cons_zero, List.set_cons_succ]
    refine wpAnyH_more (S' := fun w' => Keeps w2 w') (fun _ h => hb.trans h) ?_
    clear hHeld hb hk
    have hHeld : Keeps w2 w2 := Keeps.refl _
    refine wpAnyH_take (i := 7) (v := ?vv7) (by rfl) (by kernel_rfl) (by kernel_rfl) (by kernel_rfl) (by intro _ _ _ h; exact h) (Or.inl ⟨by kernel_rfl, ?hy7⟩) (by assumption) ?rest7
    case hy7 =>
      intro w' hSw
      have hSw : Keeps _ w' := hSw
      clear hSw
      go_simp
      try with_reducible rfl
    change wpAnyH _ _ _ _ _ _ _ (Act.put _ (some 35) _) _
    try simp only [Act.put, List.setIfInBounds_toArray, List.set_cons_zero, List.set_cons_succ]
    refine wpAnyH_take (i := 8) (v := ?vv8) (by rfl) (by kernel_rfl) (by kernel_rfl) (by kernel_rfl) (by intro _ _ _ h; exact h) (Or.inl ⟨by kernel_rfl, ?hy8⟩) (by assumption) ?rest8
    case hy8 =>
      intro w' hSw
      have hSw : Keeps _ w' := hSw
      clear hSw
      go_simp
      try with_reducible rfl
    change wpAnyH _ _ _ _ _ _ _ (Act.put _ (some 36) _) _
    try simp only [Act.put, List.setIfInBounds_toArray, List.set_cons_zero, List.set_cons_succ]
    refine wpAnyH_done (by kernel_rfl) ?_ _
    refine NoPanic.normal ?_
    have HKF := Lib.hid (((HK1.out.trans (Keeps.refl w1).drew).trans HK2.out).trans hHeld)
    clear hHeld
    go_wp2_with fail
    go_ret
    rw [HX.out]
    exact ⟨rfl, ((HR.out.keeps HKF.out).wide (fun y hy => .inl hy)).more (by omega), Mods.of_keeps HKF.out⟩
  · have HX := Lib.hid (HX0.out.trans (if_neg hsp))
    have HFU := Lib.hid (HFT.out (by rw [← HU.out, ← HG.out]; exact hsp))
    have ht : decide (d.cap - (U : Int) < gr) = false := by simp; omega
    refine wp_region_noPanic ?_
    refine wp_region_held_drew (S := fun w' => Keeps (w1) w') (by kernel_rfl) ((Keeps.refl _).drew) (fun _ => ?_)
    have hHeld : Keeps (w1) (w1).drew := (Keeps.refl _).drew
    refine wpAnyH_take (i := 0) (v := ?vv9) (by rfl) (by kernel_rfl) (by kernel_rfl) (by kernel_rfl) (by intro _ _ _ h; exact h) (Or.inl ⟨by kernel_rfl, ?hy9⟩) (by assumption) ?rest9
    case hy9 =>
      intro w' hSw
      have hSw : Keeps _ w' := hSw
      clear hSw
      go_simp
      try with_reducible rfl
    change wpAnyH _ _ _ _ _ _ _ (Act.put _ (some 28) _) _
    try simp only [Act.put, List.setIfInBounds_toArray, List.set_cons_zero, List.set_cons_succ]
    refine wpAnyH_take (i := 1) (v := ?vv10) (by rfl) (by kernel_rfl) (by kernel_rfl) (by kernel_rfl) (by intro _ _ _ h; exact h) (Or.inl ⟨by kernel_rfl, ?hy10⟩) (by assumption) ?rest10
    case hy10 =>
      intro w' hSw
      have hSw : Keeps _ w' := hSw
      clear hSw
      go_simp
      try with_reducible rfl
    change wpAnyH _ _ _ _ _ _ _ (Act.put _ (some 29) _) _
    try simp only [Act.put, List.setIfInBounds_toArray, List.set_cons_zero, List.set_cons_succ]
    refine wpAnyH_take (i := 2) (v := ?vv11) (by rfl) (by kernel_rfl) (by kernel_rfl) (by kernel_rfl) (by intro _ _ _ h; exact h) (Or.inl ⟨by kernel_rfl, ?hy11⟩) (by assumption) ?rest11
    case hy11 =>
      intro w' hSw
      have hSw : Keeps _ w' := hSw
      clear hSw
      go_simp
      try with_reducible rfl
    change wpAnyH _ _ _ _ _ _ _ (Act.put _ (some 30) _) _
    try simp only [Act.put, List.setIfInBounds_toArray, List.set_cons_zero, List.set_cons_succ]
    refine wpAnyH_take (i := 3) (v := ?vv12) (by rfl) (by kernel_rfl) (by kernel_rfl) (by kernel_rfl) (by intro _ _ _ h; exact h) (Or.inl ⟨by kernel_rfl, ?hy12⟩) (by assumption) ?rest12
    case hy12 =>
      intro w' hSw
      have hSw : Keeps _ w' := hSw
      clear hSw
      go_simp
      try with_reducible rfl
    change wpAnyH _ _ _ _ _ _ _ (Act.put _ (some 31) _) _
    try simp only [Act.put, List.setIfInBounds_toArray, List.set_cons_zero, List.set_cons_succ]
    refine wpAnyH_take (i := 4) (v := ?vv13) (by rfl) (by kernel_rfl) (by kernel_rfl) (by kernel_rfl) (by intro _ _ _ h; exact h) (Or.inl ⟨by kernel_rfl, ?hy13⟩) (by assumption) ?rest13
    case hy13 =>
      intro w' hSw
      have hSw : Keeps _ w' := hSw
      have hx := keep1 hSw HC4.out
      clear hSw
      go_simp
      try with_reducible rfl
    change wpAnyH _ _ _ _ _ _ _ (Act.put _ (some 32) _) _
    try simp only [Act.put, List.setIfInBounds_toArray, List.set_cons_zero, List.set_cons_succ]
    refine wpAnyH_take (i := 5) (v := ?vv14) (by rfl) (by kernel_rfl) (by kernel_rfl) (by kernel_rfl) (by intro _ _ _ h; exact h) (Or.inl ⟨by kernel_rfl, ?hy14⟩) (by assumption) ?rest14
    case hy14 =>
      intro w' hSw
      have hSw : Keeps _ w' := hSw
      clear hSw
      go_simp
      try with_reducible rfl
    change wpAnyH _ _ _ _ _ _ _ (Act.put _ (some 33) _) _
    try simp only [Act.put, List.setIfInBounds_toArray, List.set_cons_zero, List.set_cons_succ]
    refine wpAnyH_ready (rs := [6]) (by kernel_rfl) (by simp) ?_
    refine AllReadyH.cons (o := _) rfl (fun K hK => ?_) AllReadyH.nil
    go_simp
    refine (HUS.out).mono ?_
    rintro e w2 ⟨rfl, hk⟩
    have hb : Keeps _ w2 := hHeld.trans hk
    have HK2 := Lib.hid hk
    go_wp2_with fail
    refine hK.out _ _ hb (fun _ => ?_)
    clear hK K
    try simp only [Act.put, List.setIfInBounds_toArray, List.set_cons_zero, List.set_cons_succ]
    refine wpAnyH_more (S' := fun w' => Keeps w2 w') (fun _ h => hb.trans h) ?_
    clear hHeld hb hk
    have hHeld : Keeps w2 w2 := Keeps.refl _
    refine wpAnyH_take (i := 7) (v := ?vv15) (by rfl) (by kernel_rfl) (by kernel_rfl) (by kernel_rfl) (by intro _ _ _ h; exact h) (Or.inl ⟨by kernel_rfl, ?hy15⟩) (by assumption) ?rest15
    case hy15 =>
      intro w' hSw
      have hSw : Keeps _ w' := hSw
      clear hSw
      go_simp
      try with_reducible rfl
    change wpAnyH _ _ _ _ _ _ _ (Act.put _ (some 35) _) _
    try simp only [Act.put, List.setIfInBounds_toArray, List.set_cons_zero, List.set_cons_succ]
    refine wpAnyH_take (i := 8) (v := ?vv16) (by rfl) (by kernel_rfl) (by kernel_rfl) (by kernel_rfl) (by intro _ _ _ h; exact h) (Or.inl ⟨by kernel_rfl, ?hy16⟩) (by assumption) ?rest16
    case hy16 =>
      intro w' hSw
      have hSw : Keeps _ w' := hSw
      clear hSw
      go_simp
      try with_reducible rfl
    change wpAnyH _ _ _ _ _ _ _ (Act.put _ (some 36) _) _
    try simp only [Act.put, List.setIfInBounds_toArray, List.set_cons_zero, List.set_cons_succ]
    refine wpAnyH_done (by kernel_rfl) ?_ _
    refine NoPanic.normal ?_
    have HKF := Lib.hid (((Keeps.refl w1).drew.trans HK2.out).trans hHeld)
    clear hHeld hsub ht hsp HUS HC4 HFT
    have HKW := Lib.hid (HK1.out.trans HKF.out)
    have HBf := Lib.hid (HB1.out.keeps HKF.out)
    have HW2 := Lib.hid (Frm.ownsRow_keeps HWO.out HKW.out)
    have q2 : w2.cell? ⟨q, 2, none⟩ = some (.slice pw nw cw) := by rw [HBf.out.cell]; rfl
    go_upto_region 7 with (at_builtin; go_loud (refine wpList_apps (base := w2.heap.size) writok (by decide) rfl _ _ rfl (.slice none 0 0) (.slice pw nw cw) 0 nw [] (fwt.flatMap wrC) rfl rfl (World.ownsRow_nil _ _ _ 2) (rowS_of HW2.out) (wrC_flat _) (by omega) (by decide) (Nat.le_refl _) ?_; intro v3 w3 ho3 hg3 hf3; obtain ⟨p3, c3, rfl, -, -⟩ := Frm.ownsRow_form ho3))
    have HO3 := Lib.hid (show w3.ownsRow w2.heap.size 184 2 (.slice p3 nw c3) nw (fwt.flatMap wrC) from by simpa using ho3)
    have HK3 := Lib.hid (show Keeps w2 w3 from (Keeps.refl w2).grown hg3 (fun k hk => by simp [Value.ownBlock] at hk))
    have HB3 := Lib.hid (HBf.out.keeps HK3.out)
    have HKW3 := Lib.hid (HKW.out.trans HK3.out)
    have HI2 := Lib.hid (H.out.apart (T := fun _ => False) (Mods.of_keeps HKW.out) (fun _ _ h => h))
    have HBV2 := Lib.hid (HBV.out.keeps HKW.out)
    have HQM := Lib.hid (show q ≠ m from fun e => by have := H.out.blk.lt; have := HQ.out; omega)
    clear ho3 hg3 hf3 q2
    have HOd := Lib.hid (Frm.ownsRow_keeps HO3.out (Keeps.refl w3).drew)
    have HKX := Lib.hid (HK3.out.trans (Keeps.refl w3).drew)
    have hs32 := HK3.out.size
    have hsw2 := HKW.out.size
    refine wp_region_noPanic ?_
    refine wp_region_held_drew (S := fun w' => Mods (· = m) w2 w') (by kernel_rfl) ((Mods.of_keeps HK3.out).drew) (fun _ => ?_)
    have hHeld : Mods (· = m) w2 (w3).drew := (Mods.of_keeps HK3.out).drew
    generalize World.drew w3 = xs at *
    refine wpAnyH_take (i := 0) (v := ?vv17) (by rfl) (by kernel_rfl) (by kernel_rfl) (by kernel_rfl) (by intro _ _ _ h; exact h) (Or.inl ⟨by kernel_rfl, ?hy17⟩) (by assumption) ?rest17
    case hy17 =>
      intro w' hSw
      have hSw : Mods (· = m) w2 w' := hSw
      clear hSw
      go_simp
      try with_reducible rfl
    change wpAnyH _ _ _ _ _ _ _ (Act.put _ (some 41) _) _
    try simp only [Act.put, List.setIfInBounds_toArray, List.set_cons_zero, List.set_cons_succ]
    refine wpAnyH_take (i := 1) (v := ?vv18) (by rfl) (by kernel_rfl) (by kernel_rfl) (by kernel_rfl) (by intro _ _ _ h; exact h) (Or.inl ⟨by kernel_rfl, ?hy18⟩) (by assumption) ?rest18
    case hy18 =>
      intro w' hSw
      have hSw : Mods (· = m) w2 w' := hSw
      clear hSw
      go_simp
      try with_reducible rfl
    change wpAnyH _ _ _ _ _ _ _ (Act.put _ (some 42) _) _
    try simp only [Act.put, List.setIfInBounds_toArray, List.set_cons_zero, List.set_cons_succ]
    refine wpAnyH_take (i := 2) (v := ?vv19) (by rfl) (by kernel_rfl) (by kernel_rfl) (by kernel_rfl) (by intro _ _ _ h; exact h) (Or.inl ⟨by kernel_rfl, ?hy19⟩) (by assumption) ?rest19
    case hy19 =>
      intro w' hSw
      have hSw : Mods (· = m) w2 w' := hSw
      clear hSw
      go_simp
      try with_reducible rfl
    change wpAnyH _ _ _ _ _ _ _ (Act.put _ (some 43) _) _
    try simp only [Act.put, List.setIfInBounds_toArray, List.set_cons_zero, List.set_cons_succ]
    refine wpAnyH_take (i := 3) (v := ?vv20) (by rfl) (by kernel_rfl) (by kernel_rfl) (by kernel_rfl) (by intro _ _ _ h; exact h) (Or.inl ⟨by kernel_rfl, ?hy20⟩) (by assumption) ?rest20
    case hy20 =>
      intro w' hSw
      have hSw : Mods (· = m) w2 w' := hSw
      have hBq := HBf.out.mods hSw (fun e => HQM.out e)
      have hx0 : World.cell? w' ⟨q, 0, none⟩ = some (.string (bstr fnow)) := by rw [hBq.cell]; rfl
      clear hSw
      go_simp
      try with_reducible rfl
    change wpAnyH _ _ _ _ _ _ _ (Act.put _ (some 44) _) _
    try simp only [Act.put, List.setIfInBounds_toArray, List.set_cons_zero, List.set_cons_succ]
    refine wpAnyH_take (i := 4) (v := ?vv21) (by rfl) (by kernel_rfl) (by kernel_rfl) (by kernel_rfl) (by intro _ _ _ h; exact h) (Or.inl ⟨by kernel_rfl, ?hy21⟩) (by assumption) ?rest21
    case hy21 =>
      intro w' hSw
      have hSw : Mods (· = m) w2 w' := hSw
      clear hSw
      go_simp
      try with_reducible rfl
    change wpAnyH _ _ _ _ _ _ _ (Act.put _ (some 45) _) _
    try simp only [Act.put, List.setIfInBounds_toArray, List.set_cons_zero, List.set_cons_succ]
    refine wpAnyH_take (i := 5) (v := ?vv22) (by rfl) (by kernel_rfl) (by kernel_rfl) (by kernel_rfl) (by intro _ _ _ h; exact h) (Or.inl ⟨by kernel_rfl, ?hy22⟩) (by assumption) ?rest22
    case hy22 =>
      intro w' hSw
      have hSw : Mods (· = m) w2 w' := hSw
      clear hSw
      go_simp
      try with_reducible rfl
    change wpAnyH _ _ _ _ _ _ _ (Act.put _ (some 46) _) _
    try simp only [Act.put, List.setIfInBounds_toArray, List.set_cons_zero, List.set_cons_succ]
    refine wpAnyH_take (i := 6) (v := ?vv23) (by rfl) (by kernel_rfl) (by kernel_rfl) (by kernel_rfl) (by intro _ _ _ h; exact h) (Or.inl ⟨by kernel_rfl, ?hy23⟩) (by assumption) ?rest23
    case hy23 =>
      intro w' hSw
      have hSw : Mods (· = m) w2 w' := hSw
      have hc := Frm.str_at' (HI2.out.bytes hSw HBV2.out)
      clear hSw
      go_simp
      try with_reducible rfl
    change wpAnyH _ _ _ _ _ _ _ (Act.put _ (some 47) _) _
    try simp only [Act.put, List.setIfInBounds_toArray, List.set_cons_zero, List.set_cons_succ]
    refine wpAnyH_take (i := 8) (v := ?vv24) (by rfl) (by kernel_rfl) (by kernel_rfl) (by kernel_rfl) (by intro _ _ _ h; exact h) (Or.inl ⟨by kernel_rfl, ?hy24⟩) (by assumption) ?rest24
    case hy24 =>
      intro w' hSw
      have hSw : Mods (· = m) w2 w' := hSw
      clear hSw
      go_simp
      try with_reducible rfl
    change wpAnyH _ _ _ _ _ _ _ (Act.put _ (some 49) _) _
    try simp only [Act.put, List.setIfInBounds_toArray, List.set_cons_zero, List.set_cons_succ]
    refine wpAnyH_take (i := 9) (v := ?vv25) (by rfl) (by kernel_rfl) (by kernel_rfl) (by kernel_rfl) (by intro _ _ _ h; exact h) (Or.inl ⟨by kernel_rfl, ?hy25⟩) (by assumption) ?rest25
    case hy25 =>
      intro w' hSw
      have hSw : Mods (· = m) w2 w' := hSw
      have hBq := HBf.out.mods hSw (fun e => HQM.out e)
      have hx0 : World.cell? w' ⟨q, 1, none⟩ = some (.string (bstr fsure)) := by rw [hBq.cell]; rfl
      clear hSw
      go_simp
      try with_reducible rfl
    change wpAnyH _ _ _ _ _ _ _ (Act.put _ (some 50) _) _
    try simp only [Act.put, List.setIfInBounds_toArray, List.set_cons_zero, List.set_cons_succ]
    refine wpAnyH_take (i := 10) (v := ?vv26) (by rfl) (by kernel_rfl) (by kernel_rfl) (by kernel_rfl) (by intro _ _ _ h; exact h) (Or.inl ⟨by kernel_rfl, ?hy26⟩) (by assumption) ?rest26
    case hy26 =>
      intro w' hSw
      have hSw : Mods (· = m) w2 w' := hSw
      clear hSw
      go_simp
      try with_reducible rfl
    change wpAnyH _ _ _ _ _ _ _ (Act.put _ (some 51) _) _
    try simp only [Act.put, List.setIfInBounds_toArray, List.set_cons_zero, List.set_cons_succ]
    refine wpAnyH_take (i := 11) (v := ?vv27) (by rfl) (by kernel_rfl) (by kernel_rfl) (by kernel_rfl) (by intro _ _ _ h; exact h) (Or.inl ⟨by kernel_rfl, ?hy27⟩) (by assumption) ?rest27
    case hy27 =>
      intro w' hSw
      have hSw : Mods (· = m) w2 w' := hSw
      clear hSw
      go_simp
      try with_reducible rfl
    change wpAnyH _ _ _ _ _ _ _ (Act.put _ (some 52) _) _
    try simp only [Act.put, List.setIfInBounds_toArray, List.set_cons_zero, List.set_cons_succ]
    refine wpAnyH_take (i := 12) (v := ?vv28) (by rfl) (by kernel_rfl) (by kernel_rfl) (by kernel_rfl) (by intro _ _ _ h; exact h) (Or.inl ⟨by kernel_rfl, ?hy28⟩) (by assumption) ?rest28
    case hy28 =>
      intro w' hSw
      have hSw : Mods (· = m) w2 w' := hSw
      clear hSw
      go_simp
      try with_reducible rfl
    change wpAnyH _ _ _ _ _ _ _ (Act.put _ (some 53) _) _
    try simp only [Act.put, List.setIfInBounds_toArray, List.set_cons_zero, List.set_cons_succ]
    refine wpAnyH_take (i := 13) (v := ?vv29) (by rfl) (by kernel_rfl) (by kernel_rfl) (by kernel_rfl) (by intro _ _ _ h; exact h) (Or.inl ⟨by kernel_rfl, ?hy29⟩) (by assumption) ?rest29
    case hy29 =>
      intro w' hSw
      have hSw : Mods (· = m) w2 w' := hSw
      have hc := Frm.str_at' (HI2.out.bytes hSw HBV2.out)
      clear hSw
      go_simp
      try with_reducible rfl
    change wpAnyH _ _ _ _ _ _ _ (Act.put _ (some 54) _) _
    try simp only [Act.put, List.setIfInBounds_toArray, List.set_cons_zero, List.set_cons_succ]
    refine wpAnyH_take (i := 14) (v := ?vv30) (by rfl) (by kernel_rfl) (by kernel_rfl) (by kernel_rfl) (by intro _ _ _ h; exact h) (Or.inl ⟨by kernel_rfl, ?hy30⟩) (by assumption) ?rest30
    case hy30 =>
      intro w' hSw
      have hSw : Mods (· = m) w2 w' := hSw
      clear hSw
      go_simp
      try with_reducible rfl
    change wpAnyH _ _ _ _ _ _ _ (Act.put _ (some 55) _) _
    try simp only [Act.put, List.setIfInBounds_toArray, List.set_cons_zero, List.set_cons_succ]
    refine wpAnyH_ready (rs := [7, 15]) (by kernel_rfl) (by simp) ?_
    refine AllReadyH.cons (o := _) rfl (fun K hK => ?_) ?_
    · go_simp
      refine (over_r _ fnow b a (by omega) (by omega) (by omega)).mono ?_
      rintro e x7 ⟨rfl, hk7⟩
      have HOd := Lib.hid (Frm.ownsRow_keeps HOd.out hk7)
      have HKX := Lib.hid (HKX.out.trans hk7)
      have hb := hHeld.trans (Mods.of_keeps (S := (· = m)) hk7) (fun y hy _ => hy)
      clear hk7
      go_wp2_with fail
      refine hK.out _ _ hb (fun _ => ?_)
      clear hK K hHeld
      have hHeld : Mods (· = m) w2 x7 := hb
      clear hb
      try simp only [Act.put, List.setIfInBounds_toArray, List.set_cons_zero, List.set_cons_succ]
      refine wpAnyH_ready (rs := [15]) (by kernel_rfl) (by simp) ?_
      refine AllReadyH.cons (o := _) rfl (fun K hK => ?_) ?_
      · go_simp
        obtain ⟨b8, hb8⟩ : ∃ z, z = (World.heap x7).size := ⟨_, rfl⟩
        have HB8 : Hid (Blk (World.alloc x7 (.cells #[.int .i64 (a : Int), .string (bstr b)] 184)) b8 184 #[.int .i64 (a : Int), .string (bstr b)]) := Lib.hid (Blk.new _ _ _ hb8)
        have HOd := Lib.hid (Frm.ownsRow_keeps HOd.out ((Keeps.refl _).alloc (.cells #[.int .i64 (a : Int), .string (bstr b)] 184)))
        have HKX := Lib.hid (HKX.out.alloc (.cells #[.int .i64 (a : Int), .string (bstr b)] 184))
        have hb := hHeld.alloc (.cells #[.int .i64 (a : Int), .string (bstr b)] 184)
        have HBB := Lib.hid hb8
        clear hb8
        generalize World.alloc x7 (.cells #[.int .i64 (a : Int), .string (bstr b)] 184) = x15 at *
        refine hK.out _ _ hb (fun _ => ?_)
        clear hK K hHeld
        have hHeld : Mods (· = m) w2 x15 := hb
        clear hb
        try simp only [Act.put, List.setIfInBounds_toArray, List.set_cons_zero, List.set_cons_succ]
        refine wpAnyH_ready (rs := [16]) (by kernel_rfl) (by simp) ?_
        refine AllReadyH.cons (o := _) rfl (fun K hK => ?_) ?_
        · refine step_appF (base := w2.heap.size) writok (by decide) rfl _ _ rfl (.slice p3 nw c3) nw 1 1 ⟨b8, 0, none⟩ (fwt.flatMap wrC) [.int .i64 (a : Int), .string (bstr b)] rfl (congrArg (fun g => Value.slice (some ⟨g, 0, none⟩) 1 1) HBB.out.symm) HOd.out rfl (fun j y hy => by rw [Go.WideShapes.add_plain, HB8.out.cell, Nat.zero_add]; simpa using hy) (by simp [Value.oneCell']) (by omega) (by decide) HKX.out.size ?_
          intro v16 x16 ho hg hf
          obtain ⟨p16, c16, rfl, -, -⟩ := Frm.ownsRow_form ho
          have HO16 := Lib.hid ho
          have HKX := Lib.hid (HKX.out.grown hg (Frm.ownsRow_base HOd.out))
          have hb := hHeld.grown hg (fun k hk hlt => by have := Frm.ownsRow_base HOd.out k hk; omega)
          clear ho hg hf HOd HB8
          show K (Act.put _ (some 57) _) x16
          refine hK.out _ _ hb (fun _ => ?_)
          clear hK K hHeld
          have hHeld : Mods (· = m) w2 x16 := hb
          clear hb
          try simp only [Act.put, List.setIfInBounds_toArray, List.set_cons_zero, List.set_cons_succ]
          refine wpAnyH_take (i := 17) (v := ?vv31) (by rfl) (by kernel_rfl) (by kernel_rfl) (by kernel_rfl) (by intro _ _ _ h; exact h) (Or.inl ⟨by kernel_rfl, ?hy31⟩) (by assumption) ?rest31
          case hy31 =>
            intro w' hSw
            have hSw : Mods (· = m) w2 w' := hSw
            clear hSw
            go_simp
            try with_reducible rfl
          change wpAnyH _ _ _ _ _ _ _ (Act.put _ (some 58) _) _
          try simp only [Act.put, List.setIfInBounds_toArray, List.set_cons_zero, List.set_cons_succ]
          refine wpAnyH_ready (rs := [18]) (by kernel_rfl) (by simp) ?_
          refine AllReadyH.cons (o := _) rfl (fun K hK => ?_) ?_
          · go_simp
            have HWI := Lib.hid (with_r (M := More M w x16) (((HR.out.keeps (HKW.out.trans HKX.out)).wide (fun y hy => .inl hy)).more (Nat.le_succ k)) (by omega) hi (wroteR ⟨fnow, fsure, fwt⟩ ⟨a, b⟩) (.slice p16 (nw + 1) c16) (by have h0 := ownsRow_low HO16.out (Nat.zero_le _); rw [show (wroteR ⟨fnow, fsure, fwt⟩ ⟨a, b⟩).waits.length = nw + 1 from by simp [wroteR, HNW.out], show (wroteR ⟨fnow, fsure, fwt⟩ ⟨a, b⟩).waits.flatMap wrC = fwt.flatMap wrC ++ [.int .i64 (a : Int), .string (bstr b)] from by simp [wroteR, wrC]]; exact h0) (fun y hy => .inr ⟨by have := Frm.ownsRow_base HO16.out y hy; omega, (owns_ty HO16.out hy).lt⟩) HFU.out)
            unfold filA wroteR at HWI
            refine HWI.out.mono ?_
            rintro e xF ⟨rfl, h6, hm6⟩
            have H6 := Lib.hid h6
            have hb := hHeld.trans hm6 (fun y hy _ => hy)
            have hsX := HKX.out.size
            have hsF := hm6.size
            clear h6 hm6 HWI
            go_wp2_with fail
            refine hK.out _ _ hb (fun _ => ?_)
            clear hK K hHeld
            have hHeld : Mods (· = m) w2 xF := hb
            clear hb
            try simp only [Act.put, List.setIfInBounds_toArray, List.set_cons_zero, List.set_cons_succ]
            refine wpAnyH_done (by kernel_rfl) ?_ _
            refine NoPanic.normal ?_
            go_wp2_with fail
            go_ret
            rw [HX.out]
            refine ⟨rfl, H6.out.wide (fun y hy => ?_), (Mods.of_keeps (S := (· = m)) HKW.out).trans hHeld (fun y hy _ => hy)⟩
            rcases hy with (hy | hy) | hy
            · exact .inl hy
            · exact .inr (by omega)
            · exact .inr (by omega)
          exact AllReadyH.nil
        exact AllReadyH.nil
      exact AllReadyH.nil
    refine AllReadyH.cons (o := _) rfl (fun K hK => ?_) ?_
    · go_simp
      obtain ⟨b8, hb8⟩ : ∃ z, z = (World.heap xs).size := ⟨_, rfl⟩
      have HB8 : Hid (Blk (World.alloc xs (.cells #[.int .i64 (a : Int), .string (bstr b)] 184)) b8 184 #[.int .i64 (a : Int), .string (bstr b)]) := Lib.hid (Blk.new _ _ _ hb8)
      have HOd := Lib.hid (Frm.ownsRow_keeps HOd.out ((Keeps.refl _).alloc (.cells #[.int .i64 (a : Int), .string (bstr b)] 184)))
      have HKX := Lib.hid (HKX.out.alloc (.cells #[.int .i64 (a : Int), .string (bstr b)] 184))
      have hb := hHeld.alloc (.cells #[.int .i64 (a : Int), .string (bstr b)] 184)
      have HBB := Lib.hid hb8
      clear hb8
      generalize World.alloc xs (.cells #[.int .i64 (a : Int), .string (bstr b)] 184) = x15 at *
      refine hK.out _ _ hb (fun _ => ?_)
      clear hK K hHeld
      have hHeld : Mods (· = m) w2 x15 := hb
      clear hb
      try simp only [Act.put, List.setIfInBounds_toArray, List.set_cons_zero, List.set_cons_succ]
      refine wpAnyH_ready (rs := [7]) (by kernel_rfl) (by simp) ?_
      refine AllReadyH.cons (o := _) rfl (fun K hK => ?_) ?_
      · go_simp
        refine (over_r _ fnow b a (by omega) (by omega) (by omega)).mono ?_
        rintro e x7 ⟨rfl, hk7⟩
        have HOd := Lib.hid (Frm.ownsRow_keeps HOd.out hk7)
        have HKX := Lib.hid (HKX.out.trans hk7)
        have HB8 := Lib.hid (HB8.out.keeps hk7)
        have hb := hHeld.trans (Mods.of_keeps (S := (· = m)) hk7) (fun y hy _ => hy)
        clear hk7
        go_wp2_with fail
        refine hK.out _ _ hb (fun _ => ?_)
        clear hK K hHeld
        have hHeld : Mods (· = m) w2 x7 := hb
        clear hb
        try simp only [Act.put, List.setIfInBounds_toArray, List.set_cons_zero, List.set_cons_succ]
        refine wpAnyH_ready (rs := [16]) (by kernel_rfl) (by simp) ?_
        refine AllReadyH.cons (o := _) rfl (fun K hK => ?_) ?_
        · refine step_appF (base := w2.heap.size) writok (by decide) rfl _ _ rfl (.slice p3 nw c3) nw 1 1 ⟨b8, 0, none⟩ (fwt.flatMap wrC) [.int .i64 (a : Int), .string (bstr b)] rfl (congrArg (fun g => Value.slice (some ⟨g, 0, none⟩) 1 1) HBB.out.symm) HOd.out rfl (fun j y hy => by rw [Go.WideShapes.add_plain, HB8.out.cell, Nat.zero_add]; simpa using hy) (by simp [Value.oneCell']) (by omega) (by decide) HKX.out.size ?_
          intro v16 x16 ho hg hf
          obtain ⟨p16, c16, rfl, -, -⟩ := Frm.ownsRow_form ho
          have HO16 := Lib.hid ho
          have HKX := Lib.hid (HKX.out.grown hg (Frm.ownsRow_base HOd.out))
          have hb := hHeld.grown hg (fun k hk hlt => by have := Frm.ownsRow_base HOd.out k hk; omega)
          clear ho hg hf HOd HB8
          show K (Act.put _ (some 57) _) x16
          refine hK.out _ _ hb (fun _ => ?_)
          clear hK K hHeld
          have hHeld : Mods (· = m) w2 x16 := hb
          clear hb
          try simp only [Act.put, List.setIfInBounds_toArray, List.set_cons_zero, List.set_cons_succ]
          refine wpAnyH_take (i := 17) (v := ?vv32) (by rfl) (by kernel_rfl) (by kernel_rfl) (by kernel_rfl) (by intro _ _ _ h; exact h) (Or.inl ⟨by kernel_rfl, ?hy32⟩) (by assumption) ?rest32
          case hy32 =>
            intro w' hSw
            have hSw : Mods (· = m) w2 w' := hSw
            clear hSw
            go_simp
            try with_reducible rfl
          change wpAnyH _ _ _ _ _ _ _ (Act.put _ (some 58) _) _
          try simp only [Act.put, List.setIfInBounds_toArray, List.set_cons_zero, List.set_cons_succ]
          refine wpAnyH_ready (rs := [18]) (by kernel_rfl) (by simp) ?_
          refine AllReadyH.cons (o := _) rfl (fun K hK => ?_) ?_
          · go_simp
            have HWI := Lib.hid (with_r (M := More M w x16) (((HR.out.keeps (HKW.out.trans HKX.out)).wide (fun y hy => .inl hy)).more (Nat.le_succ k)) (by omega) hi (wroteR ⟨fnow, fsure, fwt⟩ ⟨a, b⟩) (.slice p16 (nw + 1) c16) (by have h0 := ownsRow_low HO16.out (Nat.zero_le _); rw [show (wroteR ⟨fnow, fsure, fwt⟩ ⟨a, b⟩).waits.length = nw + 1 from by simp [wroteR, HNW.out], show (wroteR ⟨fnow, fsure, fwt⟩ ⟨a, b⟩).waits.flatMap wrC = fwt.flatMap wrC ++ [.int .i64 (a : Int), .string (bstr b)] from by simp [wroteR, wrC]]; exact h0) (fun y hy => .inr ⟨by have := Frm.ownsRow_base HO16.out y hy; omega, (owns_ty HO16.out hy).lt⟩) HFU.out)
            unfold filA wroteR at HWI
            refine HWI.out.mono ?_
            rintro e xF ⟨rfl, h6, hm6⟩
            have H6 := Lib.hid h6
            have hb := hHeld.trans hm6 (fun y hy _ => hy)
            have hsX := HKX.out.size
            have hsF := hm6.size
            clear h6 hm6 HWI
            go_wp2_with fail
            refine hK.out _ _ hb (fun _ => ?_)
            clear hK K hHeld
            have hHeld : Mods (· = m) w2 xF := hb
            clear hb
            try simp only [Act.put, List.setIfInBounds_toArray, List.set_cons_zero, List.set_cons_succ]
            refine wpAnyH_done (by kernel_rfl) ?_ _
            refine NoPanic.normal ?_
            go_wp2_with fail
            go_ret
            rw [HX.out]
            refine ⟨rfl, H6.out.wide (fun y hy => ?_), (Mods.of_keeps (S := (· = m)) HKW.out).trans hHeld (fun y hy _ => hy)⟩
            rcases hy with (hy | hy) | hy
            · exact .inl hy
            · exact .inr (by omega)
            · exact .inr (by omega)
          exact AllReadyH.nil
        exact AllReadyH.nil
      exact AllReadyH.nil
    exact AllReadyH.nil
/-- the name's file -/
theorem RefIn.named {fv nv sv wv : Value} {fw : List Value} (h : RefIn w M m fv nv sv wv fw d k) {x : Str} {i : Nat} (hl : Vd.look d.now x = some i) : i < d.files.length ∧ ∃ y, (y, i) ∈ d.now := by
  have hm := (look_mem h.fit.an).1 hl
  exact ⟨h.fit.is _ hm, _, hm⟩
theorem beginR_filAt (d : RDsk) (i : Nat) : filAt (beginR d).1 i = filAt d i := by unfold filAt; rw [(beginR_files d).1]
set_option maxRecDepth 100000 in
set_option maxHeartbeats 4000000 in
theorem rappend_r (h : RefAt w M m d k) (hk : k ≤ 90000) (x : Str) {b : Str} {bv : Value} (hb : Row w bv (b.map u8v)) (hbl : b.length ≤ 1000000000) : Calls Try.prog 55 #[.pointer (some ⟨m, 0, none⟩), .string (bstr x), bv] w (RDid w M m (appendR d x b) (k + 2)) := by
  have HB := Lib.hid (begin_r w h (by omega))
  have HX0 : Hid (appendR d x b = if (beginR d).2 ≠ 0 then beginR d else match Vd.look d.now x with | none => ((beginR d).1, 7) | some i => writeR (beginR d).1 i ⟨(filAt (beginR d).1 i).now.length, b⟩) := Lib.hid (by
    unfold appendR
    split
    · rfl
    · cases Vd.look d.now x with
      | none => rfl
      | some i => simp only [beginR_filAt])
  have HFI := Lib.hid (beginR_files d)
  have HBY := Lib.hid (fun (w' : World) (hm : Mods (· = m) w w') => show Row w' bv (b.map u8v) from by obtain ⟨_, _, _, _, _, hh⟩ := h; exact hh.bytes hm hb)
  obtain ⟨pb, cb, rfl, -, -⟩ := hb.formB
  clear h hb
  unfold RDid
  generalize beginR d = r at *
  obtain ⟨d1, er⟩ := r
  simp only at HB HX0 HFI
  go_enter Try.func55, Try.ntmps55
  go_wp2_with fail
  refine HB.out.mono ?_
  rintro e w1 ⟨rfl, h1, hm1⟩
  have H1 := Lib.hid h1
  have HM1 := Lib.hid hm1
  clear h1 hm1 HB
  by_cases he : er = 0
  · subst he
    have HX1 := Lib.hid (HX0.out.trans (if_neg (by simp)))
    have HF := Lib.hid (rfind_r H1.out x)
    have HFR : Hid (findR d1.now x = match Vd.look d1.now x with | none => -1 | some i => (i : Int)) := Lib.hid rfl
    cases hl : Vd.look d1.now x with
    | none =>
      have HX := Lib.hid (show appendR d x b = (d1, 7) from by rw [HX1.out, ← HFI.out.2.1, hl])
      have hfr : findR d1.now x = -1 := by rw [HFR.out, hl]
      rw [hfr] at HF
      clear hfr hl HFR
      go_wp2_with fail
      refine HF.out.mono ?_
      rintro e w2 ⟨rfl, rfl⟩
      go_wp2_with fail
      go_ret
      rw [HX.out]
      exact ⟨rfl, (H1.out.wide (fun y hy => .inl hy)).more (by omega), HM1.out⟩
    | some i =>
      obtain ⟨fv, nv, sv, wv, fw, hi⟩ := H1.out
      obtain ⟨hif, hnm⟩ := hi.named hl
      have HX := Lib.hid (show appendR d x b = writeR d1 i ⟨d1.files[i].now.length, b⟩ from by rw [HX1.out, ← HFI.out.2.1, hl]; show writeR d1 i ⟨(filAt d1 i).now.length, b⟩ = _; rw [filAt_get hif])
      have hfr : findR d1.now x = (i : Int) := by rw [HFR.out, hl]
      rw [hfr] at HF
      have HW := Lib.hid (write_r H1.out (by omega) hif hnm (HBY.out _ HM1.out) hbl (Nat.le_refl _))
      obtain ⟨c0, -⟩ := hi.cells
      obtain ⟨bf, of, cf, hfv, hrg⟩ := hi.file hif
      subst hfv
      have hf0 := hrg 0 _ rfl
      rw [Nat.add_zero] at hf0
      have hsz := bstr_size d1.files[i].now
      have hfl : d1.files.length ≤ 1000000 := by have := hi.fit.f; omega
      have hfb := (hi.fit.b _ (List.getElem_mem hif)).1
      have hil : (i : Int) < (d1.files.length : Int) := by omega
      clear hfr hl HFR hi hrg hnm
      generalize d1.files[i].now = y at *
      go_wp2_with fail
      refine HF.out.mono ?_
      rintro e w2 ⟨rfl, rfl⟩
      go_wp2_with fail
      unfold RDid at HW
      refine HW.out.mono ?_
      rintro e w2 ⟨rfl, h2, hm2⟩
      have H2 := Lib.hid h2
      have HM2 := Lib.hid hm2
      clear h2 hm2 HW HF c0 hf0
      go_wp2_with fail
      go_ret
      rw [HX.out]
      exact ⟨rfl, Mods.more_of HM1.out H2.out, HM1.out.trans HM2.out (fun y hy _ => hy)⟩
  · have HX := Lib.hid (HX0.out.trans (if_pos he))
    have he' : (er != 0) = true := by simp [he]
    clear he
    go_wp2_with fail
    go_ret
    rw [HX.out]
    exact ⟨rfl, (H1.out.wide (fun y hy => .inl hy)).more (by omega), HM1.out⟩
end
end Rf
end Go.Proofs.Ytchjncnolmiejaa

/- Several texts in one: EnBytes, EnEnv, EnJob, EnSrc, EnRdPlain, EnRead, EnRefRd, EnTwoPlain. -/
import Derived.Test.YtkbibhlfehamgaaK13
import Derived.Test.YtkbibhlfehamgaaK17
import Derived.Test.YtkbibhlfehamgaaK15
import Derived.Test.YtkbibhlfehamgaaK05
/- envel.env, envel.step, envel.Step, envel.Bytes. -/
namespace Go.Proofs.Ytkbibhlfehamgaa
open Go.RowKit
namespace Env
open Oct (be putL putB okk textL SinkAt NewSinkDid newSink_any sinkU_any sinkText_any sinkBytes_any be_length RetS)
open Frm (Sole RetSI wrap_any wrapL wrapE)
/-- the sink holds l then; a block that is none of its own is as it was -/
def SoleDid (W w : World) (g : Nat) (v : Value) (l : List UInt8) (r : Ending) (e : Ending) (w' : World) : Prop :=
 ∃ v', e = r ∧ Sole W w' g v' l ∧ ∀ q t cs, Blk w q t cs → (∀ x, Oct.Fr g v x → x ≠ q) → Blk w' q t cs ∧ ∀ x, Oct.Fr g v' x → x ≠ q
theorem apart_did {w w' : World} {g : Nat} {v v' : Value} (hm : Mods (Oct.Fr g v) w w') (hf : Fresh w v v') : ∀ q t cs, Blk w q t cs → (∀ x, Oct.Fr g v x → x ≠ q) → Blk w' q t cs ∧ ∀ x, Oct.Fr g v' x → x ≠ q := by
 intro q t cs hB hq
 refine ⟨hB.mods hm (fun h => hq q h rfl), ?_⟩
 rintro x (rfl | hx)
 ·exact hq _ (.inl rfl)
 ·rcases hf x hx with h | h
  ·exact hq _ (.inr h)
  ·have := hB.lt; omega
theorem putL_be {x k : Nat} (hk : 1 ≤ k ∧ k ≤ 8) (hx : x < 256 ^ k) : putL x k = be k x ∧ putB x k = true := by
 have : putB x k = true := by simp [putB, okk, hx]; omega
 refine ⟨?_, this⟩
 unfold putL
 rw [if_pos this]
 rfl
theorem soleU {W w : World} {g : Nat} {v : Value} {l : List UInt8} (h : Sole W w g v l) (x k : Nat) (ki : Int) (hki : ki = (k : Int)) (hk : 1 ≤ k ∧ k ≤ 8) (hx : x < 256 ^ k) (hl : l.length ≤ 1000000000) :
  Calls Try.prog 49 #[.pointer (some ⟨g, 0, none⟩), .int .u64 (x : Int), .int .i64 ki] w (SoleDid W w g v (l ++ be k x) (.returned (.bool true))) := by
 subst hki
 have h1 := putL_be hk hx
 have h64 : x < 18446744073709551616 := Nat.lt_of_lt_of_le hx (Nat.le_trans (Nat.pow_le_pow_right (by omega) hk.2) (by decide))
 refine (sinkU_any g v l x h64 k w h.sink (by omega)).mono ?_
 rintro e w' ⟨v', rfl, hs, hm, hf⟩
 refine ⟨v', by rw [h1.2], ?_, apart_did hm hf⟩
 have := h.did hs hm hf
 rwa [h1.1] at this
theorem soleText {W w : World} {g : Nat} {v : Value} {l : List UInt8} (h : Sole W w g v l) (s : List UInt8) (hs : s.length ≤ 1000000) (hl : l.length ≤ 1000000000) :
  Calls Try.prog 54 #[.pointer (some ⟨g, 0, none⟩), .string (bstr s)] w (SoleDid W w g v (l ++ textB s) (.returned (.tuple #[]))) := by
 refine (sinkText_any g v l (bstr s) w h.sink (by rw [bstr_size]; omega)).mono ?_
 rintro e w' ⟨v', rfl, hk, hm, hf⟩
 refine ⟨v', rfl, ?_, apart_did hm hf⟩
 have := h.did hk hm hf
 have e : textL (bstr s) = textB s := by
  unfold textL textB
  rw [bstr_size, show putL s.length 4 = be 4 s.length from (putL_be (by decide) (Nat.lt_of_le_of_lt hs (by decide))).1]
  rfl
 rwa [e] at this
theorem soleNew (w : World) : Calls Try.prog 48 #[] w fun e w' => ∃ g, e = .returned (.pointer (some ⟨g, 0, none⟩)) ∧ w.heap.size ≤ g ∧ Sole w w' g (.slice none 0 0) [] := by
 refine (newSink_any w).mono ?_
 rintro e w' ⟨g, rfl, hg, hs, hk⟩
 exact ⟨g, rfl, hg, Sole.new hs hg hk⟩
theorem goodSt_nat {x : StP} (h : goodStB x = true) : ∃ s t d c : Nat, x = ⟨s, t, d, c⟩ ∧ s ≤ 3 ∧ t ≤ 65535 ∧ d ≤ 4503599627370496 ∧ c ≤ 599 := by
 obtain ⟨s, t, d, c⟩ := x
 simp [goodStB, inB, maxT] at h
 obtain ⟨⟨⟨⟨h1, h2⟩, h3, h4⟩, h5, h6⟩, h7⟩ := h
 have h6 : d ≤ 4503599627370496 := of_decide_eq_true h6
 obtain ⟨s, rfl⟩ := Int.eq_ofNat_of_zero_le h1
 obtain ⟨t, rfl⟩ := Int.eq_ofNat_of_zero_le h3
 obtain ⟨d, rfl⟩ := Int.eq_ofNat_of_zero_le h5
 obtain ⟨c, rfl⟩ := Int.eq_ofNat_of_zero_le (show 0 ≤ c by omega)
 exact ⟨s, t, d, c, rfl, by omega, by omega, by omega, by omega⟩
theorem stepP_len (k : Nat) (x : StP) : (stepP k x).length = 14 := by simp [stepP, be_length]
set_option maxRecDepth 100000 in
set_option maxHeartbeats 1000000 in
theorem step_any (w : World) (k s t d c : Nat) (hk : k ≤ 19) (hs : s ≤ 3) (ht : t ≤ 65535) (hd : d ≤ 4503599627370496) (hc : c ≤ 599) :
  Calls Try.prog 35 #[.int .i64 (k : Int), .agg #[.int .i64 (s : Int), .int .i64 (t : Int), .int .i64 (d : Int), .int .i64 (c : Int)]] w (RetS w (stepP k ⟨s, t, d, c⟩)) := by
 have HX := Lib.hid (show be 1 k ++ be 1 s ++ be 2 t ++ be 8 d ++ be 2 c = stepP k ⟨s, t, d, c⟩ from rfl)
 have HL := Lib.hid (fun n x => be_length n x)
 have HK := Lib.hid ((Keeps.refl w).alloc (.cells #[.int .i64 (s : Int), .int .i64 (t : Int), .int .i64 (d : Int), .int .i64 (c : Int)] 44))
 have HB := Lib.hid (Blk.new w 44 #[.int .i64 (s : Int), .int .i64 (t : Int), .int .i64 (d : Int), .int .i64 (c : Int)] rfl)
 generalize stepP k ⟨s, t, d, c⟩ = L at *
 go_enter Try.func35, Try.ntmps35
 go_wp2_with fail
 refine (soleNew _).mono ?_
 rintro e w1 ⟨g, rfl, hg, hso⟩
 generalize w.alloc (.cells #[.int .i64 (s : Int), .int .i64 (t : Int), .int .i64 (d : Int), .int .i64 (c : Int)] 44) = w0 at *
 generalize w.heap.size = b at *
 have HSo := Lib.hid hso
 clear hso
 go_wp2_with fail
 refine (soleU HSo.out k 1 1 rfl (by omega) (by omega) (by simp [be_length])).mono ?_
 rintro e w2 ⟨v2, rfl, hso, -⟩
 have HS2 := Lib.hid hso
 clear hso
 have c0 : w2.cell? ⟨b, 0, none⟩ = some (.int .i64 (s : Int)) := by rw [(HB.out.keeps HS2.out.keeps).cell]; rfl
 go_wp2_with fail
 refine (soleU HS2.out s 1 1 rfl (by omega) (by omega) (by simp [be_length])).mono ?_
 rintro e w3 ⟨v3, rfl, hso, -⟩
 have HS3 := Lib.hid hso
 clear hso c0
 have c1 : w3.cell? ⟨b, 1, none⟩ = some (.int .i64 (t : Int)) := by rw [(HB.out.keeps HS3.out.keeps).cell]; rfl
 go_wp2_with fail
 refine (soleU HS3.out t 2 2 rfl (by omega) (by omega) (by simp [be_length])).mono ?_
 rintro e w4 ⟨v4, rfl, hso, -⟩
 have HS4 := Lib.hid hso
 clear hso c1
 have c2 : w4.cell? ⟨b, 2, none⟩ = some (.int .i64 (d : Int)) := by rw [(HB.out.keeps HS4.out.keeps).cell]; rfl
 go_wp2_with fail
 refine (soleU HS4.out d 8 8 rfl (by omega) (by omega) (by simp [be_length])).mono ?_
 rintro e w5 ⟨v5, rfl, hso, -⟩
 have HS5 := Lib.hid hso
 clear hso c2
 have c3 : w5.cell? ⟨b, 3, none⟩ = some (.int .i64 (c : Int)) := by rw [(HB.out.keeps HS5.out.keeps).cell]; rfl
 go_wp2_with fail
 refine (soleU HS5.out c 2 2 rfl (by omega) (by omega) (by simp [be_length])).mono ?_
 rintro e w6 ⟨v6, rfl, hso, -⟩
 have HS6 := Lib.hid hso
 clear hso c3
 have hle : w.heap.size ≤ w6.heap.size := (HK.out.trans HS6.out.keeps).size
 go_wp2_with fail
 refine (sinkBytes_any g v6 _ w6 HS6.out.sink (by simp [be_length])).mono ?_
 rintro e w7 ⟨v7, rfl, ho, hk⟩
 have HO := Lib.hid ho
 have HKK := Lib.hid (HK.out.trans (HS6.out.keeps.trans hk))
 clear ho hk
 go_wp2_with fail
 go_ret
 refine ⟨v7, rfl, ?_, HKK.out⟩
 rw [← HX.out]
 exact HO.out.lower hle
theorem fresh_any (a : Int) (w : World) : Calls Try.prog 15 #[.int .i64 a] w fun e w' => e = .returned (.agg #[.int .i64 0, .int .i64 0, .int .i64 a, .int .i64 0]) ∧ Keeps w w' := by
 go_enter Try.func15, Try.ntmps15
 go_wp2_with fail
 have HL := Lib.hid (ld_run (P := Try.prog) stM (Blk.new w 44 #[.int .i64 0, .int .i64 0, .int .i64 a, .int .i64 0] rfl))
 exact bodyPost_ret (v := .agg #[.int .i64 0, .int .i64 0, .int .i64 a, .int .i64 0]) (by simp [results, Try.results15, go_sem, HL.out]) rfl ⟨rfl, (Keeps.refl _).alloc _⟩
theorem wrapL_le {k : Int} {p : List UInt8} : (wrapL k p).length ≤ 131091 := by
 unfold wrapL
 split
 ·rename_i h
  have hp : p.length ≤ 65536 := by
   unfold wrapE at h
   split at h
   ·simp at h
   ·split at h
    ·simp at h
    ·omega
  have := (Frm.veil_len (Frm.body k.toNat p)).2
  rw [Frm.body_len] at this
  simp only [List.length_cons]
  omega
 ·simp
set_option maxRecDepth 100000 in
theorem stepS_any (w : World) (k : Int) (x : StP) : Calls Try.prog 14 #[.int .i64 k, .agg (stA x)] w (RetSI w (stepL k x) (stepE k x)) := by
 have HB := Lib.hid (Blk.new w 44 (stA x) rfl)
 have HK := Lib.hid ((Keeps.refl w).alloc (.cells (stA x) 44))
 have HW := Lib.hid (within_any k 0 19)
 have HG := Lib.hid (goodState_any x)
 have HP := Lib.hid (show stepE k x = (if inB k 0 19 = false then 1 else if goodStB x = false then 3 else 0) from rfl)
 have HQ := Lib.hid (show stepL k x = (if stepE k x = 0 then wrapL 18 (stepP k.toNat x) else []) from rfl)
 have HH := Lib.hid (show inB k 0 19 = true → ∃ n : Nat, k = n ∧ n ≤ 19 from fun h => by
  simp [inB] at h
  obtain ⟨n, rfl⟩ := Int.eq_ofNat_of_zero_le h.1
  exact ⟨n, rfl, by omega⟩)
 have HS := Lib.hid (@goodSt_nat x)
 generalize stepE k x = er at *
 generalize stepL k x = L at *
 generalize inB k 0 19 = b1 at *
 generalize goodStB x = b2 at *
 go_enter Try.func14, Try.ntmps14
 go_wp2_with fail
 refine (HW.out _).mono ?_
 rintro e w1 ⟨rfl, rfl⟩
 generalize w.alloc (.cells (stA x) 44) = w1 at *
 generalize hwb : w.heap.size = b at *
 have HWB := Lib.hid hwb
 clear hwb
 cases b1 with
 | false =>
  have HX := Lib.hid (show er = 1 from by rw [HP.out]; rfl)
  have HY := Lib.hid (show L = [] from by rw [HQ.out, HX.out]; rfl)
  go_wp2_with fail
  exact bodyPost_ret (v := .tuple #[.slice none 0 0, .int .i64 1]) (by simp [results, Try.results14, go_sem]) rfl ⟨_, by rw [HX.out], by rw [HY.out]; exact Own.nil _ _ _, HK.out⟩
 | true =>
 obtain ⟨n, rfl, hn⟩ := HH.out rfl
 go_wp2_with (refine wpList_ld rfl stM HB.out _ rfl rfl ?_)
 refine (HG.out _).mono ?_
 rintro e w2 ⟨rfl, hk⟩
 have HB2 := Lib.hid (HB.out.keeps hk)
 have HK2 := Lib.hid (HK.out.trans hk)
 clear hk
 cases b2 with
 | false =>
  have HX := Lib.hid (show er = 3 from by rw [HP.out]; rfl)
  have HY := Lib.hid (show L = [] from by rw [HQ.out, HX.out]; rfl)
  go_wp2_with fail
  exact bodyPost_ret (v := .tuple #[.slice none 0 0, .int .i64 3]) (by simp [results, Try.results14, go_sem]) rfl ⟨_, by rw [HX.out], by rw [HY.out]; exact Own.nil _ _ _, HK2.out⟩
 | true =>
 obtain ⟨s, t, d, c, rfl, h1, h2, h3, h4⟩ := HS.out rfl
 have HX := Lib.hid (show er = 0 from by rw [HP.out]; rfl)
 have HY := Lib.hid (show L = wrapL 18 (stepP n ⟨s, t, d, c⟩) from by rw [HQ.out, HX.out]; rfl)
 have HST := Lib.hid (step_any w2 n s t d c hn h1 h2 h3 h4)
 have HL := Lib.hid (stepP_len n ⟨s, t, d, c⟩)
 clear HP HQ HG HS HH
 generalize stepP n ⟨s, t, d, c⟩ = P at *
 go_wp2_with (refine wpList_ld rfl stM HB2.out _ rfl rfl ?_)
 refine HST.out.mono ?_
 rintro e w3 ⟨v3, rfl, ho, hk⟩
 have HO := Lib.hid ho
 have HK3 := Lib.hid (HK2.out.trans hk)
 obtain ⟨p3, n3, c3, rfl⟩ := ho.sl
 clear ho hk
 go_wp2_with fail
 refine (wrap_any 18 _ P w3 HO.out.row).mono ?_
 rintro e w4 ⟨v4, rfl, ho, hk⟩
 have HO4 := Lib.hid (show Own w4 w.heap.size 5 v4 ((wrapL 18 P).map u8v) from ho.lower HK3.out.size)
 have HK4 := Lib.hid (HK3.out.trans hk)
 have HE := Lib.hid (show wrapE 18 P.length = 0 from by rw [HL.out]; rfl)
 obtain ⟨p4, n4, c4, rfl⟩ := ho.sl
 clear ho hk
 rw [HE.out]
 go_wp2_with fail
 exact bodyPost_ret (v := .tuple #[.slice p4 n4 c4, .int .i64 0]) (by simp [results, Try.results14, go_sem]) rfl ⟨_, by rw [HX.out], by rw [HY.out]; exact HO4.out, HK4.out⟩
end Env
end Go.Proofs.Ytkbibhlfehamgaa

/- envel.env: the payload of a job's first frame. -/
namespace Go.Proofs.Ytkbibhlfehamgaa
open Go.RowKit
namespace Env
open Adr (goodB Str)
open Oct (be putL putB okk textL SinkAt sinkBytes_any be_length RetS)
open Frm (Sole RetSI wrap_any wrapL wrapE)
theorem goodB_len {l d : Str} (h : goodB l d = true) : l.length ≤ 64 ∧ d.length ≤ 64 := by
 simp [goodB, Adr.domainB] at h
 omega
theorem tgsB_all : ∀ (l : List TgP) (p : List Int), tgsB p l = true → ∀ t ∈ l, tgB t = true
 | [], _, _, t, ht => by simp at ht
 | a :: l, p, h, t, ht => by
  simp only [tgsB, Bool.and_eq_true] at h
  rcases List.mem_cons.1 ht with rfl | ht
  ·exact h.1.2
  ·exact tgsB_all l _ h.2 t ht
/-- a right job in numbers -/
structure JobN (j : JobP) (n m : Nat) : Prop where
 id : j.id = n
 arr : j.arr = m
 id1 : 1 ≤ n ∧ n ≤ 1099511627776
 arr1 : m ≤ 4503599627370496
 fr : j.fl.length ≤ 64 ∧ j.fd.length ≤ 64
 cnt : 1 ≤ j.tos.length ∧ j.tos.length ≤ 20
 all : ∀ t ∈ j.tos, (∃ u : Nat, t.u = u ∧ 1 ≤ u ∧ u ≤ 999) ∧ t.l.length ≤ 64 ∧ t.d.length ≤ 64
theorem envB_nat {j : JobP} (h : envB j = true) : ∃ n m : Nat, JobN j n m := by
 have hx : (((inB j.id 1 1099511627776 = true ∧ inB j.arr 0 4503599627370496 = true) ∧ inB j.tos.length 1 20 = true) ∧ fromB j = true) ∧ tgsB [] j.tos = true := by
  simpa only [envB, maxT, Bool.and_eq_true] using h
 obtain ⟨⟨⟨⟨h1, h2⟩, h3⟩, h4⟩, h5⟩ := hx
 simp only [inB, Bool.and_eq_true, decide_eq_true_eq] at h1 h2 h3
 obtain ⟨n, hn⟩ := Int.eq_ofNat_of_zero_le (show 0 ≤ j.id by omega)
 obtain ⟨m, hm⟩ := Int.eq_ofNat_of_zero_le h2.1
 refine ⟨n, m, hn, hm, by omega, by omega, ?_, by omega, fun t ht => ?_⟩
 ·rw [fromB, Bool.or_eq_true, Bool.and_eq_true, decide_eq_true_eq, decide_eq_true_eq] at h4
  rcases h4 with ⟨h, h'⟩ | h
  ·rw [h, h']; simp
  ·exact goodB_len h
 ·have := tgsB_all _ _ h5 t ht
  rw [tgB, Bool.and_eq_true] at this
  have h6 := this.1
  simp only [inB, Bool.and_eq_true, decide_eq_true_eq] at h6
  obtain ⟨u, hu⟩ := Int.eq_ofNat_of_zero_le (show 0 ≤ t.u by omega)
  exact ⟨⟨u, hu, by omega, by omega⟩, goodB_len this.2⟩
theorem textB_len (s : Str) : (textB s).length = 4 + s.length := by simp [textB, be_length]
theorem tgs_len {l : List TgP} (h : ∀ t ∈ l, t.l.length ≤ 64 ∧ t.d.length ≤ 64) : (l.flatMap tgL).length ≤ 138 * l.length := by
 induction l with
 | nil => simp
 | cons t l ih =>
  have h1 := ih (fun x hx => h x (List.mem_cons_of_mem _ hx))
  have h2 := h t (List.mem_cons_self ..)
  simp only [List.flatMap_cons, List.length_append, List.length_cons, tgL, be_length, textB_len]
  omega
set_option maxRecDepth 100000 in
set_option maxHeartbeats 2000000 in
theorem env_any (w : World) (j : JobP) (vt vs vb : Value) (h : JobAt w j vt vs vb) (n m : Nat) (hn : JobN j n m) : Calls Try.prog 29 #[.agg (jobA j vt vs vb)] w (RetS w (envL j)) := by
 obtain ⟨pt, ct, rfl, hct1, hct2⟩ := h.tos.form
 obtain ⟨id, arr, fl, fd, tos, st, body⟩ := j
 obtain ⟨rfl, rfl, ⟨hn1, hn2⟩, hm1, ⟨hf1, hf2⟩, ⟨hc1, hc2⟩, hall⟩ := hn
 simp only at *
 have HT := Lib.hid h.tos
 have HA := Lib.hid hall
 have HX := Lib.hid (show (((([] ++ be 8 n) ++ be 8 m) ++ textB fl) ++ textB fd ++ be 1 tos.length) ++ tos.flatMap tgL = envL ⟨n, m, fl, fd, tos, st, body⟩ from rfl)
 have HLH := Lib.hid (show (((([] ++ be 8 n) ++ be 8 m) ++ textB fl) ++ textB fd ++ be 1 tos.length).length ≤ 153 from by simp [be_length, textB_len]; omega)
 have HB := Lib.hid (Blk.new w 29 (jobA ⟨n, m, fl, fd, tos, st, body⟩ (.slice pt tos.length ct) vs vb) rfl)
 have HK := Lib.hid ((Keeps.refl w).alloc (.cells (jobA ⟨n, m, fl, fd, tos, st, body⟩ (.slice pt tos.length ct) vs vb) 29))
 have hwn : IntKind.u64.wrap (n : Int) = (n : Int) := by rw [IntKind.wrap_u64]; omega
 have hwm : IntKind.u64.wrap (m : Int) = (m : Int) := by rw [IntKind.wrap_u64]; omega
 have hwt : IntKind.u64.wrap (tos.length : Int) = (tos.length : Int) := by rw [IntKind.wrap_u64]; omega
 clear h hall
 generalize envL ⟨n, m, fl, fd, tos, st, body⟩ = L at *
 go_enter Try.func29, Try.ntmps29
 go_wp2_with fail
 refine (soleNew _).mono ?_
 rintro e w1 ⟨g, rfl, hg, hso⟩
 have HTW := Lib.hid (HT.out.keeps HK.out)
 have HWS := Lib.hid HK.out.size
 generalize w.alloc (.cells (jobA ⟨n, m, fl, fd, tos, st, body⟩ (.slice pt tos.length ct) vs vb) 29) = w0 at *
 generalize hb : w.heap.size = b at *
 have HBB := Lib.hid hb
 clear hb
 have HS1 := Lib.hid hso
 have c0 : w1.cell? ⟨b, 0, none⟩ = some (.int .i64 (n : Int)) := by rw [(HB.out.keeps HS1.out.keeps).cell]; rfl
 clear hso
 go_wp2_with fail
 refine (soleU HS1.out n 8 8 rfl (by omega) (by omega) (by simp [be_length])).mono ?_
 rintro e w2 ⟨v2, rfl, hso, -⟩
 have HS2 := Lib.hid hso
 have c1 : w2.cell? ⟨b, 1, none⟩ = some (.int .i64 (m : Int)) := by rw [(HB.out.keeps HS2.out.keeps).cell]; rfl
 clear hso c0
 go_wp2_with fail
 refine (soleU HS2.out m 8 8 rfl (by omega) (by omega) (by simp [be_length])).mono ?_
 rintro e w3 ⟨v3, rfl, hso, -⟩
 have HS3 := Lib.hid hso
 have c2 : w3.cell? ⟨b, 2, none⟩ = some (.string (bstr fl)) := by rw [(HB.out.keeps HS3.out.keeps).cell]; rfl
 clear hso c1
 go_wp2_with fail
 refine (soleText HS3.out fl (by omega) (by simp [be_length])).mono ?_
 rintro e w4 ⟨v4, rfl, hso, -⟩
 have HS4 := Lib.hid hso
 have c3 : w4.cell? ⟨b, 3, none⟩ = some (.string (bstr fd)) := by rw [(HB.out.keeps HS4.out.keeps).cell]; rfl
 clear hso c2
 go_wp2_with fail
 refine (soleText HS4.out fd (by omega) (by simp [be_length, textB_len]; omega)).mono ?_
 rintro e w5 ⟨v5, rfl, hso, -⟩
 have HS5 := Lib.hid hso
 have c4 : w5.cell? ⟨b, 4, none⟩ = some (.slice pt tos.length ct) := by rw [(HB.out.keeps HS5.out.keeps).cell]; rfl
 clear hso c3
 go_wp2_with fail
 refine (soleU HS5.out tos.length 1 1 rfl (by omega) (by omega) (by simp [be_length, textB_len]; omega)).mono ?_
 rintro e w6 ⟨v6, rfl, hso, -⟩
 have HS6 := Lib.hid hso
 have c4' : w6.cell? ⟨b, 4, none⟩ = some (.slice pt tos.length ct) := by rw [(HB.out.keeps HS6.out.keeps).cell]; rfl
 clear hso c4
 generalize (((([] ++ be 8 n) ++ be 8 m) ++ textB fl) ++ textB fd ++ be 1 tos.length) = hd at *
 go_wp2_with fail
 clear c4'
 go_loopw [36] (fun iv wr => ∃ (i : Nat) (v : Value), iv = .int .i64 (i : Int) ∧ i ≤ tos.length ∧ Hid (Sole w0 wr g v (hd ++ (tos.take i).flatMap tgL))) (fun iv _ => tos.length - (intOf iv).toNat)
 case atStart => exact ⟨0, v6, rfl, Nat.zero_le _, Lib.hid (by simpa using HS6.out)⟩
 case round =>
  obtain ⟨i, v, rfl, hi, HS⟩ := hrel
  by_cases hlt : i < tos.length
  ·have hw : IntKind.i64.wrap ((i : Int) + 1) = (i : Int) + 1 := IntWalk.i64_in _ (by omega)
   obtain ⟨b2, off, cap, hv, hrg⟩ := rowS_at tgC_len (HTW.out.keeps HS.out.keeps) hlt
   simp only [Value.slice.injEq] at hv
   obtain ⟨rfl, -, rfl⟩ := hv
   obtain ⟨⟨u, hu, hu1, hu2⟩, hl1, hl2⟩ := HA.out _ (List.getElem_mem hlt)
   have HN := Lib.hid (show ((hd ++ (tos.take i).flatMap tgL) ++ be 2 tos[i].u.toNat ++ textB tos[i].l ++ textB tos[i].d) = hd ++ (tos.take (i + 1)).flatMap tgL from by
    rw [List.take_succ_eq_append_getElem hlt, List.flatMap_append]
    simp [tgL])
   have hlen : (hd ++ (tos.take i).flatMap tgL).length ≤ 3000 := by
    have h1 := tgs_len (l := tos.take i) (fun t ht => (HA.out t (List.mem_of_mem_take ht)).2)
    have h2 := HLH.out
    rw [List.length_append]
    rw [List.length_take] at h1
    omega
   generalize hd ++ (tos.take i).flatMap tgL = L1 at *
   generalize hL2 : hd ++ (tos.take (i + 1)).flatMap tgL = L2 at *
   have HL2 := Lib.hid hL2
   clear hL2
   generalize tos[i] = t at *
   obtain ⟨ut, tl, td⟩ := t
   simp only at hu hl1 hl2
   subst hu
   have HRG := Lib.hid (show wr.rangeAt b2 (off + i * 3) [.int .i64 (u : Int), .string (bstr tl), .string (bstr td)] from hrg)
   have hwu : IntKind.u64.wrap (u : Int) = (u : Int) := by rw [IntKind.wrap_u64]; omega
   clear hrg
   go_upto_region 10 with (refine wpList_ldR rfl tgM HRG.out _ rfl rfl ?_)
   generalize hW : World.alloc wr _ = y1
   have HKy := Lib.hid (show Keeps wr y1 from by rw [← hW]; exact (Keeps.refl _).alloc _)
   have HFy := Lib.hid (show Blk y1 wr.heap.size 47 #[.int .i64 (u : Int), .string (bstr tl), .string (bstr td)] from by rw [← hW]; exact Blk.new _ _ _ rfl)
   clear hW HRG
   have HSy := Lib.hid (HS.out.kept HKy.out)
   obtain ⟨q, hq⟩ : ∃ q, q = wr.heap.size := ⟨_, rfl⟩
   rw [← hq] at HFy ⊢
   have hqg : ∀ x, Oct.Fr g v x → x ≠ q := fun x hx e => by have := HS.out.sink.lt x hx; omega
   clear hq HKy HS
   have q0 : y1.cell? ⟨q, 0, none⟩ = some (.int .i64 (u : Int)) := by rw [HFy.out.cell]; rfl
   go_wp2_with fail
   refine (soleU HSy.out u 2 2 rfl (by omega) (by omega) (by omega)).mono ?_
   rintro e y2 ⟨x2, rfl, hso, hap⟩
   obtain ⟨hB2, hq2⟩ := hap q _ _ HFy.out hqg
   have HSz := Lib.hid hso
   have HFz := Lib.hid hB2
   have q1 : y2.cell? ⟨q, 1, none⟩ = some (.string (bstr tl)) := by rw [HFz.out.cell]; rfl
   clear hso hap hB2 q0
   go_wp2_with fail
   refine (soleText HSz.out tl (by omega) (by simp [be_length]; omega)).mono ?_
   rintro e y3 ⟨x3, rfl, hso, hap⟩
   obtain ⟨hB3, hq3⟩ := hap q _ _ HFz.out hq2
   have HSu := Lib.hid hso
   have HFu := Lib.hid hB3
   have q2 : y3.cell? ⟨q, 2, none⟩ = some (.string (bstr td)) := by rw [HFu.out.cell]; rfl
   clear hso hap hB3 q1
   go_wp2_with fail
   refine (soleText HSu.out td (by omega) (by simp [be_length, textB_len]; omega)).mono ?_
   rintro e y4 ⟨x4, rfl, hso, -⟩
   have HSv := Lib.hid (show Sole w0 y4 g x4 L2 from by rw [← HN.out]; simpa using hso)
   clear hso q2
   go_wp2_with fail
   go_roundw
   case rel => exact ⟨i + 1, x4, by simp, by omega, Lib.hid (by rw [HL2.out]; exact HSv.out)⟩
   case measure =>
    simp only [intOf]
    omega
  ·have hie : i = tos.length := by omega
   have HL := Lib.hid (show hd ++ (tos.take i).flatMap tgL = L from by rw [List.take_of_length_le (by omega)]; exact HX.out)
   have hlen : L.length ≤ 3000 := by
    have h1 := tgs_len (l := tos) (fun t ht => (HA.out t ht).2)
    have h2 := HLH.out
    rw [← HX.out, List.length_append]
    omega
   rw [HL.out] at HS
   clear hie
   go_wp2_with fail
   refine (sinkBytes_any g v _ wr HS.out.sink (by omega)).mono ?_
   rintro e w7 ⟨v7, rfl, ho, hk⟩
   have HO := Lib.hid (ho.lower (Nat.le_trans HWS.out HS.out.keeps.size))
   have HKK := Lib.hid (HK.out.trans (HS.out.keeps.trans hk))
   clear ho hk
   go_wp2_with fail
   go_ret
   exact ⟨v7, rfl, by rw [HBB.out]; exact HO.out, HKK.out⟩
end Env
end Go.Proofs.Ytkbibhlfehamgaa

/- envel.Bytes. -/
namespace Go.Proofs.Ytkbibhlfehamgaa
open Go.RowKit
namespace Env
open Adr (goodB Str)
open Oct (be u8ok RetS)
open Frm (Sole RetSI wrap_any wrapL wrapE)
theorem stsL_append (a : Int) : ∀ (l m : List StP) (i : Nat), stsL a i (l ++ m) = stsL a i l ++ stsL a (i + l.length) m
 | [], m, i => by simp [stsL]
 | x :: l, m, i => by
  simp only [List.cons_append, stsL, List.length_cons]
  rw [stsL_append a l m (i + 1), List.append_assoc, show i + 1 + l.length = i + (l.length + 1) by omega]
theorem stsL_next (a : Int) {l : List StP} {i : Nat} (h : i < l.length) : stsL a 0 (l.take (i + 1)) = stsL a 0 (l.take i) ++ (if l[i] = freshS a then [] else stepL i l[i]) := by
 rw [List.take_succ_eq_append_getElem h, stsL_append]
 simp only [stsL, List.append_nil, Nat.zero_add, List.length_take]
 rw [Nat.min_eq_left (by omega)]
theorem stepL_le (k : Int) (x : StP) : (stepL k x).length ≤ 131091 := by
 unfold stepL
 split
 ·exact wrapL_le
 ·simp
theorem stsL_le (a : Int) : ∀ (l : List StP) (i : Nat), (stsL a i l).length ≤ 131091 * l.length
 | [], i => by simp [stsL]
 | x :: l, i => by
  have h1 := stsL_le a l (i + 1)
  have h2 := stepL_le i x
  simp only [stsL, List.length_append, List.length_cons]
  split
  ·simp; omega
  ·omega
set_option maxRecDepth 100000 in
set_option maxHeartbeats 2000000 in
theorem bytes_any (w : World) (j : JobP) (vt vs vb : Value) (h : JobAt w j vt vs vb) (hsh : Short j) : Calls Try.prog 12 #[.agg (jobA j vt vs vb)] w (RetSI w (bytesL j) (bytesE j)) := by
 obtain ⟨pt, ct, rfl, hct1, hct2⟩ := h.tos.form
 obtain ⟨ps, cs, rfl, hcs1, hcs2⟩ := h.st.form
 obtain ⟨pb, cb, rfl, hcb1, hcb2⟩ := h.body.formB
 have HJ := Lib.hid h
 have HB := Lib.hid (Blk.new w 29 (jobA j (.slice pt j.tos.length ct) (.slice ps j.st.length cs) (.slice pb j.body.length cb)) rfl)
 have HK := Lib.hid ((Keeps.refl w).alloc (.cells (jobA j (.slice pt j.tos.length ct) (.slice ps j.st.length cs) (.slice pb j.body.length cb)) 29))
 have HG := Lib.hid (goodJ_any _ j _ _ _ (h.keeps HK.out) hsh)
 have HE := Lib.hid (show bytesE j = (if goodJ j then 0 else 3) from rfl)
 have HL := Lib.hid (show bytesL j = (if goodJ j then wrapL 16 (envL j) ++ wrapL 17 j.body ++ stsL j.arr 0 j.st else []) from rfl)
 have HGJ := Lib.hid (show goodJ j = true → ∃ n m, JobN j n m ∧ j.st.length ≤ 20 ∧ j.st.all goodStB = true from fun hg => by
  unfold goodJ at hg
  simp only [Bool.and_eq_true, decide_eq_true_eq] at hg
  obtain ⟨n, m, hn⟩ := envB_nat hg.1.1.1
  exact ⟨n, m, hn, by rw [hg.1.1.2]; exact hn.cnt.2, hg.2⟩)
 generalize bytesE j = er at *
 generalize bytesL j = L at *
 clear h hsh
 generalize goodJ j = gj at *
 go_enter Try.func12, Try.ntmps12
 go_wp2_with (refine wpList_ld rfl jobM HB.out _ rfl rfl ?_)
 refine HG.out.mono ?_
 rintro e w1 ⟨rfl, hk⟩
 have HB1 := Lib.hid (HB.out.keeps hk)
 have HK1 := Lib.hid (HK.out.trans hk)
 clear hk HB HK HG
 generalize hg : w.heap.size = g at *
 have HGE := Lib.hid hg
 clear hg
 cases gj with
 | false =>
  have HX := Lib.hid (show er = 3 from by rw [HE.out]; rfl)
  have HY := Lib.hid (show L = [] from by rw [HL.out]; rfl)
  go_wp2_with fail
  exact bodyPost_ret (v := .tuple #[.slice none 0 0, .int .i64 3]) (by simp [results, Try.results12, go_sem]) rfl ⟨_, by rw [HX.out], by rw [HY.out]; exact Own.nil _ _ _, HK1.out⟩
 | true =>
 obtain ⟨n, m, hn, hs20, hall⟩ := HGJ.out rfl
 have HX := Lib.hid (show er = 0 from by rw [HE.out]; rfl)
 have HY := Lib.hid (show L = wrapL 16 (envL j) ++ wrapL 17 j.body ++ stsL j.arr 0 j.st from by rw [HL.out]; rfl)
 have HEV := Lib.hid (env_any w1 j _ _ _ (HJ.out.keeps HK1.out) n m hn)
 clear HGJ HE HL hn
 generalize envL j = P at *
 go_wp2_with (refine wpList_ld rfl jobM HB1.out _ rfl rfl ?_)
 refine HEV.out.mono ?_
 rintro e w2 ⟨v2, rfl, ho, hk⟩
 have HO2 := Lib.hid ho
 have HB2 := Lib.hid (HB1.out.keeps hk)
 have HK2 := Lib.hid (HK1.out.trans hk)
 obtain ⟨p2, n2, c2, rfl⟩ := ho.sl
 clear ho hk HB1 HEV HK1
 go_wp2_with fail
 refine (wrap_any 16 _ P w2 HO2.out.row).mono ?_
 rintro e w3 ⟨v3, rfl, ho, hk⟩
 have HO3 := Lib.hid (ho.lower (base' := g) (by rw [← HGE.out]; exact HK2.out.size))
 have HB3 := Lib.hid (HB2.out.keeps hk)
 have HK3 := Lib.hid (HK2.out.trans hk)
 obtain ⟨p3, c3, rfl, hc3⟩ := ho.row.form
 clear ho hk HB2 HO2 HK2
 have b6 : w3.cell? ⟨g, 6, none⟩ = some (.slice pb j.body.length cb) := by rw [HB3.out.cell]; rfl
 have HLA := Lib.hid (wrapL_le (k := 16) (p := P))
 generalize wrapE 16 P.length = er1 at *
 generalize wrapL 16 P = A at *
 rw [List.length_map] at HO3 ⊢
 go_wp2_with fail
 refine (wrap_any 17 _ j.body w3 (HJ.out.body.keeps HK3.out)).mono ?_
 rintro e w4 ⟨v4, rfl, ho, hk⟩
 have HO4 := Lib.hid ho
 have HOA := Lib.hid (HO3.out.keeps hk)
 have HB4 := Lib.hid (HB3.out.keeps hk)
 have HK4 := Lib.hid (HK3.out.trans hk)
 obtain ⟨p4, c4, rfl, hc4⟩ := ho.row.form
 clear ho hk HB3 HO3 HK3 b6
 have HLB := Lib.hid (wrapL_le (k := 17) (p := j.body))
 generalize wrapE 17 j.body.length = er2 at *
 generalize wrapL 17 j.body = B at *
 rw [List.length_map] at HO4 ⊢
 have hgz : g ≤ w4.heap.size := by rw [← HGE.out]; exact HK4.out.size
 have hla := HLA.out
 have hlb := HLB.out
 go_upto_region 6 with (at_builtin; refine wpList_app1 (base := g) u8ok rfl _ _ rfl (.slice p3 A.length c3) (.slice p4 B.length c4) (A.map u8v) (B.map u8v) rfl rfl HOA.out HO4.out.row (oneCell_map_u8 _) (by simp; omega) (by omega) hgz ?_; intro v5 w5 ho5 hg5 hf5; have HG5 := Lib.hid (And.intro ho5 hg5); clear ho5 hg5 hf5)
 have HB5 := Lib.hid (HB4.out.grown HG5.out.2 (HOA.out.blk_ne HB4.out (by decide)))
 have HK5 := Lib.hid (HK4.out.grown HG5.out.2 (by rw [HGE.out]; exact HOA.out.base))
 have HO5 := Lib.hid (show Own w5 g 5 v5 ((A ++ B).map u8v) from by rw [List.map_append]; exact HG5.out.1)
 have HAB := Lib.hid (show (A ++ B).length ≤ 262182 from by simp; omega)
 clear HG5 HB4 HK4 HOA HO4 HLA HLB
 generalize A ++ B = AB at *
 have b5 : w5.cell? ⟨g, 5, none⟩ = some (.slice ps j.st.length cs) := by rw [HB5.out.cell]; rfl
 go_wp2_with fail
 clear b5
 go_loopw [4, 6, 31] (fun ov bv iv wr => ∃ (i : Nat) (O : List UInt8), iv = .int .i64 (i : Int) ∧ i ≤ j.st.length ∧ Hid (O = AB ++ stsL j.arr 0 (j.st.take i)) ∧ Hid (Own wr g 5 ov (O.map u8v)) ∧ Hid (Keeps w wr) ∧ Hid (Blk wr g 29 (jobA j (.slice pt j.tos.length ct) (.slice ps j.st.length cs) (.slice pb j.body.length cb)))) (fun _ _ iv _ => j.st.length - (intOf iv).toNat)
 case atStart => exact ⟨0, AB, rfl, Nat.zero_le _, Lib.hid (by simp [stsL]), HO5, HK5, HB5⟩
 case round =>
  obtain ⟨i, O, rfl, hi, HOE, HO, HK, HB⟩ := hrel
  obtain ⟨po, co, rfl, hpo⟩ := HO.out.row.form
  rw [List.length_map] at HO hpo ⊢
  by_cases hlt : i < j.st.length
  ·have hw : IntKind.i64.wrap ((i : Int) + 1) = (i : Int) + 1 := IntWalk.i64_in _ (by omega)
   obtain ⟨b2, off, cap, hv, hrg⟩ := rowS_at stC_len (HJ.out.keeps HK.out).st hlt
   simp only [Value.slice.injEq] at hv
   obtain ⟨rfl, -, rfl⟩ := hv
   have HN := Lib.hid (stsL_next j.arr hlt)
   have HLO := Lib.hid (show O.length ≤ 3000000 from by
    have h1 := stsL_le j.arr (j.st.take i) 0
    have h2 := HAB.out
    rw [HOE.out, List.length_append]
    rw [List.length_take] at h1
    omega)
   have HST := Lib.hid (fun w => stepS_any w (i : Int) j.st[i])
   have HLS := Lib.hid (stepL_le i j.st[i])
   generalize j.st[i] = x at *
   obtain ⟨s, t, d, c⟩ := x
   have HRG := Lib.hid (show wr.rangeAt b2 (off + i * 4) [.int .i64 s, .int .i64 t, .int .i64 d, .int .i64 c] from hrg)
   clear hrg
   obtain ⟨nf, hnf⟩ : ∃ b, decide ((⟨s, t, d, c⟩ : StP) ≠ freshS j.arr) = b := ⟨_, rfl⟩
   have HNF := Lib.hid hnf
   have HX := Lib.hid (fun w' : World => show (if s = 0 then if t = 0 then if d = j.arr then if c = 0 then Result.ok (Next.value (Value.bool false)) w' else Result.ok (Next.value (Value.bool true)) w' else Result.ok (Next.value (Value.bool true)) w' else Result.ok (Next.value (Value.bool true)) w' else Result.ok (Next.value (Value.bool true)) w') = Result.ok (Next.value (Value.bool nf)) w' from by
    rw [← hnf]
    unfold freshS
    by_cases h1 : s = 0 <;> by_cases h2 : t = 0 <;> by_cases h3 : d = j.arr <;> by_cases h4 : c = 0 <;> simp [h1, h2, h3, h4])
   clear hnf
   go_upto_region 9 with (refine wpList_ldR rfl stM HRG.out _ rfl rfl ?_)
   generalize hW : World.alloc wr _ = y1
   have HKy := Lib.hid (show Keeps wr y1 from by rw [← hW]; exact (Keeps.refl _).alloc _)
   have HFy := Lib.hid (show Blk y1 wr.heap.size 44 #[.int .i64 s, .int .i64 t, .int .i64 d, .int .i64 c] from by rw [← hW]; exact Blk.new _ _ _ rfl)
   clear hW HRG
   obtain ⟨q, hq⟩ : ∃ q, q = wr.heap.size := ⟨_, rfl⟩
   rw [← hq] at HFy ⊢
   clear hq
   have HBy := Lib.hid (HB.out.keeps HKy.out)
   have q0 : y1.cell? ⟨q, 0, none⟩ = some (.int .i64 s) := by rw [HFy.out.cell]; rfl
   have q1 : y1.cell? ⟨q, 1, none⟩ = some (.int .i64 t) := by rw [HFy.out.cell]; rfl
   have q2 : y1.cell? ⟨q, 2, none⟩ = some (.int .i64 d) := by rw [HFy.out.cell]; rfl
   have q3 : y1.cell? ⟨q, 3, none⟩ = some (.int .i64 c) := by rw [HFy.out.cell]; rfl
   have g1 : y1.cell? ⟨g, 1, none⟩ = some (.int .i64 j.arr) := by rw [HBy.out.cell]; rfl
   refine wp_region_noPanic ?_
   refine wp_region_held_drew (S := fun w' => Keeps y1 w') (by kernel_rfl) (((Keeps.refl y1).drew)) (fun _ => ?_)
   have hHeld : Keeps y1 (y1).drew := ((Keeps.refl y1).drew)
   generalize World.drew y1 = xs at *
   refine tq 0 36 ?_ (hy := fun w' hSw => by
    have hSw : Keeps y1 w' := hSw
    have h0 := keep1 hSw q0
    have h1 := keep1 hSw q1
    have h2 := keep1 hSw q2
    have h3 := keep1 hSw q3
    clear hSw
    go_simp
    try with_reducible rfl)
   refine tq 1 37 ?_
   refine tq 2 38 ?_ (hy := fun w' hSw => by
    have hSw : Keeps y1 w' := hSw
    have h0 := keep1 hSw g1
    clear hSw
    go_simp
    try with_reducible rfl)
   refine rd1 3 (fun K hK => ?_)
   go_simp
   refine (fresh_any _ _).mono ?_
   rintro e z1 ⟨rfl, hk⟩
   have hb := hHeld.trans hk
   clear hk
   go_wp2_with fail
   refine bkm hK hb ?_
   clear hK K hHeld
   have hHeld : Keeps y1 z1 := hb
   clear hb
   refine tq 4 40 ?_ (hy := fun w' hSw => by
    have hSw : Keeps y1 w' := hSw
    go_simp
    exact HX.out w')
   refine wpAnyH_done (by kernel_rfl) ?_ _
   refine NoPanic.normal ?_
   have HZ := Lib.hid (HFy.out.keeps hHeld)
   have HKz := Lib.hid (HK.out.trans (HKy.out.trans hHeld))
   have HOz := Lib.hid (HO.out.keeps (HKy.out.trans hHeld))
   have HBz := Lib.hid (HBy.out.keeps hHeld)
   clear hHeld q0 q1 q2 q3 g1 HFy HBy HKy HB
   cases nf with
   | false =>
    have HOE2 := Lib.hid (show O = AB ++ stsL j.arr 0 (j.st.take (i + 1)) from by
     rw [HN.out, if_pos (by simpa using HNF.out), List.append_nil]
     exact HOE.out)
    go_wp2_with fail
    go_roundw
    case rel => exact ⟨i + 1, O, by simp, by omega, HOE2, HOz, HKz, HBz⟩
    case measure =>
     simp only [intOf]
     omega
   | true =>
    have HOE2 := Lib.hid (show O ++ stepL i ⟨s, t, d, c⟩ = AB ++ stsL j.arr 0 (j.st.take (i + 1)) from by
     rw [HN.out, if_neg (by simpa using HNF.out), ← List.append_assoc]
     rw [← HOE.out])
    have hls := HLS.out
    have hlo := HLO.out
    clear HN HNF HX
    generalize stepL i ⟨s, t, d, c⟩ = S at *
    generalize stepE i ⟨s, t, d, c⟩ = se at *
    go_wp2_with (refine wpList_ld rfl stM HZ.out _ rfl rfl ?_)
    refine (HST.out _).mono ?_
    rintro e z2 ⟨v6, rfl, ho, hk⟩
    have HO6 := Lib.hid ho
    have HOw := Lib.hid (HOz.out.keeps hk)
    have HBw := Lib.hid (HBz.out.keeps hk)
    have HKw := Lib.hid (HKz.out.trans hk)
    obtain ⟨p6, c6, rfl, -⟩ := ho.row.form
    clear ho hk
    rw [List.length_map] at HO6 ⊢
    have hgz2 : g ≤ z2.heap.size := by rw [← HGE.out]; exact HKw.out.size
    go_wp2_with (at_builtin; refine wpList_app1 (base := g) u8ok rfl _ _ rfl (.slice po O.length co) (.slice p6 S.length c6) (O.map u8v) (S.map u8v) rfl rfl HOw.out HO6.out.row (oneCell_map_u8 _) (by simp; omega) (by omega) hgz2 ?_; intro v7 w7 ho7 hg7 hf7; have HG7 := Lib.hid (And.intro ho7 hg7); clear ho7 hg7 hf7)
    go_roundw
    case rel =>
     refine ⟨i + 1, O ++ S, by simp, by omega, HOE2, Lib.hid ?_, Lib.hid (HKw.out.grown HG7.out.2 (by rw [HGE.out]; exact HOw.out.base)), Lib.hid (HBw.out.grown HG7.out.2 (HOw.out.blk_ne HBw.out (by decide)))⟩
     rw [List.map_append]
     exact HG7.out.1
    case measure =>
     simp only [intOf]
     omega
  ·have HF := Lib.hid (show O = L from by
    rw [HOE.out, List.take_of_length_le (by omega)]
    exact HY.out.symm)
   go_wp2_with fail
   exact bodyPost_ret (v := .tuple #[.slice po O.length co, .int .i64 0]) (by simp [results, Try.results12, go_sem]) rfl ⟨_, by rw [HX.out], by rw [← HF.out, HGE.out]; exact HO.out, HK.out⟩
end Env
end Go.Proofs.Ytkbibhlfehamgaa

/- envel: a source that is read by steps that may lack something. -/
namespace Go.Proofs.Ytkbibhlfehamgaa
open Go.RowKit
namespace Env
open Adr (Str)
open Oct (uE uA uV tE tA tL getV getB okk doneE SrcAt SrcDid NewSourceDid newSource_any srcU_any srcText_any err_any QuietI)
/-- the source at block g: at a place, or something lacked -/
def SrcO (W w : World) (g : Nat) (l : Str) (σ : Option Nat) : Prop := ∃ v a er, SrcAt w g v l a er ∧ (σ = none ↔ er ≠ 0) ∧ (∀ b, σ = some b → a = b) ∧ W.heap.size ≤ g ∧ Keeps W w
theorem SrcO.keepsW {W w : World} {g : Nat} {l : Str} {σ : Option Nat} (h : SrcO W w g l σ) : Keeps W w := let ⟨_, _, _, _, _, _, _, h⟩ := h; h
theorem SrcO.ge {W w : World} {g : Nat} {l : Str} {σ : Option Nat} (h : SrcO W w g l σ) : W.heap.size ≤ g := let ⟨_, _, _, _, _, _, h, _⟩ := h; h
theorem SrcO.lt {W w : World} {g : Nat} {l : Str} {σ : Option Nat} (h : SrcO W w g l σ) : g < w.heap.size := let ⟨_, _, _, h, _⟩ := h; h.blk.lt
theorem SrcO.kept {W w w' : World} {g : Nat} {l : Str} {σ : Option Nat} (h : SrcO W w g l σ) (k : Keeps w w') : SrcO W w' g l σ := by
 obtain ⟨v, a, er, h1, h2, h3, h4, h5⟩ := h
 exact ⟨v, a, er, h1.keeps k, h2, h3, h4, h5.trans k⟩
theorem SrcO.modsB {W w w' : World} {g : Nat} {l : Str} {σ : Option Nat} {S : Nat → Prop} (h : SrcO W w g l σ) (k : Mods S w w') (hS : ∀ x, S x → W.heap.size ≤ x ∧ x ≠ g ∧ ∀ cs fr, w.heap[x]? ≠ some (.cells cs 5 fr)) : SrcO W w' g l σ := by
 obtain ⟨v, a, er, h1, h2, h3, h4, h5⟩ := h
 refine ⟨v, a, er, h1.mods k (fun x hx hs => ?_), h2, h3, h4, k.keeps h5 (fun x hx => (hS x hx).1)⟩
 rcases hx with rfl | hx
 ·exact (hS _ hs).2.1 rfl
 ·exact absurd hs (fun hs => by
   have h6 := h1.own
   rcases h6.2 with ⟨rfl, _⟩ | ⟨g', cap, cur, rfl, hb, hgg, rest⟩
   ·simp [Value.ownBlock] at hx
   ·simp [Value.ownBlock] at hx
    subst hx
    exact (hS _ hs).2.2 _ _ hgg)
/-- the source without where its blocks lie -/
def SrcC (w : World) (g : Nat) (l : Str) (σ : Option Nat) : Prop := ∃ v a er, SrcAt w g v l a er ∧ (σ = none ↔ er ≠ 0) ∧ (∀ b, σ = some b → a = b)
theorem SrcO.core {W w : World} {g : Nat} {l : Str} {σ : Option Nat} (h : SrcO W w g l σ) : SrcC w g l σ := let ⟨v, a, er, h1, h2, h3, _⟩ := h; ⟨v, a, er, h1, h2, h3⟩
theorem SrcC.kept {w w' : World} {g : Nat} {l : Str} {σ : Option Nat} (h : SrcC w g l σ) (k : Keeps w w') : SrcC w' g l σ := let ⟨v, a, er, h1, h2⟩ := h; ⟨v, a, er, h1.keeps k, h2⟩
theorem SrcC.mods {w w' : World} {g : Nat} {l : Str} {σ : Option Nat} {S : Nat → Prop} (h : SrcC w g l σ) (k : Mods S w w') (hS : ∀ x, S x → x ≠ g ∧ ∀ cs fr, w.heap[x]? ≠ some (.cells cs 5 fr)) : SrcC w' g l σ := by
 obtain ⟨v, a, er, h1, h2⟩ := h
 refine ⟨v, a, er, h1.mods k (fun x hx hs => ?_), h2⟩
 rcases hx with rfl | hx
 ·exact (hS _ hs).1 rfl
 ·have h6 := h1.own
  rcases h6.2 with ⟨rfl, _⟩ | ⟨g', cap, cur, rfl, hb, hgg, rest⟩
  ·simp [Value.ownBlock] at hx
  ·simp [Value.ownBlock] at hx
   subst hx
   exact (hS _ hs).2 _ _ hgg
theorem u_plain {l : Str} {a k : Nat} (hk : 1 ≤ k ∧ k ≤ 8) (ha : a ≤ l.length) : uV l a 0 k = (uR l k (some a)).1 ∧ ((uR l k (some a)).2 = none ↔ uE l.length a 0 k ≠ 0) ∧ (∀ b, (uR l k (some a)).2 = some b → uA l.length a 0 k = b) := by
 have hok : okk (k : Int) = true := by simp [okk]; omega
 by_cases h : a + k ≤ l.length
 ·have h1 : uE l.length a 0 k = 0 := by
   unfold uE
   rw [if_neg (by simp), if_neg (by simp [hok]), if_neg (by omega)]
  have h2 : getB l a k = true := by simp [getB, hok]; omega
  have h3 : uR l k (some a) = (Oct.valOf ((l.drop a).take k), some (a + k)) := by simp [uR, h]
  refine ⟨?_, ?_, ?_⟩
  ·rw [h3]
   unfold uV
   rw [if_pos h1]
   unfold getV
   rw [if_pos h2]
   simp
  ·rw [h3]; simp [h1]
  ·intro b hb
   rw [h3] at hb
   simp only [Option.some.injEq] at hb
   unfold uA
   rw [if_pos h1]
   simp; omega
 ·have h1 : uE l.length a 0 k ≠ 0 := by
   unfold uE
   rw [if_neg (by simp), if_neg (by simp [hok]), if_pos (by omega)]
   simp
  have h3 : uR l k (some a) = (0, none) := by simp [uR, h]
  refine ⟨?_, ?_, ?_⟩
  ·rw [h3]
   unfold uV
   rw [if_neg h1]
  ·rw [h3]; simp [h1]
  ·rw [h3]; simp
theorem u_bad {l : Str} {a : Nat} {er k : Int} (h : er ≠ 0) : uV l a er k = 0 ∧ uE l.length a er k ≠ 0 := by
 have h1 : uE l.length a er k = er := by unfold uE; rw [if_pos h]
 refine ⟨?_, by rw [h1]; exact h⟩
 unfold uV
 rw [h1, if_neg h]
theorem srcOU {W w : World} {g : Nat} {l : Str} {σ : Option Nat} (h : SrcO W w g l σ) (k : Nat) (ki : Int) (hki : ki = (k : Int)) (hk : 1 ≤ k ∧ k ≤ 8) :
  Calls Try.prog 41 #[.pointer (some ⟨g, 0, none⟩), .int .i64 ki] w fun e w' => e = .returned (.int .u64 ((uR l k σ).1 : Nat)) ∧ SrcO W w' g l (uR l k σ).2 ∧ Mods (· = g) w w' := by
 subst hki
 obtain ⟨v, a, er, h1, h2, h3, h4, h5⟩ := h
 refine (srcU_any g v l a er k w h1).mono ?_
 rintro e w' ⟨rfl, hs, hm⟩
 have hkk : Keeps W w' := hm.keeps h5 (fun x hx => by rw [hx]; exact h4)
 cases σ with
 | none =>
  have he := h2.1 rfl
  have hb := u_bad (l := l) (a := a) (k := (k : Int)) he
  exact ⟨by rw [hb.1]; rfl, ⟨v, _, _, hs, ⟨fun _ => hb.2, fun _ => rfl⟩, by simp [uR], h4, hkk⟩, hm⟩
 | some b =>
  have he : er = 0 := by
   by_cases e : er = 0
   ·exact e
   ·exact absurd (h2.2 e) (by simp)
  have hab := h3 b rfl
  subst he hab
  obtain ⟨p1, p2, p3⟩ := u_plain hk h1.le
  exact ⟨by rw [p1], ⟨v, _, _, hs, p2, p3, h4, hkk⟩, hm⟩
theorem t_plain {l : Str} {a most : Nat} (ha : a ≤ l.length) : tL l a 0 most = (tR l most (some a)).1 ∧ ((tR l most (some a)).2 = none ↔ tE l a 0 most ≠ 0) ∧ (∀ b, (tR l most (some a)).2 = some b → tA l a 0 most = b) := by
 obtain ⟨p1, p2, p3⟩ := u_plain (l := l) (a := a) (k := 4) (by decide) ha
 by_cases h : a + 4 ≤ l.length
 ·have h3 : uR l 4 (some a) = (Oct.valOf ((l.drop a).take 4), some (a + 4)) := by simp [uR, h]
  rw [h3] at p1 p2 p3
  have hz : uE l.length a 0 (4 : Nat) = 0 := by
   by_cases e : uE l.length a 0 (4 : Nat) = 0
   ·exact e
   ·exact absurd (p2.2 e) (by simp)
  have hgv : getV l a 4 = Oct.valOf ((l.drop a).take 4) := by
   unfold uV at p1
   rw [if_pos hz] at p1
   exact p1
  generalize Oct.valOf ((l.drop a).take 4) = n at *
  have h4 : tR l most (some a) = if n ≤ most ∧ a + 4 + n ≤ l.length then ((l.drop (a + 4)).take n, some (a + 4 + n)) else ([], none) := by
   unfold tR
   rw [h3]
  have hz' : uE l.length a 0 4 = 0 := hz
  by_cases hc : n ≤ most ∧ a + 4 + n ≤ l.length
  ·have h5 : tE l a 0 most = 0 := by
    unfold tE
    rw [if_neg (by simp [hz']), hgv, if_neg (by omega), if_neg (by omega)]
   rw [h4, if_pos hc]
   refine ⟨?_, by simp [h5], ?_⟩
   ·unfold tL; rw [if_pos h5, hgv]
   ·intro b hb
    simp only [Option.some.injEq] at hb
    unfold tA
    rw [if_pos h5, hgv]
    omega
  ·have h5 : tE l a 0 most ≠ 0 := by
    unfold tE
    rw [if_neg (by simp [hz']), hgv]
    by_cases h6 : n ≤ most
    ·rw [if_neg (by omega), if_pos (by omega)]; simp
    ·rw [if_pos (by omega)]; simp
   rw [h4, if_neg hc]
   refine ⟨?_, by simp [h5], by simp⟩
   unfold tL; rw [if_neg h5]
 ·have h3 : uR l 4 (some a) = (0, none) := by simp [uR, h]
  rw [h3] at p1 p2 p3
  have hz : uE l.length a 0 4 ≠ 0 := p2.1 rfl
  have h4 : tR l most (some a) = ([], none) := by unfold tR; rw [h3]
  have h5 : tE l a 0 most ≠ 0 := by unfold tE; rw [if_pos hz]; exact hz
  rw [h4]
  refine ⟨?_, by simp [h5], by simp⟩
  unfold tL; rw [if_neg h5]
theorem srcOT {W w : World} {g : Nat} {l : Str} {σ : Option Nat} (h : SrcO W w g l σ) (m : Nat) (mi : Int) (hmi : mi = (m : Int)) (hm : m ≤ 1000000) :
  Calls Try.prog 40 #[.pointer (some ⟨g, 0, none⟩), .int .i64 mi] w fun e w' => e = .returned (.string (bstr (tR l m σ).1)) ∧ SrcO W w' g l (tR l m σ).2 ∧ Mods (· = g) w w' := by
 subst hmi
 obtain ⟨v, a, er, h1, h2, h3, h4, h5⟩ := h
 refine (srcText_any g v l a er m w h1 (by omega) (by omega)).mono ?_
 rintro e w' ⟨rfl, hs, hm⟩
 have hkk : Keeps W w' := hm.keeps h5 (fun x hx => by rw [hx]; exact h4)
 cases σ with
 | none =>
  have he := h2.1 rfl
  have hb := u_bad (l := l) (a := a) (k := 4) he
  have ht : tE l a er m ≠ 0 := by unfold tE; rw [if_pos hb.2]; exact hb.2
  have hl : tL l a er m = [] := by unfold tL; rw [if_neg ht]
  exact ⟨by rw [hl]; rfl, ⟨v, _, _, hs, ⟨fun _ => ht, fun _ => rfl⟩, by simp [tR, uR], h4, hkk⟩, hm⟩
 | some b =>
  have he : er = 0 := by
   by_cases e : er = 0
   ·exact e
   ·exact absurd (h2.2 e) (by simp)
  have hab := h3 b rfl
  subst he hab
  obtain ⟨p1, p2, p3⟩ := t_plain (most := m) h1.le
  exact ⟨by rw [p1], ⟨v, _, _, hs, p2, p3, h4, hkk⟩, hm⟩
theorem srcONew {w : World} (v : Value) (l : Str) (hr : Row w v (l.map u8v)) (hl : l.length ≤ 35184372088832) : Calls Try.prog 38 #[v] w fun e w' => ∃ g, e = .returned (.pointer (some ⟨g, 0, none⟩)) ∧ SrcO w w' g l (some 0) := by
 refine (newSource_any v l w hr hl).mono ?_
 rintro e w' ⟨g, v', rfl, hg, hs, -, hk⟩
 exact ⟨g, rfl, ⟨v', 0, 0, hs, by simp, by simp, hg, hk⟩⟩
theorem srcOErr {W w : World} {g : Nat} {l : Str} {σ : Option Nat} (h : SrcO W w g l σ) : Calls Try.prog 42 #[.pointer (some ⟨g, 0, none⟩)] w fun e w' => ∃ er : Int, e = .returned (.int .i64 er) ∧ (σ = none ↔ er ≠ 0) ∧ w = w' := by
 obtain ⟨v, a, er, h1, h2, h3, h4, h5⟩ := h
 refine (err_any g v l a er w h1).mono ?_
 rintro e w' ⟨rfl, rfl⟩
 exact ⟨er, rfl, h2, rfl⟩
theorem srcODone {w : World} {g : Nat} {l : Str} {σ : Option Nat} (h : SrcC w g l σ) : Calls Try.prog 43 #[.pointer (some ⟨g, 0, none⟩)] w fun e w' => ∃ er : Int, e = .returned (.int .i64 er) ∧ (σ = some l.length ↔ er = 0) ∧ Keeps w w' := by
 obtain ⟨v, a, er, h1, h2, h3⟩ := h
 refine (Oct.done_any g v l a er w h1).mono ?_
 rintro e w' ⟨rfl, hk⟩
 refine ⟨_, rfl, ?_, hk⟩
 have hle := h1.le
 unfold doneE
 cases σ with
 | none =>
  have he := h2.1 rfl
  rw [if_neg (by simp [he])]
  simp [he]
 | some b =>
  have he : er = 0 := by
   by_cases e : er = 0
   ·exact e
   ·exact absurd (h2.2 e) (by simp)
  have hab := h3 b rfl
  subst he hab
  by_cases hlt : a < l.length
  ·rw [if_pos ⟨rfl, hlt⟩]
   simp; omega
  ·rw [if_neg (by simp; omega)]
   simp; omega
theorem uR_lt (l : Str) (k : Nat) (hk : k ≤ 8) (σ : Option Nat) : (uR l k σ).1 < 256 ^ k := by
 have hp : 0 < 256 ^ k := Nat.pow_pos (by decide)
 unfold uR
 split
 ·exact hp
 ·split
  ·exact Oct.valOf_lt' (by rw [List.length_take]; omega)
  ·exact hp
end Env
end Go.Proofs.Ytkbibhlfehamgaa

/- envel's reading, plain: targets one by one. -/
namespace Go.Proofs.Ytkbibhlfehamgaa
open Go.RowKit
namespace Env
open Adr (Str)
theorem tgsR_snoc (l : Str) (m : Nat) : ∀ (i : Nat) (σ : Option Nat), tgsR l m (i + 1) σ = ((tgsR l m i σ).1 ++ [(tgR l m (tgsR l m i σ).2).1], (tgR l m (tgsR l m i σ).2).2)
 | 0, σ => by simp [tgsR]
 | i + 1, σ => by
  have ih := tgsR_snoc l m i (tgR l m σ).2
  rw [tgsR, ih]
  simp [tgsR]
theorem tgsR_stop {l : Str} {m : Nat} {σ : Option Nat} {i : Nat} (h : (tgsR l m i σ).2 = none) : ∀ {n : Nat}, i ≤ n → (tgsR l m n σ).2 = none := by
 intro n hn
 induction n with
 | zero =>
  have : i = 0 := by omega
  subst this; exact h
 | succ n ih =>
  by_cases e : i = n + 1
  ·subst e; exact h
  ·rw [tgsR_snoc, ih (by omega)]
   rfl
theorem tR_len (l : Str) (m : Nat) (σ : Option Nat) : (tR l m σ).1.length ≤ m := by
 unfold tR
 split
 ·simp
 ·split
  ·rename_i h; rw [List.length_take]; omega
  ·simp
theorem tgsR_len (l : Str) (m : Nat) : ∀ (n : Nat) (σ : Option Nat), (tgsR l m n σ).1.length = n
 | 0, _ => rfl
 | n + 1, σ => by rw [tgsR]; simp [tgsR_len l m n]
/-- what the targets that are read are -/
def TgSm (m : Nat) (t : TgP) : Prop := (∃ u : Nat, t.u = u ∧ u < 65536) ∧ t.l.length ≤ m ∧ t.d.length ≤ m
theorem tgR_sm (l : Str) (m : Nat) (σ : Option Nat) : TgSm m (tgR l m σ).1 := ⟨⟨_, rfl, by simpa using uR_lt l 2 (by omega) σ⟩, tR_len _ _ _, tR_len _ _ _⟩
theorem tgsR_sm (l : Str) (m : Nat) : ∀ (n : Nat) (σ : Option Nat), ∀ t ∈ (tgsR l m n σ).1, TgSm m t
 | 0, _, t, h => by simp [tgsR] at h
 | n + 1, σ, t, h => by
  rw [tgsR] at h
  rcases List.mem_cons.1 h with rfl | h
  ·exact tgR_sm l m σ
  ·exact tgsR_sm l m n _ t h
theorem tgSm_wf {m : Nat} {t : TgP} (h : TgSm m t) : (Lit.int .i64 t.u).wf = true := by
 obtain ⟨⟨u, hu, h1⟩, -⟩ := h
 rw [hu]
 simp [Lit.wf, IntKind.min, IntKind.max, IntKind.signed, IntKind.bits]
 omega
end Env
end Go.Proofs.Ytkbibhlfehamgaa

/- envel.readEnv, envel.readStep. -/
namespace Go.Proofs.Ytkbibhlfehamgaa
open Go.RowKit
namespace Env
open Adr (Str)
set_option maxRecDepth 100000 in
set_option maxHeartbeats 1000000 in
theorem box_any {W w : World} {g : Nat} {l : Str} {σ : Option Nat} (h : SrcO W w g l σ) (B : Nat) (hB : Blk w B 77 #[.pointer (some ⟨g, 0, none⟩)]) (hBg : B ≠ g) :
  Calls Try.prog 39 #[.pointer (some ⟨B, 0, none⟩)] w fun e w' => e = .returned (.agg #[.string (bstr (tR l 100 σ).1), .string (bstr (tR l 100 (tR l 100 σ).2).1)]) ∧ SrcO W w' g l (tR l 100 (tR l 100 σ).2).2 ∧ Mods (· = g) w w' := by
 have HS := Lib.hid h
 have HA := Lib.hid (Blk.new w 25 #[.string ⟨#[]⟩, .string ⟨#[]⟩] rfl)
 have HB := Lib.hid hB
 have HCG := Lib.hid (show w.heap.size ≠ g from fun e => by have := h.lt; omega)
 have HCB := Lib.hid (show B ≠ w.heap.size from fun e => by have := hB.lt; omega)
 have HWG := Lib.hid (Nat.le_trans h.keepsW.size (Nat.le_refl w.heap.size))
 clear h hB
 generalize hx1 : (tR l 100 σ).1 = x1 at *
 generalize hs1 : (tR l 100 σ).2 = s1 at *
 generalize hx2 : (tR l 100 s1).1 = x2 at *
 generalize hs2 : (tR l 100 s1).2 = s2 at *
 have HE := Lib.hid (And.intro hx1 (And.intro hs1 (And.intro hx2 hs2)))
 clear hx1 hs1 hx2 hs2
 go_enter Try.func39, Try.ntmps39
 go_wp2_with fail
 have HM0 := Lib.hid (show Mods (· = g) w (w.alloc (.cells #[.string ⟨#[]⟩, .string ⟨#[]⟩] 25)) from Mods.of_keeps ((Keeps.refl _).alloc _))
 have HS0 := Lib.hid (HS.out.kept ((Keeps.refl w).alloc (.cells #[.string ⟨#[]⟩, .string ⟨#[]⟩] 25)))
 have HB0 := Lib.hid (HB.out.alloc (.cells #[.string ⟨#[]⟩, .string ⟨#[]⟩] 25))
 generalize w.alloc (.cells #[.string ⟨#[]⟩, .string ⟨#[]⟩] 25) = w1 at *
 generalize hc : w.heap.size = c at *
 have HCC := Lib.hid hc
 clear hc HS HB
 have HS0 := Lib.hid (HS0.out.kept ((Keeps.refl w1).drew))
 have HAx := Lib.hid HA.out.drew
 have hcell : w1.cell? ⟨B, 0, none⟩ = some (.pointer (some ⟨g, 0, none⟩)) := by rw [HB0.out.cell]; rfl
 have hNB : ¬ (B = g ∨ B = c) := fun h => h.elim hBg HCB.out
 refine wp_region_noPanic ?_
 refine wp_region_held_drew (S := fun w' => Mods (fun x => x = g ∨ x = c) w1 w') (by kernel_rfl) ((Mods.refl (fun x => x = g ∨ x = c) w1).drew) (fun _ => ?_)
 have hHeld : Mods (fun x => x = g ∨ x = c) w1 (w1).drew := (Mods.refl (fun x => x = g ∨ x = c) w1).drew
 generalize World.drew w1 = xs at *
 refine tq 0 2 ?_ (hy := fun w' hSw => by
  have hSw : Mods (fun x => x = g ∨ x = c) w1 w' := hSw
  have hx := hSw.cell hcell hNB
  clear hSw
  go_simp
  try with_reducible rfl)
 refine tq 2 4 ?_ (hy := fun w' hSw => by
  have hSw : Mods (fun x => x = g ∨ x = c) w1 w' := hSw
  have hx := hSw.cell hcell hNB
  clear hSw
  go_simp
  try with_reducible rfl)
 refine rd1 1 (fun K hK => ?_)
 go_simp
 refine (srcOT HS0.out 100 100 rfl (by omega)).mono ?_
 rintro e z1 ⟨rfl, hso, hm⟩
 rw [HE.out.2.1] at hso
 rw [HE.out.1]
 have HS1 := Lib.hid hso
 have HA1 := Lib.hid (HAx.out.mods hm HCG.out)
 have hb := hHeld.trans hm (fun x h _ => .inl h)
 clear hso hm
 go_wp2_with fail
 refine bkm hK hb ?_
 clear hK K hHeld
 have hHeld : Mods (fun x => x = g ∨ x = c) w1 z1 := hb
 clear hb
 refine rd1 3 (fun K hK => ?_)
 go_simp
 refine (srcOT HS1.out 100 100 rfl (by omega)).mono ?_
 rintro e z2 ⟨rfl, hso, hm⟩
 rw [HE.out.2.2.2] at hso
 rw [HE.out.2.2.1]
 have HS2 := Lib.hid hso
 have HA2 := Lib.hid (HA1.out.mods hm HCG.out)
 have hb := hHeld.trans hm (fun x h _ => .inl h)
 clear hso hm
 go_wp2_with fail
 refine bkm hK hb ?_
 clear hK K hHeld
 have hHeld : Mods (fun x => x = g ∨ x = c) w1 z2 := hb
 clear hb
 refine tq 4 6 ?_
 refine rd1 5 (fun K hK => ?_)
 refine step_st (ds := #[.string (bstr x1), .string (bstr x2)]) rfl adM HA2.out rfl (by simp [Value.oneCell']) _ _ rfl rfl rfl rfl ?_
 intro yF hBF hMF
 have hb := hHeld.trans hMF (fun x h _ => .inr h)
 have HF := Lib.hid (show yF.cell? ⟨c, 0, none⟩ = some (.string (bstr x1)) ∧ yF.cell? ⟨c, 1, none⟩ = some (.string (bstr x2)) from ⟨by rw [hBF.cell]; rfl, by rw [hBF.cell]; rfl⟩)
 have HSF := Lib.hid (HS2.out.modsB hMF (fun x hx => by subst hx; exact ⟨HWG.out, HCG.out, fun cs fr hh => by have h2 := HA2.out; unfold Blk at h2; rw [h2] at hh; simp at hh⟩))
 clear hBF hMF
 refine bkm hK hb ?_
 clear hK K hHeld
 have hHeld : Mods (fun x => x = g ∨ x = c) w1 yF := hb
 clear hb
 refine wpAnyH_done (by kernel_rfl) ?_ _
 refine NoPanic.normal ?_
 have HM := Lib.hid (show Mods (· = g) w yF from HM0.out.trans hHeld (fun x hx hl => hx.elim id (fun e => absurd hl (by rw [e, ← HCC.out]; omega))))
 clear hHeld
 go_wp2_with fail
 exact bodyPost_ret (v := .agg #[.string (bstr x1), .string (bstr x2)]) (by simp [results, Try.results39, go_sem, HF.out.1, HF.out.2]) rfl ⟨rfl, HSF.out, HM.out⟩
end Env
end Go.Proofs.Ytkbibhlfehamgaa

/- ref15's reader. -/
namespace Go.Proofs.Ytkbibhlfehamgaa
open Go.RowKit
namespace Env
open Adr (Str)
open Oct (getV getB okk rGet_any)
def m63 : Nat := 9223372036854775807
def mT : Nat := 4294967296
/-- the document's reader at block g -/
def RrAt (w : World) (g base : Nat) (bv : Value) (l : Str) (σ : Option Nat) : Prop :=
 ∃ (a : Nat) (bad : Bool), Blk w g 63 #[bv, .int .i64 (a : Int), .bool bad] ∧ (bad = true ↔ σ = none) ∧ (∀ x, σ = some x → a = x) ∧ a ≤ l.length ∧ l.length ≤ 1000000000000 ∧ Piece w base 5 bv (l.map u8v)
section
variable {w w' : World} {g base : Nat} {bv : Value} {l : Str} {σ : Option Nat}
theorem RrAt.kept (h : RrAt w g base bv l σ) (k : Keeps w w') : RrAt w' g base bv l σ := let ⟨a, bad, h1, h2, h3, h4, h5, h6⟩ := h; ⟨a, bad, h1.keeps k, h2, h3, h4, h5, h6.keeps k⟩
theorem RrAt.lt (h : RrAt w g base bv l σ) : g < w.heap.size := let ⟨_, _, h1, _⟩ := h; h1.lt
theorem RrAt.mods {S : Nat → Prop} (h : RrAt w g base bv l σ) (k : Mods S w w') (h1 : ¬ S g) (h2 : ∀ x, S x → ∀ cs fr, w.heap[x]? ≠ some (.cells cs 5 fr)) : RrAt w' g base bv l σ := let ⟨a, bad, g1, g2, g3, g4, g5, g6⟩ := h; ⟨a, bad, g1.mods k h1, g2, g3, g4, g5, g6.modsT k h2⟩
end
end Env
end Go.Proofs.Ytkbibhlfehamgaa

/- envel's reading: the document's reading and the program's are one. -/
namespace Go.Proofs.Ytkbibhlfehamgaa
open Go.RowKit
namespace Env
open Adr (Str goodB)
open Frm (Fr1)
/-- the document's steps -/
def stepsR2 (n : Nat) : List Fr1 → List StP → List StP × Int
 | [], st => (st, 0)
 | f :: r, st => if f.kind = 18 ∧ stOk (stR m63 f.pay) f.pay n = true then ((stepsR2 n r (st.set (stR m63 f.pay).1.1 (stR m63 f.pay).1.2)).1, f.len + (stepsR2 n r (st.set (stR m63 f.pay).1.1 (stR m63 f.pay).1.2)).2) else (st, 0)
end Env
end Go.Proofs.Ytkbibhlfehamgaa

/- Several texts in one: SfSwap, SfAwake, SfBooted, SfSwPlain, SfSwRes, SafeSwaps. -/
import Derived.Test.YtohchhgheeolpaaK35
import Derived.Test.YtohchhgheeolpaaFrameRef
/- safe: Swap. -/
namespace Go.Proofs.Ytohchhgheeolpaa
open Go.RowKit
namespace Sf
open Vd
def dotN : Str := [46, 110]
/-- the new file is taken away, if it is there still -/
def tidyS (n : Str) (q : Dsk × Int) : Dsk × Int := if q.2 = 0 ∨ q.2 = 11 ∨ hasD q.1 n = false then q else ((sUnlink n q.1).1, q.2)
def sSwap1 (x n b : Str) (d : Dsk) : Dsk × Int := tidyS n (thenD (thenD (thenD (createD d n) (sAppend n b)) (fun d => renameD d n x)) sDir)
def sSwap (x b : Str) (d : Dsk) : Dsk × Int :=
  if 30 < x.length then (d, 3) else if hasD d (x ++ dotN) then (if (unlinkD d (x ++ dotN)).2 ≠ 0 then unlinkD d (x ++ dotN) else sSwap1 x (x ++ dotN) b (unlinkD d (x ++ dotN)).1) else sSwap1 x (x ++ dotN) b d
section
variable {S : Nat → Prop} {w1 w wb w2 w3 : World} {g : Nat} {d d2 : Dsk} {k k2 : Nat}
set_option maxRecDepth 100000 in
set_option maxHeartbeats 2000000 in
theorem sswap_on (h : On S w1 w g d k) (hk : k ≤ 360) {x b : Str} {p0 : Option Addr} {c0 : Nat} (hx : x.length ≤ 90) (hs : Stays S w1 (.slice p0 b.length c0) (b.map u8v)) (hbl : b.length ≤ 1000000000) : Calls Try.prog 35 #[.pointer (some ⟨g, 0, none⟩), .string (bstr x), .slice p0 b.length c0] w (Says (Tells S w1 g (sSwap x b d) (k + 10))) := by
  have H := Lib.hid h
  have HS := Lib.hid hs
  have hsx := bstr_size x
  have HX0 : Hid (sSwap x b d = if 30 < x.length then (d, 3) else if hasD d (x ++ dotN) then (if (unlinkD d (x ++ dotN)).2 ≠ 0 then unlinkD d (x ++ dotN) else sSwap1 x (x ++ dotN) b (unlinkD d (x ++ dotN)).1) else sSwap1 x (x ++ dotN) b d) := Lib.hid rfl
  clear h hs
  go_enter Try.func35, Try.ntmps35
  go_upto_region 1 with fail
  generalize hW : World.alloc _ _ = wa
  have HB := Lib.hid (show Boxes wa w.heap.size (w.heap.size + 1) g x from by
    rw [← hW]
    exact ⟨((Blk.new _ _ _ rfl).alloc _).alloc _, (Blk.new _ _ _ (by rw [Frm.alloc_size])).alloc _⟩)
  have HR := Lib.hid (show Blk wa (w.heap.size + 1 + 1) 22 #[.slice p0 b.length c0] from by
    rw [← hW]
    exact Blk.new _ _ _ (by rw [Frm.alloc_size, Frm.alloc_size]))
  have HK := Lib.hid (show Keeps w wa from by rw [← hW]; exact (((Keeps.refl _).alloc _).alloc _).alloc _)
  clear hW
  have b1 : wa.cell? ⟨w.heap.size + 1, 0, none⟩ = some (.string (bstr x)) := by rw [HB.out.nm.cell]; rfl
  by_cases h30 : 30 < x.length
  · have HX : Hid (sSwap x b d = (d, 3)) := Lib.hid (HX0.out.trans (if_pos h30))
    clear HX0
    go_wp2_with fail
    go_ret
    refine ⟨3, rfl, ?_⟩
    rw [HX.out]
    exact ⟨rfl, On.more (H.out.back HK.out (H.out.base HK.out)) (by omega)⟩
  · have HX1 := Lib.hid (HX0.out.trans (if_neg h30))
    clear HX0
    obtain ⟨n, hn⟩ : ∃ n, n = x ++ dotN := ⟨_, rfl⟩
    have hnl : n.length ≤ 100 := by rw [hn]; simp [dotN]; omega
    have happ : bstr x ++ (⟨#[46, 110]⟩ : ByteArray) = bstr n := by rw [hn]; exact Frm.bstr_append x dotN
    rw [← hn] at HX1
    have hs2 : (⟨#[46, 110]⟩ : ByteArray).size = 2 := rfl
    clear hn
    go_upto_region 4 with fail
    have hnm : n.length ≤ maxLen := by unfold maxLen; omega
    generalize hW : World.alloc wa _ = wb
    have HKab := Lib.hid (show Keeps wa wb from by rw [← hW]; exact (Keeps.refl _).alloc _)
    have HNB := Lib.hid (show Blk wb wa.heap.size 9 #[.string (bstr n)] from by rw [← hW]; exact Blk.new _ _ _ rfl)
    clear hW b1 happ hs2 hsx
    have HKb := Lib.hid (HK.out.trans HKab.out)
    have HBb := Lib.hid (show Boxes wb w.heap.size (w.heap.size + 1) g x from ⟨HB.out.dp.keeps HKab.out, HB.out.nm.keeps HKab.out⟩)
    have HRb := Lib.hid (HR.out.keeps HKab.out)
    have hq0 : w.heap.size + 3 ≤ wa.heap.size := by have := HR.out.lt; omega
    obtain ⟨p, hp⟩ : ∃ p, p = w.heap.size := ⟨_, rfl⟩
    obtain ⟨q, hqe⟩ : ∃ q, q = wa.heap.size := ⟨_, rfl⟩
    rw [← hp] at HBb HRb hq0 ⊢
    rw [← hqe] at HNB hq0 ⊢
    have HPW := Lib.hid hp
    have hqb : q < wb.heap.size := HNB.out.lt
    clear hp hqe HB HR HKab
    have HOB := Lib.hid (H.out.base HKb.out)
    have HHS := Lib.hid (has_on HOB.out n hnm)
    have b0 : wb.cell? ⟨p, 0, none⟩ = some (.pointer (some ⟨g, 0, none⟩)) := by rw [HBb.out.dp.cell]; rfl
    have bn : wb.cell? ⟨q, 0, none⟩ = some (.string (bstr n)) := by rw [HNB.out.cell]; rfl
    go_wp2_with fail
    refine HHS.out.mono ?_
    rintro e w2 ⟨rfl, rfl⟩
    clear HHS
    obtain ⟨hh, hhe⟩ : ∃ hh, hh = hasD d n := ⟨_, rfl⟩
    rw [← hhe] at HX1 ⊢
    clear hhe
    go_upto_if 17 with fail
    go_cut [] (fun wx => ∃ d2 k2, Hid (On (More S w1 w) wb wx g d2 k2 ∧ k2 ≤ k + 1 ∧ sSwap x b d = sSwap1 x n b d2))
    case first =>
      cases hh with
      | false =>
        have HX2 := Lib.hid (HX1.out.trans (if_neg (by simp)))
        go_wp2_with fail
        go_meet
        exact ⟨d, k, Lib.hid ⟨HOB.out, by omega, HX2.out⟩⟩
      | true =>
        have HX2 := Lib.hid (HX1.out.trans (if_pos rfl))
        have HUL := Lib.hid (unlink_on HOB.out (by omega) n hnm)
        generalize unlinkD d n = r at *
        obtain ⟨d2, er⟩ := r
        go_wp2_with fail
        refine HUL.out.mono ?_
        rintro e w2 ⟨rfl, ho2⟩
        have HO2 := Lib.hid ho2
        clear ho2 HUL b0 bn
        by_cases he : er = 0
        · subst he
          have HX3 := Lib.hid (HX2.out.trans (if_neg (by simp)))
          go_wp2_with fail
          go_meet
          exact ⟨d2, k + 1, Lib.hid ⟨HO2.out, Nat.le_refl _, HX3.out⟩⟩
        · have HX3 : Hid (sSwap x b d = (d2, er)) := Lib.hid (HX2.out.trans (if_pos he))
          have he' : (er != 0) = true := by simp [he]
          clear he
          go_wp2_with fail
          go_ret
          refine ⟨er, rfl, ?_⟩
          rw [HX3.out]
          exact ⟨rfl, On.more (H.out.back HKb.out HO2.out) (by omega)⟩
    case rest =>
    obtain ⟨d2, k2, HC⟩ := hcut
    obtain ⟨w2, rfl⟩ : ∃ z : World, z = wc := ⟨_, rfl⟩
    have HO2 := Lib.hid HC.out.1
    have hk2 := HC.out.2.1
    have HX2 := Lib.hid HC.out.2.2
    clear HC HX1 b0 bn
    have HN : Hid (∀ b, p ≤ b → b < wb.heap.size → ¬ More (More S w1 w) wb w2 b) := Lib.hid (fun b h1 h2 => off_set H.out HO2.out (by have := HPW.out; omega) h2)
    have HB2 := Lib.hid (show Boxes w2 p q g n from ⟨H.out.blk HO2.out HBb.out.dp (by have := HPW.out; omega), H.out.blk HO2.out HNB.out (by have := HPW.out; omega)⟩)
    have HX2' := Lib.hid (H.out.blk HO2.out HBb.out.nm (by have := HPW.out; omega))
    have HR2 := Lib.hid (H.out.blk HO2.out HRb.out (by have := HPW.out; omega))
    go_wp2_with fail
    generalize hW : World.alloc w2 _ = w3
    have HK3 := Lib.hid (show Keeps w2 w3 from by rw [← hW]; exact (Keeps.refl _).alloc _)
    have HBB := Lib.hid (show Blk w3 w2.heap.size 38 #[cloV (107, #[], #[.pointer (some ⟨p, 0, none⟩), .pointer (some ⟨q, 0, none⟩)]), cloV (108, #[], #[.pointer (some ⟨p, 0, none⟩), .pointer (some ⟨q, 0, none⟩), .pointer (some ⟨p + 1 + 1, 0, none⟩)]), cloV (109, #[], #[.pointer (some ⟨p, 0, none⟩), .pointer (some ⟨q, 0, none⟩), .pointer (some ⟨p + 1, 0, none⟩)]), cloV (110, #[], #[.pointer (some ⟨p, 0, none⟩)])] from by
      rw [← hW]
      exact Blk.new _ _ _ rfl)
    clear hW
    have HO3 := Lib.hid (HO2.out.base HK3.out)
    have HS3 := Lib.hid ((HS.out.base H.out HKb.out).base HO2.out HK3.out)
    have HBX := Lib.hid (fun w' d' k' (ho : On (More (More S w1 w) wb w2) w3 w' g d' k') => show Boxes w' p q g n from ⟨On.kept ho (HB2.out.dp.keeps HK3.out) (HN.out _ (Nat.le_refl _) (by omega)), On.kept ho (HB2.out.nm.keeps HK3.out) (HN.out _ (by omega) hqb)⟩)
    have HST := Lib.hid (steps4_on HO3.out HBB.out (fun hy => by
        have h0 := HO2.out.mods.size
        rcases hy with hy | hy
        · have := HO2.out.lt _ hy
          omega
        · omega) (enters_of Try.func107 (by kernel_rfl) rfl _) (enters_of Try.func108 (by kernel_rfl) rfl _) (enters_of Try.func109 (by kernel_rfl) rfl _) (enters_of Try.func110 (by kernel_rfl) rfl _)
      (fun d => createD d n) (sAppend n b) (fun d => renameD d n x) sDir (k1 := k2 + 1) (k2 := k2 + 4) (k3 := k2 + 5) (k4 := k2 + 7) (by omega) (by omega) (by omega)
      (fun w' ho => swap1_on ho (by omega) hnl (HBX.out _ _ _ ho))
      (fun w' d' ho => swap2_on ho (by omega) hnl HS3.out hbl (HBX.out _ _ _ ho) (On.kept ho (HR2.out.keeps HK3.out) (HN.out _ (by omega) (by omega))))
      (fun w' d' ho => swap3_on ho (by omega) hnl (by omega) (HBX.out _ _ _ ho) (On.kept ho (HX2'.out.keeps HK3.out) (HN.out _ (by omega) (by omega))))
      (fun w' d' ho => swap4_on ho (by omega) (HBX.out _ _ _ ho).dp))
    have HX3 : Hid (sSwap x b d = tidyS n (thenD (thenD (thenD (createD d2 n) (sAppend n b)) (fun d => renameD d n x)) sDir)) := Lib.hid HX2.out
    generalize thenD (thenD (thenD (createD d2 n) (sAppend n b)) (fun d => renameD d n x)) sDir = qq at *
    obtain ⟨d4, eq⟩ := qq
    refine HST.out.mono ?_
    rintro e w4 ⟨c, rfl, hc, ho⟩
    have hc : c = eq := hc
    subst hc
    have HO4 := Lib.hid ho
    have HB4 := Lib.hid (HBX.out _ _ _ ho)
    clear ho HST
    have b0 : w4.cell? ⟨p, 0, none⟩ = some (.pointer (some ⟨g, 0, none⟩)) := by rw [HB4.out.dp.cell]; rfl
    have b1 : w4.cell? ⟨q, 0, none⟩ = some (.string (bstr n)) := by rw [HB4.out.nm.cell]; rfl
    by_cases h0 : c = 0
    · subst h0
      have HX : Hid (sSwap x b d = (d4, 0)) := Lib.hid (HX3.out.trans (if_pos (.inl rfl)))
      go_wp2_with fail
      go_ret
      refine ⟨0, rfl, ?_⟩
      rw [HX.out]
      exact ⟨rfl, On.more (H.out.back HKb.out (HO2.out.back HK3.out HO4.out)) (by omega)⟩
    · by_cases h11 : c = 11
      · subst h11
        have HX : Hid (sSwap x b d = (d4, 11)) := Lib.hid (HX3.out.trans (if_pos (.inr (.inl rfl))))
        go_wp2_with fail
        go_ret
        refine ⟨11, rfl, ?_⟩
        rw [HX.out]
        exact ⟨rfl, On.more (H.out.back HKb.out (HO2.out.back HK3.out HO4.out)) (by omega)⟩
      · have HH4 := Lib.hid (has_on HO4.out n hnm)
        have e1 : (c != 0) = true := by simp [h0]
        have e2 : (c != 11) = true := by simp [h11]
        cases hh4 : hasD d4 n with
        | false =>
          have HX : Hid (sSwap x b d = (d4, c)) := Lib.hid (HX3.out.trans (if_pos (.inr (.inr hh4))))
          rw [hh4] at HH4
          clear h0 h11 hh4
          go_wp2_with fail
          refine HH4.out.mono ?_
          rintro e w5 ⟨rfl, rfl⟩
          go_wp2_with fail
          go_ret
          refine ⟨c, rfl, ?_⟩
          rw [HX.out]
          exact ⟨rfl, On.more (H.out.back HKb.out (HO2.out.back HK3.out HO4.out)) (by omega)⟩
        | true =>
          have HX : Hid (sSwap x b d = ((sUnlink n d4).1, c)) := Lib.hid (HX3.out.trans (if_neg (by simp [h0, h11, hh4])))
          rw [hh4] at HH4
          have HUL := Lib.hid (sunlink_on HO4.out (by omega) n hnm)
          clear h0 h11 hh4
          go_wp2_with fail
          refine HH4.out.mono ?_
          rintro e w5 ⟨rfl, rfl⟩
          go_wp2_with fail
          refine HUL.out.mono ?_
          rintro e w5 ⟨rfl, ho5⟩
          have HO5 := Lib.hid ho5
          clear ho5 HUL b0 b1
          go_wp2_with fail
          go_ret
          refine ⟨c, rfl, ?_⟩
          rw [HX.out]
          exact ⟨rfl, On.more (H.out.back HKb.out (HO2.out.back HK3.out HO5.out)) (by omega)⟩
end
end Sf
end Go.Proofs.Ytohchhgheeolpaa

/- law16's awake. -/
namespace Go.Proofs.Ytohchhgheeolpaa
open Go.RowKit
namespace Sf
open Vd
theorem calls_any (w : World) {S : Nat → Prop} {g : Nat} {d : Dsk} (h : DiskAt w S g d) : Calls Try.prog 95 #[.pointer (some ⟨g, 0, none⟩)] w fun e w' => e = .returned (.int .i64 d.count) ∧ w = w' := by
  obtain ⟨b1, b2, nv, mv, nb, h⟩ := h
  obtain ⟨-, -, -, -, -, -, c6, -⟩ := h.cells
  clear h
  go_enter Try.func95, Try.ntmps95
  go_wp2_with fail
  go_ret
  exact ⟨rfl, rfl⟩
def as1 : Dsk := (sSwap nA [120, 121] aw0).1
def as2 : Dsk := (sMake nA [] as1).1
def as3 : Dsk := (sAppend nA [122] as2).1
def as4 : Dsk := (sDrop nA as3).1
theorem as1_e : (sSwap nA [120, 121] aw0).2 = 0 := by kernel_rfl
theorem as1_c : as1.count = 5 := by kernel_rfl
theorem as1_h : hasD as1 nA = true := by kernel_rfl
theorem as1_n : hasD as1 [97, 46, 110] = false := by kernel_rfl
theorem as2_e : (sMake nA [] as1).2 = 8 := by kernel_rfl
theorem as3_e : (sAppend nA [122] as2).2 = 0 := by kernel_rfl
theorem as4_e : (sDrop nA as3).2 = 0 := by kernel_rfl
theorem as4_h : hasD as4 nA = false := by kernel_rfl
/-- a slice in W, or made behind the disk -/
theorem stays_keeps {W : World} {v : Value} {l : List Value} (h : Row W v l) : Stays (fun _ => False) W v l := fun _ hm => h.keeps (hm.keeps (Keeps.refl _) (fun y hy => hy.elim))
theorem stays_lit {S : Nat → Prop} {w1 w : World} {b n c : Nat} {l : List Value} (h : Row w (.slice (some ⟨b, 0, none⟩) n c) l) (hn : ¬ S b) (hw : w = w1) : Stays S w1 (.slice (some ⟨b, 0, none⟩) n c) l := fun _ hm => by subst hw; exact row_modsB h hm hn
set_option maxRecDepth 100000 in
set_option maxHeartbeats 4000000 in
theorem awake16_any (w : World) : Calls Try.prog 29 #[] w fun e w' => e = .returned (.bool true) ∧ Keeps w w' := by
  have HNW := Lib.hid (new_at (Keeps.refl w) (.slice none 0 0) [] (rowS_none _) (fun f hf => absurd hf (List.not_mem_nil)) 100)
  unfold NewAt at HNW
  rw [aw0_new] at HNW
  have kc := fun (w : World) (C : Array Value) (n c : Nat) => Lib.run_convert_bytes_const (P := Try.prog) w 22 5 C n c Try.underlying22 Try.underlying5
  go_enter Try.func29, Try.ntmps29
  go_wp2_with fail
  refine HNW.out.mono ?_
  rintro e w1 ⟨hk, g, rfl, hd⟩
  have H0 := Lib.hid (At.on (show At w w1 g aw0 0 from ⟨hd, hk, aw0_few⟩))
  clear hd hk HNW
  have HB0 := Lib.hid (H0.out.base ((Keeps.refl w1).alloc (.cells #[.int .u8 120, .int .u8 121] 5 (2, 3))))
  have HSW := Lib.hid (sswap_on (b := [120, 121]) (c0 := 2) (p0 := some ⟨w1.heap.size, 0, none⟩) HB0.out (by omega) (x := nA) (by decide) (stays_lit (Frm.row_mark (l := [120, 121].map u8v) rfl rfl (by decide)) (fun hy => hy.elim (fun h => h) (fun h => by omega)) rfl) (by decide))
  unfold nA at HSW
  go_wp2_with fail
  refine HSW.out.mono ?_
  rintro e w2 ⟨c, rfl, hc, ho⟩
  have hc : c = (sSwap nA [120, 121] aw0).2 := hc
  rw [as1_e] at hc
  subst hc
  have H1 := Lib.hid (show On (fun _ => False) w w2 g as1 10 from H0.out.back ((Keeps.refl w1).alloc _) ho)
  clear ho HSW HB0
  have HCL := Lib.hid (calls_any w2 H1.out.dsk)
  rw [as1_c] at HCL
  have HH1 := Lib.hid (has_on H1.out nA (by decide))
  have HH2 := Lib.hid (has_on H1.out [97, 46, 110] (by decide))
  rw [as1_h] at HH1
  rw [as1_n] at HH2
  unfold nA at HH1
  go_wp2_with fail
  refine HCL.out.mono ?_
  rintro e w3 ⟨rfl, rfl⟩
  go_wp2_with fail
  refine HH1.out.mono ?_
  rintro e w3 ⟨rfl, rfl⟩
  go_wp2_with fail
  refine HH2.out.mono ?_
  rintro e w3 ⟨rfl, rfl⟩
  have HMK := Lib.hid (smake_on (b := []) (c0 := 0) (p0 := none) H1.out (by omega) (x := nA) (by decide) (fun w' _ => row_nil w') (by decide))
  unfold nA at HMK
  clear HCL HH1 HH2
  go_wp2_with fail
  refine HMK.out.mono ?_
  rintro e w3 ⟨c, rfl, hc, ho⟩
  have hc : c = (sMake nA [] as1).2 := hc
  rw [as2_e] at hc
  subst hc
  have H2 := Lib.hid (show On (fun _ => False) w w3 g as2 18 from ho)
  clear ho HMK
  have HB2 := Lib.hid (H2.out.base ((Keeps.refl w3).alloc (.cells #[.int .u8 122] 5 (1, 2))))
  have HAP := Lib.hid (sappend_on (b := [122]) (c0 := 1) (p0 := some ⟨w3.heap.size, 0, none⟩) HB2.out (by omega) (x := nA) (by decide) (stays_lit (Frm.row_mark (l := [122].map u8v) rfl rfl (by decide)) (fun hy => hy.elim (fun h => h) (fun h => by omega)) rfl) (by decide))
  unfold nA at HAP
  go_wp2_with fail
  refine HAP.out.mono ?_
  rintro e w4 ⟨c, rfl, hc, ho⟩
  have hc : c = (sAppend nA [122] as2).2 := hc
  rw [as3_e] at hc
  subst hc
  have H3 := Lib.hid (show On (fun _ => False) w w4 g as3 21 from H2.out.back ((Keeps.refl w3).alloc _) ho)
  clear ho HAP HB2
  have HDR := Lib.hid (sdrop_on H3.out (by omega) (x := nA) (by decide))
  unfold nA at HDR
  go_wp2_with fail
  refine HDR.out.mono ?_
  rintro e w5 ⟨c, rfl, hc, ho⟩
  have hc : c = (sDrop nA as3).2 := hc
  rw [as4_e] at hc
  subst hc
  have H4 := Lib.hid (show On (fun _ => False) w w5 g as4 24 from ho)
  clear ho HDR
  have HH3 := Lib.hid (has_on H4.out nA (by decide))
  rw [as4_h] at HH3
  unfold nA at HH3
  go_wp2_with fail
  refine HH3.out.mono ?_
  rintro e w6 ⟨rfl, rfl⟩
  have HE := Lib.hid H4.out.at_.keep
  clear HH3
  go_wp2_with fail
  go_ret
  exact ⟨rfl, HE.out⟩
end Sf
end Go.Proofs.Ytohchhgheeolpaa

/- law16's booted; the disk by its shape and its traps. -/
namespace Go.Proofs.Ytohchhgheeolpaa
open Go.RowKit
namespace Sf
open Vd
def downD (d : Dsk) : Dsk := if d.off then d else (syncDirD { d with crash := setT 0 11 }).1
theorem downD_go {d : Dsk} (h : d.off = false) : downD d = { d with off := true, count := d.count + 1, fail := ((springT d.fail.1).1, d.fail.2), crash := (-1, 11) } := by
  unfold downD
  rw [if_neg (by simp [h])]
  have := (op_down (change_crash (d := { d with crash := setT 0 11 }) h spring_0) [] [] []).2.2.2.2.2
  rw [this]
  rfl
theorem downD_off (d : Dsk) : (downD d).off = true := by
  cases h : d.off with
  | true => unfold downD; rw [if_pos h]; exact h
  | false => rw [downD_go h]
section
variable {W w : World} {g : Nat} {d : Dsk} {k : Nat}
set_option maxRecDepth 100000 in
set_option maxHeartbeats 2000000 in
theorem booted_at (h : At W w g d k) (hk : k ≤ 150) (t : Int) (ht : (Lit.int .i64 t).wf = true) {kv : Value} {keep : List Int} (hr : Row W kv (keep.map (Value.int .i64))) : Calls Try.prog 33 #[.pointer (some ⟨g, 0, none⟩), .int .i64 t, kv] w fun e w' => e = .returned (.bool true) ∧ At W w' g (bootD (downD d) t keep).1 (2 * (k + 1)) := by
  have H := Lib.hid h
  have HR := Lib.hid hr
  have HT := Lib.hid ht
  have HDN := Lib.hid (down_at h)
  clear h hr ht
  cases ho : d.off with
  | true =>
    rw [ho] at HDN
    have HX := Lib.hid (show downD d = d from by unfold downD; rw [if_pos ho])
    have HBT := Lib.hid (boot_at H.out (by omega) t HT.out (H.out.arg (Keeps.refl _) HR.out))
    rw [boot_e ho] at HBT
    clear ho
    go_enter Try.func33, Try.ntmps33
    go_wp2_with fail
    refine HDN.out.mono ?_
    rintro e w2 ⟨rfl, rfl⟩
    go_wp2_with fail
    refine HDN.out.mono ?_
    rintro e w2 ⟨rfl, rfl⟩
    go_wp2_with fail
    refine HBT.out.mono ?_
    rintro e w2 ⟨rfl, h2⟩
    have H2 := Lib.hid h2
    clear h2
    go_wp2_with fail
    go_ret
    rw [HX.out]
    exact ⟨rfl, ⟨H2.out.dsk, H2.out.keep, H2.out.few.mono (by omega)⟩⟩
  | false =>
    rw [ho] at HDN
    have HX := Lib.hid (show downD d = (syncDirD { d with crash := setT 0 11 }).1 from by unfold downD; rw [if_neg (by simp [ho])])
    have HOF : Hid ((syncDirD { d with crash := setT 0 11 }).1.off = true) := Lib.hid (by rw [← HX.out]; exact downD_off d)
    have HCR := Lib.hid (crash_at H.out 0)
    clear ho
    generalize ({ d with crash := setT 0 11 } : Dsk) = d1 at *
    go_enter Try.func33, Try.ntmps33
    go_wp2_with fail
    refine HDN.out.mono ?_
    rintro e w2 ⟨rfl, rfl⟩
    go_wp2_with fail
    refine HCR.out.mono ?_
    rintro e w2 ⟨rfl, h2⟩
    have H2 := Lib.hid h2
    clear h2 HDN HCR
    have HSD := Lib.hid (syncDir_at H2.out (by omega))
    generalize syncDirD d1 = r at *
    obtain ⟨d2, er⟩ := r
    go_wp2_with fail
    refine HSD.out.mono ?_
    rintro e w3 ⟨rfl, h3⟩
    have H3 := Lib.hid h3
    clear h3 HSD
    have ho2 : d2.off = true := HOF.out
    have HDN := Lib.hid (down_at H3.out)
    rw [ho2] at HDN
    have HBT := Lib.hid (boot_at H3.out (by omega) t HT.out (H3.out.arg (Keeps.refl _) HR.out))
    rw [show (bootD (d2, er).1 t keep).2 = 0 from boot_e ho2 t keep] at HBT
    clear ho2
    go_wp2_with fail
    refine HDN.out.mono ?_
    rintro e w4 ⟨rfl, rfl⟩
    go_wp2_with fail
    refine HBT.out.mono ?_
    rintro e w4 ⟨rfl, h4⟩
    have H4 := Lib.hid h4
    clear h4
    go_wp2_with fail
    go_ret
    rw [HX.out]
    exact ⟨rfl, H4.out⟩
end
/-- a disk's nodes, names and turns -/
structure Shp where
  nodes : List Nod
  seen : Nms
  sure : Nms
  moves : List Mv
def Wd (room : Int) (sh : Shp) (off : Bool) (n : Int) (f k : Int × Int) : Dsk := ⟨room, sh.nodes, sh.seen, sh.sure, sh.moves, off, n, f, k⟩
/-- the traps are as they may be: a call fails by 10 -/
structure Tr (f k : Int × Int) : Prop where
  f1 : -1 ≤ f.1
  k1 : -1 ≤ k.1
  f2 : 0 ≤ f.1 → f.2 = 10
theorem spring_two (x : Int) (h : -1 ≤ x) : springT x = (-1, true) ∧ 0 ≤ x ∨ ∃ y, -1 ≤ y ∧ springT x = (y, false) ∧ (x = -1 → y = -1) ∧ (0 ≤ y → 0 ≤ x) := by
  rcases (show x = -1 ∨ x = 0 ∨ 1 ≤ x by omega) with e | e | e
  · exact .inr ⟨-1, by omega, by rw [e]; exact spring_neg, fun _ => rfl, by omega⟩
  · exact .inl ⟨by rw [e]; exact spring_0, by omega⟩
  · exact .inr ⟨x - 1, by omega, spring_pos e, by omega, by omega⟩
section
variable {room : Int} {sh sh' : Shp} {n : Int} {f k : Int × Int}
theorem change_fail {d : Dsk} (h : d.off = false) {k' f' : Int} (hk : springT d.crash.1 = (k', false)) (hf : springT d.fail.1 = (f', true)) : changeD d = ({ d with off := false, count := d.count + 1, fail := (f', d.fail.2), crash := (k', d.crash.2) }, d.fail.2) := by
  unfold changeD
  rw [if_neg (by simp [h]), hk, if_neg (by simp), hf, if_pos rfl]
/-- what comes of a call that changes -/
theorem ch_out (h : Tr f k) : ∃ n' f' k', Tr f' k' ∧ (f.1 = -1 → f'.1 = -1) ∧ (changeD (Wd room sh false n f k) = (Wd room sh false n' f' k', 0) ∨ (0 ≤ f.1 ∧ f'.1 = -1 ∧ changeD (Wd room sh false n f k) = (Wd room sh false n' f' k', 10)) ∨ changeD (Wd room sh false n f k) = (Wd room sh true n' f' k', 11)) := by
  rcases spring_two f.1 h.f1 with ⟨hf, hf0⟩ | ⟨y, hy, hf, hfn, hfp⟩
  · rcases spring_two k.1 h.k1 with ⟨hk, -⟩ | ⟨z, hz, hk, -⟩
    · refine ⟨n + 1, (-1, f.2), (-1, k.2), ⟨Int.le_refl _, Int.le_refl _, fun h1 => by have : (0 : Int) ≤ -1 := h1; omega⟩, fun _ => rfl, .inr (.inr ?_)⟩
      rw [change_crash (d := Wd room sh false n f k) rfl hk]
      simp [Wd, hf]
    · refine ⟨n + 1, (-1, f.2), (z, k.2), ⟨Int.le_refl _, hz, fun h1 => by have : (0 : Int) ≤ -1 := h1; omega⟩, fun _ => rfl, .inr (.inl ⟨hf0, rfl, ?_⟩)⟩
      rw [change_fail (d := Wd room sh false n f k) rfl hk hf]
      show (Wd room sh false (n + 1) (-1, f.2) (z, k.2), f.2) = _
      rw [h.f2 hf0]
  · rcases spring_two k.1 h.k1 with ⟨hk, -⟩ | ⟨z, hz, hk, -⟩
    · refine ⟨n + 1, (y, f.2), (-1, k.2), ⟨hy, Int.le_refl _, fun h1 => h.f2 (hfp h1)⟩, hfn, .inr (.inr ?_)⟩
      rw [change_crash (d := Wd room sh false n f k) rfl hk]
      simp [Wd, hf]
    · refine ⟨n + 1, (y, f.2), (z, k.2), ⟨hy, hz, fun h1 => h.f2 (hfp h1)⟩, hfn, .inl ?_⟩
      rw [change_go (d := Wd room sh false n f k) rfl hk hf]
      rfl
/-- a call, from a shape to another one -/
def Out (room : Int) (sh sh' : Shp) (r : Dsk × Int) (f : Int × Int) : Prop := ∃ n' f' k', Tr f' k' ∧ (f.1 = -1 → f'.1 = -1) ∧ (r = (Wd room sh' false n' f' k', 0) ∨ (0 ≤ f.1 ∧ f'.1 = -1 ∧ r = (Wd room sh false n' f' k', 10)) ∨ r = (Wd room sh true n' f' k', 11))
/-- what goes well or is cut off -/
def Sure (room : Int) (sh sh' : Shp) (r : Dsk × Int) (f : Int × Int) : Prop := ∃ n' f' k', Tr f' k' ∧ (f.1 = -1 → f'.1 = -1) ∧ (r = (Wd room sh' false n' f' k', 0) ∨ r = (Wd room sh true n' f' k', 11))
/-- a call that begins with change -/
structure Begins (o : Dsk → Dsk × Int) : Prop where
  no : ∀ {d d' : Dsk} {c : Int}, changeD d = (d', c) → c ≠ 0 → o d = (d', c)
theorem out_of {o : Dsk → Dsk × Int} (hb : Begins o) (h : Tr f k) (hok : ∀ n' f' k', changeD (Wd room sh false n f k) = (Wd room sh false n' f' k', 0) → o (Wd room sh false n f k) = (Wd room sh' false n' f' k', 0)) : Out room sh sh' (o (Wd room sh false n f k)) f := by
  obtain ⟨n', f', k', ht, hf, hc | ⟨h0, h1, hc⟩ | hc⟩ := ch_out (room := room) (sh := sh) (n := n) h
  · exact ⟨n', f', k', ht, hf, .inl (hok _ _ _ hc)⟩
  · exact ⟨n', f', k', ht, hf, .inr (.inl ⟨h0, h1, hb.no hc (by decide)⟩)⟩
  · exact ⟨n', f', k', ht, hf, .inr (.inr (hb.no hc (by decide)))⟩
theorem twice_out {o : Dsk → Dsk × Int} (hb : ∀ n f k, Tr f k → Out room sh sh' (o (Wd room sh false n f k)) f) (h : Tr f k) : Sure room sh sh' (twice o (Wd room sh false n f k)) f := by
  obtain ⟨n', f', k', ht, hf, hc | ⟨h0, h1, hc⟩ | hc⟩ := hb n f k h
  · exact ⟨n', f', k', ht, hf, .inl (by rw [twice_one (.inl (by rw [hc])), hc])⟩
  · rw [twice_two (by rw [hc]; show (10 : Int) ≠ 0; decide) (by rw [hc]; show (10 : Int) ≠ 11; decide), hc]
    obtain ⟨n2, f2, k2, ht2, hf2, hc2 | ⟨h0', -, -⟩ | hc2⟩ := hb n' f' k' ht
    · exact ⟨n2, f2, k2, ht2, fun _ => hf2 h1, .inl hc2⟩
    · omega
    · exact ⟨n2, f2, k2, ht2, fun _ => hf2 h1, .inr hc2⟩
  · exact ⟨n', f', k', ht, hf, .inr (by rw [twice_one (.inr (by rw [hc])), hc])⟩
end
theorem begins_create (x : Str) : Begins (fun d => createD d x) := ⟨fun {d d' c} h hc => by show createD d x = _; unfold createD; rw [h]; rw [if_pos hc]⟩
theorem begins_append (x b : Str) : Begins (fun d => appendD d x b) := ⟨fun {d d' c} h hc => by
  have ht : touchD d x = (d', 0, c) := by unfold touchD; rw [h]; rw [if_pos hc]
  show appendD d x b = _
  unfold appendD
  rw [ht, if_pos hc]⟩
theorem begins_sync (x : Str) : Begins (fun d => syncD d x) := ⟨fun {d d' c} h hc => by
  have ht : touchD d x = (d', 0, c) := by unfold touchD; rw [h]; rw [if_pos hc]
  show syncD d x = _
  unfold syncD
  rw [ht, if_pos hc]⟩
theorem begins_rename (x y : Str) : Begins (fun d => renameD d x y) := ⟨fun {d d' c} h hc => by show renameD d x y = _; unfold renameD; rw [h]; rw [if_pos hc]⟩
theorem begins_unlink (x : Str) : Begins (fun d => unlinkD d x) := ⟨fun {d d' c} h hc => by
  have ht : touchD d x = (d', 0, c) := by unfold touchD; rw [h]; rw [if_pos hc]
  show unlinkD d x = _
  unfold unlinkD
  rw [ht, if_pos hc]⟩
theorem begins_dir : Begins syncDirD := ⟨fun {d d' c} h hc => by show syncDirD d = _; unfold syncDirD; rw [h]; rw [if_pos hc]⟩
end Sf
end Go.Proofs.Ytohchhgheeolpaa

/- Swap, plain: what comes of it whatever fails. -/
namespace Go.Proofs.Ytohchhgheeolpaa
open Go.RowKit
namespace Sf
open Vd
def nmS : Str := [115]
def nmN : Str := [115, 46, 110]
def shA (th : Bool) (old : Str) : Shp := cond th ⟨[madeN old], [(nmS, 0)], [(nmS, 0)], []⟩ ⟨[], [], [], []⟩
def shB (th : Bool) (old : Str) : Shp := cond th ⟨[madeN old, newN], [(nmS, 0), (nmN, 1)], [(nmS, 0)], [⟨1, nmN, true⟩]⟩ ⟨[newN], [(nmN, 0)], [], [⟨0, nmN, true⟩]⟩
def shC (th : Bool) (old new : Str) : Shp := cond th ⟨[madeN old, ⟨new, [], [⟨0, new⟩], true⟩], [(nmS, 0), (nmN, 1)], [(nmS, 0)], [⟨1, nmN, true⟩]⟩ ⟨[⟨new, [], [⟨0, new⟩], true⟩], [(nmN, 0)], [], [⟨0, nmN, true⟩]⟩
def shD (th : Bool) (old new : Str) : Shp := cond th ⟨[madeN old, ⟨new, new, [], true⟩], [(nmS, 0), (nmN, 1)], [(nmS, 0)], [⟨1, nmN, true⟩]⟩ ⟨[⟨new, new, [], true⟩], [(nmN, 0)], [], [⟨0, nmN, true⟩]⟩
def shE (th : Bool) (old new : Str) : Shp := cond th ⟨[madeN old, ⟨new, new, [], true⟩], [(nmS, 1)], [(nmS, 0)], [⟨1, nmN, true⟩, ⟨1, nmS, false⟩]⟩ ⟨[⟨new, new, [], true⟩], [(nmS, 0)], [], [⟨0, nmN, true⟩, ⟨0, nmS, false⟩]⟩
def shF (th : Bool) (old new : Str) : Shp := cond th ⟨[madeN old, ⟨new, new, [], false⟩], [(nmS, 1)], [(nmS, 1)], []⟩ ⟨[⟨new, new, [], false⟩], [(nmS, 0)], [(nmS, 0)], []⟩
def shBU (th : Bool) (old : Str) : Shp := cond th ⟨[madeN old, newN], [(nmS, 0)], [(nmS, 0)], [⟨1, nmN, true⟩, ⟨1, [], false⟩]⟩ ⟨[newN], [], [], [⟨0, nmN, true⟩, ⟨0, [], false⟩]⟩
def shDU (th : Bool) (old new : Str) : Shp := cond th ⟨[madeN old, ⟨new, new, [], true⟩], [(nmS, 0)], [(nmS, 0)], [⟨1, nmN, true⟩, ⟨1, [], false⟩]⟩ ⟨[⟨new, new, [], true⟩], [], [], [⟨0, nmN, true⟩, ⟨0, [], false⟩]⟩
def oldR (th : Bool) (old : Str) : Str × Int := cond th (old, 0) ([], 7)
def RdOld (th : Bool) (old : Str) (sh : Shp) : Prop := ∀ n f k t ks, textD (bootD (Wd 100000 sh true n f k) t ks).1 nmS = oldR th old
def RdNew (new : Str) (sh : Shp) : Prop := ∀ n f k t ks, textD (bootD (Wd 100000 sh true n f k) t ks).1 nmS = (new, 0)
def RdMix (th : Bool) (old new : Str) (sh : Shp) : Prop := ∀ n f k t ks, textD (bootD (Wd 100000 sh true n f k) t ks).1 nmS = oldR th old ∨ textD (bootD (Wd 100000 sh true n f k) t ks).1 nmS = (new, 0)
section
variable {th : Bool} {old new : Str} {n : Int} {f k : Int × Int}
theorem rdA : RdOld th old (shA th old) := fun n f k t ks => by
  unfold bootD
  generalize t.toNat = m
  cases th <;> (rcases m with _ | m <;> kernel_rfl)
theorem rdB : RdOld th old (shB th old) := fun n f k t ks => by
  unfold bootD
  generalize t.toNat = m
  cases th <;> (rcases m with _ | _ | m <;> kernel_rfl)
theorem rdC : RdOld th old (shC th old new) := fun n f k t ks => by
  unfold bootD
  generalize t.toNat = m
  cases th <;> (rcases m with _ | _ | m <;> kernel_rfl)
theorem rdD : RdOld th old (shD th old new) := fun n f k t ks => by
  unfold bootD
  generalize t.toNat = m
  cases th <;> (rcases m with _ | _ | m <;> kernel_rfl)
theorem rdBU : RdOld th old (shBU th old) := fun n f k t ks => by
  unfold bootD
  generalize t.toNat = m
  cases th <;> (rcases m with _ | _ | _ | m <;> kernel_rfl)
theorem rdDU : RdOld th old (shDU th old new) := fun n f k t ks => by
  unfold bootD
  generalize t.toNat = m
  cases th <;> (rcases m with _ | _ | _ | m <;> kernel_rfl)
theorem rdE : RdMix th old new (shE th old new) := fun n f k t ks => by
  unfold bootD
  generalize t.toNat = m
  cases th
  · rcases m with _ | _ | _ | m
    · exact .inl (by kernel_rfl)
    · exact .inl (by kernel_rfl)
    · exact .inr (by kernel_rfl)
    · exact .inr (by kernel_rfl)
  · rcases m with _ | _ | _ | m
    · exact .inl (by kernel_rfl)
    · exact .inl (by kernel_rfl)
    · exact .inr (by kernel_rfl)
    · exact .inr (by kernel_rfl)
theorem rdF : RdNew new (shF th old new) := fun n f k t ks => by
  unfold bootD
  generalize t.toNat = m
  cases th <;> (rcases m with _ | m <;> kernel_rfl)
theorem RdOld.mix {sh : Shp} (h : RdOld th old sh) : RdMix th old new sh := fun n f k t ks => .inl (h n f k t ks)
set_option maxRecDepth 100000 in
theorem createA (h : Tr f k) : Out 100000 (shA th old) (shB th old) (createD (Wd 100000 (shA th old) false n f k) nmN) f :=
  out_of (begins_create nmN) h (fun n' f' k' hc => by
    unfold createD
    rw [hc]
    cases th <;> kernel_rfl)
set_option maxRecDepth 100000 in
theorem appendB (h : Tr f k) (hl : old.length ≤ 1000) (hn : new.length ≤ 1000) : Out 100000 (shB th old) (shC th old new) (appendD (Wd 100000 (shB th old) false n f k) nmN new) f :=
  out_of (begins_append nmN new) h (fun n' f' k' hc => by
    cases th
    · have ht : touchD (Wd 100000 (shB false old) false n f k) nmN = (Wd 100000 (shB false old) false n' f' k', 0, 0) := by
        unfold touchD
        rw [hc]
        kernel_rfl
      show appendD _ nmN new = _
      unfold appendD
      rw [ht, if_neg (by show ¬ (0 : Int) ≠ 0; simp)]
      show writeD (Wd 100000 (shB false old) false n' f' k') 0 ⟨0, new⟩ = _
      unfold writeD
      rw [if_neg (by
        show ¬ (100000 : Int) - ((bytesN [newN] [(nmN, 0)] : Nat) : Int) < ((overL [] 0 new).length : Int) - (([] : Str).length : Int)
        rw [overL_nil]
        simp [bytesN, newN]
        omega)]
      show (putD (Wd 100000 (shB false old) false n' f' k') 0 (wroteN newN ⟨0, new⟩), (0 : Int)) = _
      unfold wroteN
      rw [show overL newN.seen (Pat.mk 0 new).place (Pat.mk 0 new).b = new from overL_nil new]
      kernel_rfl
    · have ht : touchD (Wd 100000 (shB true old) false n f k) nmN = (Wd 100000 (shB true old) false n' f' k', 1, 0) := by
        unfold touchD
        rw [hc]
        kernel_rfl
      show appendD _ nmN new = _
      unfold appendD
      rw [ht, if_neg (by show ¬ (0 : Int) ≠ 0; simp)]
      show writeD (Wd 100000 (shB true old) false n' f' k') 1 ⟨0, new⟩ = _
      unfold writeD
      rw [if_neg (by
        show ¬ (100000 : Int) - ((bytesN [madeN old, newN] [(nmS, 0), (nmN, 1)] : Nat) : Int) < ((overL [] 0 new).length : Int) - (([] : Str).length : Int)
        rw [overL_nil]
        simp [bytesN, madeN, newN]
        omega)]
      show (putD (Wd 100000 (shB true old) false n' f' k') 1 (wroteN newN ⟨0, new⟩), (0 : Int)) = _
      unfold wroteN
      rw [show overL newN.seen (Pat.mk 0 new).place (Pat.mk 0 new).b = new from overL_nil new]
      kernel_rfl)
theorem touch_of {d d' : Dsk} {x : Str} {i : Nat} (hc : changeD d = (d', 0)) (hl : Vd.look d.seen x = some i) : touchD d x = (d', i, 0) := by
  unfold touchD findE
  rw [hc, hl, if_neg (by show ¬ (0 : Int) ≠ 0; simp)]
  rfl
theorem syncC (h : Tr f k) : Out 100000 (shC th old new) (shD th old new) (syncD (Wd 100000 (shC th old new) false n f k) nmN) f :=
  out_of (begins_sync nmN) h (fun n' f' k' hc => by
    cases th
    · show syncD _ nmN = _
      unfold syncD
      rw [touch_of hc (i := 0) (by kernel_rfl)]
      kernel_rfl
    · show syncD _ nmN = _
      unfold syncD
      rw [touch_of hc (i := 1) (by kernel_rfl)]
      kernel_rfl)
theorem renameDo (h : Tr f k) : Out 100000 (shD th old new) (shE th old new) (renameD (Wd 100000 (shD th old new) false n f k) nmN nmS) f :=
  out_of (begins_rename nmN nmS) h (fun n' f' k' hc => by
    show renameD _ nmN nmS = _
    unfold renameD
    rw [hc]
    cases th <;> kernel_rfl)
theorem dirE (h : Tr f k) : Out 100000 (shE th old new) (shF th old new) (syncDirD (Wd 100000 (shE th old new) false n f k)) f :=
  out_of begins_dir h (fun n' f' k' hc => by
    show syncDirD _ = _
    unfold syncDirD
    rw [hc]
    cases th <;> kernel_rfl)
theorem unlinkB (h : Tr f k) : Out 100000 (shB th old) (shBU th old) (unlinkD (Wd 100000 (shB th old) false n f k) nmN) f :=
  out_of (begins_unlink nmN) h (fun n' f' k' hc => by
    cases th
    · show unlinkD _ nmN = _
      unfold unlinkD
      rw [touch_of hc (i := 0) (by kernel_rfl)]
      kernel_rfl
    · show unlinkD _ nmN = _
      unfold unlinkD
      rw [touch_of hc (i := 1) (by kernel_rfl)]
      kernel_rfl)
theorem unlinkDo (h : Tr f k) : Out 100000 (shD th old new) (shDU th old new) (unlinkD (Wd 100000 (shD th old new) false n f k) nmN) f :=
  out_of (begins_unlink nmN) h (fun n' f' k' hc => by
    cases th
    · show unlinkD _ nmN = _
      unfold unlinkD
      rw [touch_of hc (i := 0) (by kernel_rfl)]
      kernel_rfl
    · show unlinkD _ nmN = _
      unfold unlinkD
      rw [touch_of hc (i := 1) (by kernel_rfl)]
      kernel_rfl)
theorem hasA : hasD (Wd 100000 (shA th old) false n f k) nmN = false := by cases th <;> kernel_rfl
theorem hasB : hasD (Wd 100000 (shB th old) false n f k) nmN = true := by cases th <;> kernel_rfl
theorem hasDo : hasD (Wd 100000 (shD th old new) false n f k) nmN = true := by cases th <;> kernel_rfl
end
end Sf
end Go.Proofs.Ytohchhgheeolpaa

/- What Swap answers, and what is read behind the boot. -/
namespace Go.Proofs.Ytohchhgheeolpaa
open Go.RowKit
namespace Sf
open Vd
def SwapRes (th : Bool) (old new : Str) (r : Dsk × Int) : Prop := ∃ off n f k sh, r.1 = Wd 100000 sh off n f k ∧ (r.2 = 0 ∧ RdNew new sh ∨ r.2 = 10 ∧ RdOld th old sh ∨ r.2 = 11 ∧ RdMix th old new sh)
section
variable {th : Bool} {old new : Str} {n : Int} {f k : Int × Int}
theorem thenD_go {d : Dsk} {g : Dsk → Dsk × Int} : thenD (d, 0) g = g d := thenD_ok rfl
theorem thenD_10 {d : Dsk} {g : Dsk → Dsk × Int} : thenD (d, 10) g = (d, 10) := thenD_no (by show (10 : Int) ≠ 0; decide)
theorem thenD_11 {d : Dsk} {g : Dsk → Dsk × Int} : thenD (d, 11) g = (d, 11) := thenD_no (by show (11 : Int) ≠ 0; decide)
theorem tidy11 {x : Str} {d : Dsk} : tidyS x (d, 11) = (d, 11) := if_pos (.inr (.inl rfl))
theorem tidy0 {x : Str} {d : Dsk} : tidyS x (d, 0) = (d, 0) := if_pos (.inl rfl)
theorem tidy10 {x : Str} {d : Dsk} (h : hasD d x = true) : tidyS x (d, 10) = ((sUnlink x d).1, 10) := if_neg (by simp [h])
theorem tidy10n {x : Str} {d : Dsk} (h : hasD d x = false) : tidyS x (d, 10) = (d, 10) := if_pos (.inr (.inr h))
theorem sappendB (h : Tr f k) (hl : old.length ≤ 1000) (hn : new.length ≤ 1000) : ∃ n' f' k', Tr f' k' ∧ (sAppend nmN new (Wd 100000 (shB th old) false n f k) = (Wd 100000 (shD th old new) false n' f' k', 0) ∨ sAppend nmN new (Wd 100000 (shB th old) false n f k) = (Wd 100000 (shB th old) false n' f' k', 10) ∨ sAppend nmN new (Wd 100000 (shB th old) false n f k) = (Wd 100000 (shB th old) true n' f' k', 11) ∨ sAppend nmN new (Wd 100000 (shB th old) false n f k) = (Wd 100000 (shC th old new) true n' f' k', 11)) := by
  unfold sAppend
  obtain ⟨n1, f1, k1, t1, -, hc | ⟨-, -, hc⟩ | hc⟩ := appendB (n := n) h hl hn
  · rw [hc, thenD_go]
    obtain ⟨n2, f2, k2, t2, -, hc2 | hc2⟩ := twice_out (room := 100000) (sh := shC th old new) (sh' := shD th old new) (o := fun d => syncD d nmN) (n := n1) (fun n f k h => syncC h) t1
    · exact ⟨n2, f2, k2, t2, .inl hc2⟩
    · exact ⟨n2, f2, k2, t2, .inr (.inr (.inr hc2))⟩
  · rw [hc, thenD_10]
    exact ⟨n1, f1, k1, t1, .inr (.inl rfl)⟩
  · rw [hc, thenD_11]
    exact ⟨n1, f1, k1, t1, .inr (.inr (.inl rfl))⟩
theorem sswap_res (h : Tr f k) (hl : old.length ≤ 1000) (hn : new.length ≤ 1000) : SwapRes th old new (sSwap nmS new (Wd 100000 (shA th old) false n f k)) := by
  unfold sSwap
  rw [if_neg (by decide), show nmS ++ dotN = nmN from rfl, hasA, if_neg (by simp)]
  unfold sSwap1
  obtain ⟨n1, f1, k1, t1, -, hc | ⟨-, -, hc⟩ | hc⟩ := createA (n := n) (th := th) (old := old) h
  · rw [hc, thenD_go]
    obtain ⟨n2, f2, k2, t2, hc2 | hc2 | hc2 | hc2⟩ := sappendB (n := n1) (th := th) t1 hl hn
    · rw [hc2, thenD_go]
      obtain ⟨n3, f3, k3, t3, -, hc3 | ⟨-, -, hc3⟩ | hc3⟩ := renameDo (n := n2) (th := th) (old := old) (new := new) t2
      · rw [hc3, thenD_go]
        obtain ⟨n4, f4, k4, t4, -, hc4 | hc4⟩ := twice_out (room := 100000) (sh := shE th old new) (sh' := shF th old new) (o := syncDirD) (n := n3) (fun n f k h => dirE h) t3
        · rw [show sDir (Wd 100000 (shE th old new) false n3 f3 k3) = _ from hc4, tidy0]
          exact ⟨_, _, _, _, _, rfl, .inl ⟨rfl, rdF⟩⟩
        · rw [show sDir (Wd 100000 (shE th old new) false n3 f3 k3) = _ from hc4, tidy11]
          exact ⟨_, _, _, _, _, rfl, .inr (.inr ⟨rfl, rdE⟩)⟩
      · rw [hc3, thenD_10, tidy10 hasDo]
        obtain ⟨n4, f4, k4, t4, -, hc4 | hc4⟩ := twice_out (room := 100000) (sh := shD th old new) (sh' := shDU th old new) (o := fun d => unlinkD d nmN) (n := n3) (fun n f k h => unlinkDo h) t3
        · rw [show sUnlink nmN (Wd 100000 (shD th old new) false n3 f3 k3) = _ from hc4]
          exact ⟨_, _, _, _, _, rfl, .inr (.inl ⟨rfl, rdDU⟩)⟩
        · rw [show sUnlink nmN (Wd 100000 (shD th old new) false n3 f3 k3) = _ from hc4]
          exact ⟨_, _, _, _, _, rfl, .inr (.inl ⟨rfl, rdD⟩)⟩
      · rw [hc3, thenD_11, tidy11]
        exact ⟨_, _, _, _, _, rfl, .inr (.inr ⟨rfl, rdD.mix⟩)⟩
    · rw [hc2, thenD_10, thenD_10, tidy10 hasB]
      obtain ⟨n4, f4, k4, t4, -, hc4 | hc4⟩ := twice_out (room := 100000) (sh := shB th old) (sh' := shBU th old) (o := fun d => unlinkD d nmN) (n := n2) (fun n f k h => unlinkB h) t2
      · rw [show sUnlink nmN (Wd 100000 (shB th old) false n2 f2 k2) = _ from hc4]
        exact ⟨_, _, _, _, _, rfl, .inr (.inl ⟨rfl, rdBU⟩)⟩
      · rw [show sUnlink nmN (Wd 100000 (shB th old) false n2 f2 k2) = _ from hc4]
        exact ⟨_, _, _, _, _, rfl, .inr (.inl ⟨rfl, rdB⟩)⟩
    · rw [hc2, thenD_11, thenD_11, tidy11]
      exact ⟨_, _, _, _, _, rfl, .inr (.inr ⟨rfl, rdB.mix⟩)⟩
    · rw [hc2, thenD_11, thenD_11, tidy11]
      exact ⟨_, _, _, _, _, rfl, .inr (.inr ⟨rfl, rdC.mix⟩)⟩
  · rw [hc, thenD_10, thenD_10, thenD_10, tidy10n hasA]
    exact ⟨_, _, _, _, _, rfl, .inr (.inl ⟨rfl, rdA⟩)⟩
  · rw [hc, thenD_11, thenD_11, thenD_11, tidy11]
    exact ⟨_, _, _, _, _, rfl, .inr (.inr ⟨rfl, rdA.mix⟩)⟩
theorem down_shape (sh : Shp) (off : Bool) (n : Int) (f k : Int × Int) : ∃ n' f' k', downD (Wd 100000 sh off n f k) = Wd 100000 sh true n' f' k' := by
  cases off with
  | true => exact ⟨n, f, k, if_pos rfl⟩
  | false => exact ⟨_, _, _, downD_go rfl⟩
end
end Sf
end Go.Proofs.Ytohchhgheeolpaa

/- SafeSwaps: its walk. -/
namespace Go.Proofs.Ytohchhgheeolpaa
open Go.RowKit
namespace Sf
open Vd
theorem tr_of (fl c : Int) : Tr (failT fl 10) (setT c 11) := by
  refine ⟨(setT_in fl 10).1, (setT_in c 11).1, fun h => ?_⟩
  have h : 0 ≤ (setT fl 10).1 := h
  show (setT fl 10).2 = 10
  unfold setT at h ⊢
  split at h
  · have : (0 : Int) ≤ -1 := h
    omega
  · rename_i h1
    rw [if_neg h1]
theorem few_A (th : Bool) (old : Str) (f k : Int × Int) : Few (Wd 100000 (shA th old) false 0 f k) 1 := by
  cases th
  · exact ⟨by show (0 : Int) ≤ 0; omega, by show (0 : Int) ≤ 1; omega, Nat.zero_le _, Nat.zero_le _, fun y hy => absurd hy (List.not_mem_nil), Nat.zero_le _, Nat.zero_le _⟩
  · exact ⟨by show (0 : Int) ≤ 0; omega, by show (0 : Int) ≤ 1; omega, Nat.zero_le _, Nat.le_refl _, fun y hy => by
      have hy : y ∈ [madeN old] := hy
      simp at hy
      subst hy
      exact Nat.zero_le _, Nat.le_refl _, Nat.le_refl _⟩
set_option maxRecDepth 100000 in
set_option maxHeartbeats 4000000 in
theorem safeSwaps_walk (W : World) (th : Bool) (v1 : Value) (old : List UInt8) (v2 : Value) (new : List UInt8) (fl c t : Int) (v6 : Value) (ks : List Int) (r1 : Row W v1 (old.map u8v)) (r2 : Row W v2 (new.map u8v)) (_w3 : (Lit.int .i64 fl).wf = true) (_w4 : (Lit.int .i64 c).wf = true) (w5 : (Lit.int .i64 t).wf = true) (_w6 : ∀ x ∈ ks, (Lit.int .i64 x).wf = true) (r6 : Row W v6 (ks.map (.int .i64))) :
    Calls Try.prog 7 #[.bool th, v1, v2, .int .i64 fl, .int .i64 c, .int .i64 t, v6] W fun e w' => e = .returned (.bool true) ∧ Keeps W w' := by
  obtain ⟨p1, c1, rfl, -, -⟩ := r1.formB
  obtain ⟨p2, c2, rfl, -, -⟩ := r2.formB
  have HR1 := Lib.hid r1
  have HR2 := Lib.hid r2
  have HR6 := Lib.hid r6
  obtain ⟨p6, c6, rfl, -, -⟩ := r6.form
  have hkl : (ks.map (Value.int .i64)).length = ks.length := by simp
  rw [hkl] at HR6 ⊢
  have HWF := Lib.hid w5
  have HAW := Lib.hid (awake16_any W)
  clear r1 r2 r6 w5 _w3 _w4 _w6 hkl
  go_enter Try.func7, Try.ntmps7
  go_wp2_with fail
  refine HAW.out.mono ?_
  rintro e w1 ⟨rfl, hk1⟩
  have HK1 := Lib.hid hk1
  clear hk1 HAW
  by_cases h1 : 1000 < old.length
  · go_wp2_with fail
    go_ret
    exact ⟨rfl, HK1.out⟩
  by_cases h2 : 1000 < new.length
  · go_wp2_with fail
    go_ret
    exact ⟨rfl, HK1.out⟩
  by_cases h3 : 60 < ks.length
  · go_wp2_with fail
    go_ret
    exact ⟨rfl, HK1.out⟩
  have hol : old.length ≤ 1000 := by omega
  have hnl : new.length ≤ 1000 := by omega
  go_upto_if 35 with fail
  go_cut [15] (fun fv wx => ∃ pv nv cv, fv = .slice pv nv cv ∧ Hid (∃ fs : List FileX, RowS wx 2 (.slice pv nv cv) fs.length (fs.flatMap fileC) ∧ (∀ f ∈ fs, FileOk wx f) ∧ newD fs 100000 = some (Wd 100000 (shA th old) false 0 (-1, 0) (-1, 0)) ∧ Keeps W wx))
  case first =>
    cases th with
    | false =>
      go_wp2_with fail
      go_meet
      exact ⟨_, _, _, rfl, Lib.hid ⟨[], rowS_none _, fun f hf => absurd hf (List.not_mem_nil), rfl, HK1.out⟩⟩
    | true =>
      go_wp2_with fail
      go_meet
      exact ⟨_, _, _, rfl, Lib.hid ⟨[([115], old, .slice p1 old.length c1)], rowS_one _ (Blk.new _ _ _ rfl), fun f hf => by
        simp at hf
        subst hf
        exact ⟨HR1.out.keeps (HK1.out.alloc _), by show 1 ≤ 9000000000000000000; omega⟩, by rw [newD_one (by omega) (by omega) named_s (by omega)]; rfl, HK1.out.alloc _⟩⟩
  case rest =>
  obtain ⟨pv, nv, cv, rfl, HF⟩ := hcut
  obtain ⟨w2, rfl⟩ : ∃ z : World, z = wc := ⟨_, rfl⟩
  obtain ⟨fs, hrow, hok, hnew, hkw⟩ := HF.out
  have HNW := Lib.hid (new_at hkw _ fs hrow hok 100000)
  unfold NewAt at HNW
  rw [hnew] at HNW
  clear hrow hok hnew hkw HF
  go_wp2_with fail
  refine HNW.out.mono ?_
  rintro e w3 ⟨hk, g, rfl, hd⟩
  have H3 := Lib.hid (show At W w3 g (Wd 100000 (shA th old) false 0 (-1, 0) (-1, 0)) 1 from ⟨hd, hk, few_A _ _ _ _⟩)
  clear hd hk HNW
  have HFL := Lib.hid (fail_at H3.out fl 10)
  go_wp2_with fail
  refine HFL.out.mono ?_
  rintro e w4 ⟨rfl, h4⟩
  have H4 := Lib.hid (show At W w4 g (Wd 100000 (shA th old) false 0 (failT fl 10) (-1, 0)) 1 from h4)
  clear h4 HFL H3
  have HCR := Lib.hid (crash_at H4.out c)
  go_wp2_with fail
  refine HCR.out.mono ?_
  rintro e w5 ⟨rfl, h5⟩
  have H5 := Lib.hid (show At W w5 g (Wd 100000 (shA th old) false 0 (failT fl 10) (setT c 11)) 1 from h5)
  clear h5 HCR H4
  have HSW := Lib.hid (sswap_on H5.out.on (by omega) (x := nmS) (b := new) (by decide) (stays_keeps HR2.out) (by omega))
  have HRS := Lib.hid (sswap_res (n := 0) (th := th) (tr_of fl c) hol hnl)
  generalize sSwap nmS new (Wd 100000 (shA th old) false 0 (failT fl 10) (setT c 11)) = r at *
  unfold nmS at HSW
  obtain ⟨d6, er⟩ := r
  go_wp2_with fail
  refine HSW.out.mono ?_
  rintro e w6 ⟨ce, rfl, hce, ho⟩
  have hce : ce = er := hce
  subst hce
  obtain ⟨off, n, f, k, sh, hd6, hcase⟩ := HRS.out
  have hd6 : d6 = Wd 100000 sh off n f k := hd6
  obtain ⟨n', f', k', hdn⟩ := down_shape sh off n f k
  rw [← hd6] at hdn
  have HBT := Lib.hid (booted_at ho.at_ (by omega) t HWF.out HR6.out)
  simp only at HBT
  rw [hdn] at HBT
  have HCASE := Lib.hid hcase
  clear ho hcase hd6 hdn HSW HRS H5
  have HREST : Hid True := Lib.hid trivial
  rcases HCASE.out with ⟨he, hrd⟩ | ⟨he, hrd⟩ | ⟨he, hrd⟩
  · have he : ce = 0 := he
    subst he
    have HRD := Lib.hid (hrd n' f' k' t ks)
    clear hrd HCASE
    go_wp2_with fail
    refine HBT.out.mono ?_
    rintro e w7 ⟨rfl, h7⟩
    have H7 := Lib.hid h7
    clear h7 HBT
    have HR := Lib.hid (read_at H7.out nmS (by decide))
    rw [HRD.out] at HR
    unfold ReadDid nmS at HR
    go_wp2_with fail
    refine HR.out.mono ?_
    rintro e w8 ⟨v, rfl, hr, hk⟩
    have HE := Lib.hid (H7.out.keep.trans hk)
    have hc1 := Frm.str_at' hr
    have hc2 := Frm.str_at' (HR2.out.keeps HE.out)
    have hbe : ((bstr new).toList == (bstr new).toList) = true := by simp
    clear hr hk HR H7
    go_wp2_with fail
    go_ret
    exact ⟨by simp, HE.out⟩
  · have he : ce = 10 := he
    subst he
    have HRD := Lib.hid (hrd n' f' k' t ks)
    clear hrd HCASE
    go_wp2_with fail
    refine HBT.out.mono ?_
    rintro e w7 ⟨rfl, h7⟩
    have H7 := Lib.hid h7
    clear h7 HBT
    have HR := Lib.hid (read_at H7.out nmS (by decide))
    rw [HRD.out] at HR
    unfold ReadDid nmS at HR
    cases th with
    | false =>
      rw [show oldR false old = ([], 7) from rfl] at HR
      go_wp2_with fail
      refine HR.out.mono ?_
      rintro e w8 ⟨v, rfl, hr, hk⟩
      have HE := Lib.hid (H7.out.keep.trans hk)
      clear hr hk HR H7
      go_wp2_with fail
      go_ret
      exact ⟨rfl, HE.out⟩
    | true =>
      rw [show oldR true old = (old, 0) from rfl] at HR
      go_wp2_with fail
      refine HR.out.mono ?_
      rintro e w8 ⟨v, rfl, hr, hk⟩
      have HE := Lib.hid (H7.out.keep.trans hk)
      have hc1 := Frm.str_at' hr
      have hc2 := Frm.str_at' (HR1.out.keeps HE.out)
      have hbe : ((bstr old).toList == (bstr old).toList) = true := by simp
      clear hr hk HR H7
      go_wp2_with fail
      go_ret
      exact ⟨by simp, HE.out⟩
  · have he : ce = 11 := he
    subst he
    have HRD := Lib.hid (hrd n' f' k' t ks)
    clear hrd HCASE
    go_wp2_with fail
    refine HBT.out.mono ?_
    rintro e w7 ⟨rfl, h7⟩
    have H7 := Lib.hid h7
    clear h7 HBT
    have HR := Lib.hid (read_at H7.out nmS (by decide))
    unfold nmS at HR
    rcases HRD.out with hrd | hrd
    · rw [show textD _ [115] = oldR th old from hrd] at HR
      unfold ReadDid at HR
      clear hrd HRD
      cases th with
      | false =>
        rw [show oldR false old = ([], 7) from rfl] at HR
        go_wp2_with fail
        refine HR.out.mono ?_
        rintro e w8 ⟨v, rfl, hr, hk⟩
        have HE := Lib.hid (H7.out.keep.trans hk)
        clear hr hk HR H7
        go_wp2_with fail
        go_ret
        exact ⟨rfl, HE.out⟩
      | true =>
        rw [show oldR true old = (old, 0) from rfl] at HR
        go_wp2_with fail
        refine HR.out.mono ?_
        rintro e w8 ⟨v, rfl, hr, hk⟩
        have HE := Lib.hid (H7.out.keep.trans hk)
        have hc1 := Frm.str_at' hr
        have hc2 := Frm.str_at' (HR1.out.keeps HE.out)
        have hc3 := Frm.str_at' (HR2.out.keeps HE.out)
        have hbe : ((bstr old).toList == (bstr old).toList) = true := by simp
        clear hr hk HR H7
        cases hon : ((bstr old).toList == (bstr new).toList) with
        | true =>
          go_wp2_with fail
          go_ret
          exact ⟨by simp, HE.out⟩
        | false =>
          go_wp2_with fail
          go_ret
          exact ⟨by simp, HE.out⟩
    · rw [show textD _ [115] = (new, 0) from hrd] at HR
      unfold ReadDid at HR
      clear hrd HRD
      go_wp2_with fail
      refine HR.out.mono ?_
      rintro e w8 ⟨v, rfl, hr, hk⟩
      have HE := Lib.hid (H7.out.keep.trans hk)
      have hc1 := Frm.str_at' hr
      have hc2 := Frm.str_at' (HR2.out.keeps HE.out)
      have hbe : ((bstr new).toList == (bstr new).toList) = true := by simp
      clear hr hk HR H7
      go_wp2_with fail
      go_ret
      exact ⟨by simp, HE.out⟩
end Sf
end Go.Proofs.Ytohchhgheeolpaa

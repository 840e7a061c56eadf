/- The law UsersBack: a table's bytes are read as the table; a copy goes on as it does. -/
import Derived.Test.YtklbemkafdccgaaGreatK49
import Derived.Test.YtklbemkafdccgaaGreatK50
import Derived.Test.YtklbemkafdccgaaGreatK25
import Derived.Test.YtklbemkafdccgaaGreatK44
namespace Go.Proofs.YtklbemkafdccgaaGreat
open Go.RowKit
namespace Usr
open Adr (Str domainB)
open Frm (str_at')
open Oct (RetS)
open Mp Go.Maps
theorem addrM14 : Mids Tryz.prog 48 2 := ⟨⟨_, Tryz.underlying48, rfl⟩, by kernel_rfl⟩
/-- the table, its copy, and the one that was read, side by side -/
structure BkAt (W wr : World) (g b1 b2 h c1 c2 k d1 d2 q qa nt nc nr : Nat) (T C R : TabP) (pu : Option Addr) (cu : Nat) (pa : Option Addr) (ca : Nat) (L : List (AlP × Value)) (bv : Value) (x y : Str) : Prop where
 t : TabAt wr g b1 b2 nt T
 c : TabAt wr h c1 c2 nc C
 r : TabAt wr k d1 d2 nr R
 rt : RT wr (.slice pu T.us.length cu) (.slice pa L.length ca) T L
 blk : Blk wr q 32 #[.string (bstr T.dom), .int .i64 T.next, .slice pu T.us.length cu, .slice pa L.length ca]
 ad : Blk wr qa 48 #[.string (bstr x), .string (bstr y)]
 bv : Own wr 0 5 bv ((bytesT T).map u8v)
 kp : Keeps W wr
/-- none of the three tables' blocks is another one's -/
structure Apart3 (W : World) (g b1 b2 h c1 c2 k d1 d2 q qa : Nat) : Prop where
 tc : ∀ x, TFr g b1 b2 x → ¬ TFr h c1 c2 x
 tr : ∀ x, TFr g b1 b2 x → ¬ TFr k d1 d2 x
 cr : ∀ x, TFr h c1 c2 x → ¬ TFr k d1 d2 x
 q1 : ¬ TFr h c1 c2 q ∧ ¬ TFr k d1 d2 q
 q2 : ¬ TFr h c1 c2 qa ∧ ¬ TFr k d1 d2 qa
 lc : ∀ x, TFr h c1 c2 x → W.heap.size ≤ x
 lr : ∀ x, TFr k d1 d2 x → W.heap.size ≤ x
theorem TabAt.other {w w' : World} {g b1 b2 n h c1 c2 m : Nat} {t c : TabP} (ht : TabAt w g b1 b2 n t) (hc : TabAt w h c1 c2 m c) (k : Mods (TFr h c1 c2) w w') (hn : ∀ x, TFr g b1 b2 x → ¬ TFr h c1 c2 x) : TabAt w' g b1 b2 n t :=
 ht.mods k (hn g (.inl rfl)) (hn b1 (.inr (.inl rfl))) (hn b2 (.inr (.inr rfl))) (fun x hx cs fr => hc.rows x hx cs _ fr (.inr (.inr rfl)))
theorem BkAt.keeps {W w w' : World} {g b1 b2 h c1 c2 k d1 d2 q qa nt nc nr : Nat} {T C R : TabP} {pu : Option Addr} {cu : Nat} {pa : Option Addr} {ca : Nat} {L : List (AlP × Value)} {bv : Value} {x y : Str} (H : BkAt W w g b1 b2 h c1 c2 k d1 d2 q qa nt nc nr T C R pu cu pa ca L bv x y) (kk : Keeps w w') : BkAt W w' g b1 b2 h c1 c2 k d1 d2 q qa nt nc nr T C R pu cu pa ca L bv x y :=
 ⟨H.t.keeps kk, H.c.keeps kk, H.r.keeps kk, H.rt.keeps kk, H.blk.keeps kk, H.ad.keeps kk, H.bv.keeps kk, H.kp.trans kk⟩
theorem BkAt.actR {W w w' : World} {g b1 b2 h c1 c2 k d1 d2 q qa nt nc nr nr' : Nat} {T C R R' : TabP} {pu : Option Addr} {cu : Nat} {pa : Option Addr} {ca : Nat} {L : List (AlP × Value)} {bv : Value} {x y : Str} (H : BkAt W w g b1 b2 h c1 c2 k d1 d2 q qa nt nc nr T C R pu cu pa ca L bv x y) (A : Apart3 W g b1 b2 h c1 c2 k d1 d2 q qa) (hm : Mods (TFr k d1 d2) w w') (ht : TabAt w' k d1 d2 nr' R') : BkAt W w' g b1 b2 h c1 c2 k d1 d2 q qa nt nc nr' T C R' pu cu pa ca L bv x y :=
 ⟨H.t.other H.r hm A.tr, H.c.other H.r hm A.cr, ht, H.rt.mods hm H.r.rows, H.blk.mods hm A.q1.2, H.ad.mods hm A.q2.2, ownT H.bv hm (fun z hz cs fr => H.r.objs z hz cs _ fr (by decide)), hm.keeps H.kp A.lr⟩
theorem BkAt.actC {W w w' : World} {g b1 b2 h c1 c2 k d1 d2 q qa nt nc nr nc' : Nat} {T C R C' : TabP} {pu : Option Addr} {cu : Nat} {pa : Option Addr} {ca : Nat} {L : List (AlP × Value)} {bv : Value} {x y : Str} (H : BkAt W w g b1 b2 h c1 c2 k d1 d2 q qa nt nc nr T C R pu cu pa ca L bv x y) (A : Apart3 W g b1 b2 h c1 c2 k d1 d2 q qa) (hm : Mods (TFr h c1 c2) w w') (ht : TabAt w' h c1 c2 nc' C') : BkAt W w' g b1 b2 h c1 c2 k d1 d2 q qa nt nc' nr T C' R pu cu pa ca L bv x y :=
 ⟨H.t.other H.c hm A.tc, ht, H.r.other H.c hm (fun z hz hz' => A.cr z hz' hz), H.rt.mods hm H.c.rows, H.blk.mods hm A.q1.1, H.ad.mods hm A.q2.1, ownT H.bv hm (fun z hz cs fr => H.c.objs z hz cs _ fr (by decide)), hm.keeps H.kp A.lc⟩
theorem own_zero {w : World} {b : Nat} {e : TypeId} {v : Value} {l : List Value} (h : Own w b e v l) : Own w 0 e v l := ownsRow_low h
set_option maxRecDepth 100000 in
set_option maxHeartbeats 8000000 in
theorem usersBack_walk (W : World) (a0 : ByteArray) (v1 : Value) (a1 : List ActU) (v2 : Value) (a2 : List ActU) (a3 : Str × Str) (w0 : a0.size ≤ maxLen) (r1 : RowS W 5 v1 a1.length (a1.flatMap auC)) (w1 : ∀ y ∈ a1, AuOk W y) (r2 : RowS W 5 v2 a2.length (a2.flatMap auC)) (w2 : ∀ y ∈ a2, AuOk W y) (w3 : a3.1.length ≤ maxLen ∧ a3.2.length ≤ maxLen) :
  Calls Tryz.prog 4 #[.string a0, v1, v2, .agg #[.string (bstr a3.1), .string (bstr a3.2)]] W fun e w' => e = .returned (.bool true) ∧ Keeps W w' := by
 obtain ⟨dom, rfl⟩ : ∃ d : Str, a0 = bstr d := ⟨a0.data.toList, (bstr_list a0).symm⟩
 obtain ⟨x, y⟩ := a3
 have HR1 := Lib.hid r1
 have HO1 := Lib.hid w1
 have HR2 := Lib.hid r2
 have HO2 := Lib.hid w2
 have hs0 : (bstr dom).size = dom.length := bstr_size _
 have hs1 : (bstr x).size = x.length := bstr_size _
 have hs2 : (bstr y).size = y.length := bstr_size _
 obtain ⟨p0, cap0, rfl, -, -⟩ := r1.form
 obtain ⟨p9, cap9, rfl, -, -⟩ := r2.form
 clear r1 w1 w0 w2 w3 r2
 simp only
 go_enter Tryz.func4, Tryz.ntmps4
 go_upto_region 1 with fail
 generalize hW : World.alloc W _ = wa
 have HKa := Lib.hid (show Keeps W wa from by rw [← hW]; exact (Keeps.refl _).alloc _)
 have HB := Lib.hid (show Blk wa W.heap.size 48 #[.string (bstr x), .string (bstr y)] from by rw [← hW]; exact Blk.new _ _ _ rfl)
 clear hW
 obtain ⟨qa, hq⟩ : ∃ z, W.heap.size = z := ⟨_, rfl⟩
 have HQ := Lib.hid hq
 rw [hq] at HB ⊢
 clear hq
 go_wp2_with fail
 refine (awake13_any wa).mono ?_
 rintro e wb ⟨rfl, hk⟩
 have HK := Lib.hid (HKa.out.trans hk)
 have HB := Lib.hid (HB.out.keeps hk)
 clear hk HKa
 have CF := Lib.hid (few13_any _ a1 wb (HR1.out.keeps HK.out) (fun y hy => (HO1.out y hy).keeps HK.out))
 go_wp2_with fail
 refine CF.out.mono ?_
 rintro e wc1 ⟨b, rfl, hb, hk⟩
 have HK := Lib.hid (HK.out.trans hk)
 have HB := Lib.hid (HB.out.keeps hk)
 have HF := Lib.hid hb
 clear hk hb CF
 cases b with
 |false =>
  go_wp2_with fail
  go_ret
  exact ⟨rfl, HK.out⟩
 |true =>
 have HF1 := Lib.hid (HF.out rfl)
 clear HF
 have CF := Lib.hid (few13_any _ a2 wc1 (HR2.out.keeps HK.out) (fun y hy => (HO2.out y hy).keeps HK.out))
 go_wp2_with fail
 refine CF.out.mono ?_
 rintro e wD ⟨b, rfl, hb, hk⟩
 have HK := Lib.hid (HK.out.trans hk)
 have HB := Lib.hid (HB.out.keeps hk)
 have HF := Lib.hid hb
 clear hk hb CF
 cases b with
 |false =>
  go_wp2_with fail
  go_ret
  exact ⟨rfl, HK.out⟩
 |true =>
 have HF2 := Lib.hid (HF.out rfl)
 clear HF
 have c0 : wD.cell? ⟨qa, 0, none⟩ = some (.string (bstr x)) := by rw [HB.out.cell]; rfl
 have c1 : wD.cell? ⟨qa, 1, none⟩ = some (.string (bstr y)) := by rw [HB.out.cell]; rfl
 by_cases hd : 100 < dom.length
 ·have hd' : decide ((100 : Int) < (dom.length : Int)) = true := decide_eq_true (by omega)
  go_wp2_with fail
  go_ret
  exact ⟨rfl, HK.out⟩
 have hd' : decide ((100 : Int) < (dom.length : Int)) = false := decide_eq_false (by omega)
 by_cases hx : 100 < x.length
 ·have hx' : decide ((100 : Int) < (x.length : Int)) = true := decide_eq_true (by omega)
  go_wp2_with fail
  go_ret
  exact ⟨rfl, HK.out⟩
 have hx' : decide ((100 : Int) < (x.length : Int)) = false := decide_eq_false (by omega)
 by_cases hy : 100 < y.length
 ·have hy' : decide ((100 : Int) < (y.length : Int)) = true := decide_eq_true (by omega)
  go_wp2_with fail
  go_ret
  exact ⟨rfl, HK.out⟩
 have hy' : decide ((100 : Int) < (y.length : Int)) = false := decide_eq_false (by omega)
 have HLE := Lib.hid (show dom.length ≤ 100 ∧ x.length ≤ 100 ∧ y.length ≤ 100 from by omega)
 clear hd hx hy
 have CM := Lib.hid (made_any wD dom HLE.out.1 _ a1 (HR1.out.keeps HK.out) (fun y hy => (HO1.out y hy).keeps HK.out) HF1.out)
 go_upto_region 5 with fail
 clear c0 c1 hs0 hs1 hs2
 go_wp2_with fail
 refine CM.out.mono ?_
 clear CM
 rintro e we (⟨hdom, g, b1, b2, c, pu, cu, pa, ca, L, rfl, hmd⟩ | ⟨-, ld, rfl, hk⟩)
 rotate_left
 ·have HA := Lib.hid (HK.out.trans hk)
  clear hk
  go_upto_region 6 with fail
  go_wp2_with fail
  go_ret
  exact ⟨rfl, HA.out.alloc _⟩
 have HMD := Lib.hid hmd
 have HDOM := Lib.hid hdom
 have HRT := Lib.hid (show Right (actsP (tabN dom) a1) from right_acts (right_new (lowL dom)) a1)
 have HTD := Lib.hid (show (actsP (tabN dom) a1).dom = lowL dom from dom_acts (tabN dom) a1)
 have HA := Lib.hid (HK.out.trans hmd.kp)
 have HB := Lib.hid (HB.out.keeps hmd.kp)
 clear hmd hdom
 generalize actsP (tabN dom) a1 = T at *
 unfold rtV
 go_upto_region 6 with fail
 generalize hW : World.alloc we _ = wf
 have HKe := Lib.hid (show Keeps we wf from by rw [← hW]; exact (Keeps.refl _).alloc _)
 have HC := Lib.hid (show Blk wf we.heap.size 32 #[.string (bstr T.dom), .int .i64 T.next, .slice pu T.us.length cu, .slice pa L.length ca] from by rw [← hW]; exact Blk.new _ _ _ rfl)
 clear hW
 obtain ⟨d, hd⟩ : ∃ z, we.heap.size = z := ⟨_, rfl⟩
 rw [hd] at HC ⊢
 clear hd
 have HA := Lib.hid (HA.out.trans HKe.out)
 have HB := Lib.hid (HB.out.keeps HKe.out)
 have HT := Lib.hid (HMD.out.tab.keeps HKe.out)
 have HR := Lib.hid (HMD.out.rt.keeps HKe.out)
 clear HMD HKe
 have HN1 := Lib.hid (show a1.length ≤ 60 from HF1.out.1)
 have HDL := Lib.hid (show T.dom.length ≤ 1000000 from by rw [HTD.out, lowL_len]; have := HLE.out; omega)
 have C1 := Lib.hid (bytes_any wf g b1 b2 a1.length T HT.out HRT.out (by have := HN1.out; omega) HDL.out)
 go_wp2_with fail
 refine C1.out.mono ?_
 rintro e wg ⟨bv, rfl, ho, hk⟩
 have HBV := Lib.hid (own_zero ho)
 obtain ⟨pb, nb, kb, rfl⟩ := ho.sl
 have HA := Lib.hid (HA.out.trans hk)
 have HB := Lib.hid (HB.out.keeps hk)
 have HC := Lib.hid (HC.out.keeps hk)
 have HT := Lib.hid (HT.out.keeps hk)
 have HR := Lib.hid (HR.out.keeps hk)
 clear hk ho C1
 have C1 := Lib.hid (clone_tab wg g b1 b2 a1.length T HT.out HRT.out (by have := HN1.out; omega))
 go_wp2_with fail
 refine C1.out.mono ?_
 rintro e wh ⟨h, k1, k2, rfl, hlo, htc, hk⟩
 have HLC := Lib.hid (show wg.heap.size ≤ h ∧ wg.heap.size ≤ k1 ∧ wg.heap.size ≤ k2 ∧ h < wh.heap.size ∧ k1 < wh.heap.size ∧ k2 < wh.heap.size ∧ g < wg.heap.size ∧ b1 < wg.heap.size ∧ b2 < wg.heap.size ∧ d < wg.heap.size ∧ qa < wg.heap.size ∧ W.heap.size ≤ wg.heap.size ∧ wg.heap.size ≤ wh.heap.size from by
  have h1 := htc.lt
  have h2 := HT.out.lt
  have h3 := HC.out.lt
  have h4 := HB.out.lt
  have h5 := HA.out.size
  have h6 := hk.size
  omega)
 have HTC := Lib.hid htc
 have HBV := Lib.hid (HBV.out.keeps hk)
 have HA := Lib.hid (HA.out.trans hk)
 have HB := Lib.hid (HB.out.keeps hk)
 have HC := Lib.hid (HC.out.keeps hk)
 have HT := Lib.hid (HT.out.keeps hk)
 have HR := Lib.hid (HR.out.keeps hk)
 clear hk hlo htc C1
 have HBL := Lib.hid (show (bytesT T).length ≤ 1000000 from by
  have h1 := takeF_len usrL 54 T.us (fun u hu => usrL_len (nameB_len (HRT.out.un u hu).1).1) T.us.length
  have h2 := takeF_len alL 325 T.al (fun a ha => alL_len (nameB_len (HRT.out.an a ha).1).1 (fun x hx => by
   have := (HRT.out.an a ha).2.1
   unfold namesB at this
   simp only [Bool.and_eq_true, List.all_eq_true] at this
   exact (nameB_len (this.1.1 x hx)).1) (HRT.out.an a ha).2.2) T.al.length
  rw [List.take_length] at h1 h2
  have h3 := HRT.out.ul
  have h4 := HRT.out.all
  have h5 : T.dom.length ≤ 100 := by rw [HTD.out, lowL_len]; exact HLE.out.1
  unfold bytesT
  simp only [List.length_append, Oct.be_length, Env.textB]
  have h6 : T.us.length * 54 ≤ 16 * 54 := Nat.mul_le_mul_right _ h3
  have h7 : T.al.length * 325 ≤ 16 * 325 := Nat.mul_le_mul_right _ h4
  omega)
 have C1 := Lib.hid (read_any wh _ (bytesT T) HBV.out.row HBL.out)
 rw [readT_bytes HRT.out (by rw [HTD.out, domain_low]; exact HDOM.out) (by rw [HTD.out, lowL_idem])] at C1
 go_wp2_with fail
 refine C1.out.mono ?_
 rintro e wi ⟨hk, (⟨t', k, d1, d2, ht', rfl, hlo, htr⟩ | ⟨hno, -⟩)⟩
 rotate_left
 ·cases hno
 simp only [Option.some.injEq] at ht'
 subst ht'
 have HAP := Lib.hid (show Apart3 W g b1 b2 h k1 k2 k d1 d2 d qa from by
  have h1 := HLC.out
  refine ⟨?_, ?_, ?_, ⟨?_, ?_⟩, ⟨?_, ?_⟩, ?_, ?_⟩
  all_goals (intros; simp only [TFr] at *; omega))
 have HBK := Lib.hid (show BkAt W wi g b1 b2 h k1 k2 k d1 d2 d qa a1.length (a1.length + 16 + 0) (1000 + 0) T (actsP T (a2.take 0)) (actsP T (a2.take 0)) pu cu pa ca L (.slice pb nb kb) x y from
  ⟨HT.out.keeps hk, HTC.out.keeps hk, htr, HR.out.keeps hk, HC.out.keeps hk, HB.out.keeps hk, HBV.out.keeps hk, HA.out.trans hk⟩)
 clear hk hlo htr C1 HT HTC HR HC HB HBV HA HLC
 go_wp2_with fail
 go_loopw [15] (fun iv wr => ∃ j : Nat, iv = .int .i64 (j : Int) ∧ Hid (j ≤ a2.length ∧ BkAt W wr g b1 b2 h k1 k2 k d1 d2 d qa a1.length (a1.length + 16 + j) (1000 + j) T (actsP T (a2.take j)) (actsP T (a2.take j)) pu cu pa ca L (.slice pb nb kb) x y)) (fun iv _ => a2.length - (RowKit.intOf iv).toNat)
 case atStart => exact ⟨0, rfl, Lib.hid ⟨Nat.zero_le _, HBK.out⟩⟩
 case round =>
  obtain ⟨j, rfl, HH⟩ := hrel
  obtain ⟨wz, rfl⟩ : ∃ z : World, z = wr := ⟨_, rfl⟩
  have HBZ := Lib.hid HH.out.2
  have HJ := Lib.hid HH.out.1
  clear HBK
  have HRR := Lib.hid (show Right (actsP T (a2.take j)) from right_acts HRT.out _)
  have HRD := Lib.hid (show (actsP T (a2.take j)).dom.length ≤ 1000000 from by rw [dom_acts T]; exact HDL.out)
  by_cases hlt : j < a2.length
  ·have hw : IntKind.i64.wrap ((j : Int) + 1) = (j : Int) + 1 := IntWalk.i64_in _ (by have := HF2.out.1; have := HJ.out; omega)
   have hd : decide ((j : Int) < (a2.length : Int)) = true := decide_eq_true (by omega)
   obtain ⟨b, off, cap, hv, hrg⟩ := au_range (HR2.out.keeps HBZ.out.kp) hlt
   simp only [Value.slice.injEq] at hv
   obtain ⟨rfl, -, rfl⟩ := hv
   have HX := Lib.hid (show actsP T (a2.take (j + 1)) = (doP (actsP T (a2.take j)) a2[j].kind a2[j].name a2[j].lb a2[j].lc a2[j].tos).1 from by rw [List.take_succ_eq_append_getElem hlt, actsP_snoc])
   have HOX := Lib.hid (HO2.out _ (List.getElem_mem hlt))
   have HFX := Lib.hid (HF2.out.2 _ (List.getElem_mem hlt))
   obtain ⟨pt, ct, hpt, -, -⟩ := HOX.out.row.form
   have HRW := Lib.hid HOX.out.row
   rw [hpt] at HRW hrg
   rw [List.length_map] at HRW hrg
   have hbl : b < W.heap.size := by
    have := (HR2.out.at_ (by omega))
    obtain ⟨b', off', cap', hv', -, -, HC'⟩ := this
    simp only [Value.slice.injEq, Option.some.injEq, Addr.mk.injEq] at hv'
    obtain ⟨⟨rfl, -, -⟩, -, -⟩ := hv'
    exact lt_of_cell (HC'.out (j * 5 + 0) _ (by rw [au_at hlt (by decide)]; rfl))
   have HRG0 := Lib.hid (show ∀ x, Keeps W x → x.rangeAt b (off + j * 5) [.int .i64 a2[j].kind, .string (bstr a2[j].name), .int .i64 a2[j].lb, .int .i64 a2[j].lc, .slice pt a2[j].tos.length ct] from fun x hk m u hm => by
    obtain ⟨b', off', cap', hv', hrg'⟩ := au_range (HR2.out.keeps hk) hlt
    simp only [Value.slice.injEq, Option.some.injEq, Addr.mk.injEq] at hv'
    obtain ⟨⟨rfl, rfl, -⟩, -, -⟩ := hv'
    rw [hpt, List.length_map] at hrg'
    exact hrg' m u hm)
   have HRGR := Lib.hid (show ∀ x, Mods (TFr k d1 d2) wz x → x.rangeAt b (off + j * 5) [.int .i64 a2[j].kind, .string (bstr a2[j].name), .int .i64 a2[j].lb, .int .i64 a2[j].lc, .slice pt a2[j].tos.length ct] from fun x hS => HRG0.out x (hS.keeps HBZ.out.kp HAP.out.lr))
   clear hrg hpt hbl HOX
   generalize a2[j].kind = kd at *
   generalize a2[j].name = nm at *
   generalize a2[j].lb = lb at *
   generalize a2[j].lc = lc at *
   generalize a2[j].tos = tos at *
   generalize actsP T (a2.take j) = R at *
   obtain ⟨R', hTE⟩ : ∃ z, actsP T (a2.take (j + 1)) = z := ⟨_, rfl⟩
   have HTE := Lib.hid hTE
   rw [hTE] at HX
   clear hTE
   have HJN := Lib.hid (show 1000 + j < 900000 ∧ a1.length + 16 + j < 900000 from by have := HF2.out.1; have := HJ.out; have := HN1.out; omega)
   go_upto_region 16 with fail
   have HBd := Lib.hid (HBZ.out.keeps (Keeps.refl wz).drew)
   refine wp_region_noPanic ?_
   refine wp_region_held_drew (S := fun w' => Mods (TFr k d1 d2) wz w') (by kernel_rfl) ((Mods.refl (TFr k d1 d2) wz).drew) (fun _ => ?_)
   have hHeld : Mods (TFr k d1 d2) wz (wz).drew := (Mods.refl (TFr k d1 d2) wz).drew
   generalize World.drew wz = xs at *
   refine tq 0 80 ?_
   refine wpAnyH_take (i := 1) (by rfl) (by kernel_rfl) (by kernel_rfl) (by kernel_rfl) (by intro _ _ _ h; exact h) (yieldsIf_ld (by kernel_rfl) rtM (fun x hS => HBZ.out.blk.mods hS HAP.out.q1.2) _ rfl rfl) (by assumption) ?rest2
   change wpAnyH _ _ _ _ _ _ _ (Act.put _ (some 81) _) _
   try simp only [Act.put, List.setIfInBounds_toArray, List.set_cons_zero, List.set_cons_succ]
   refine tq 2 82 ?_
   refine tq 3 83 ?_
   refine tq 4 84 ?_
   refine wpAnyH_take (i := 5) (by rfl) (by kernel_rfl) (by kernel_rfl) (by kernel_rfl) (by intro _ _ _ h; exact h) (yieldsIf_ldR (by kernel_rfl) actM13 (fun x hS => HRGR.out x hS) _ rfl rfl) (by assumption) ?rest6
   change wpAnyH _ _ _ _ _ _ _ (Act.put _ (some 85) _) _
   try simp only [Act.put, List.setIfInBounds_toArray, List.set_cons_zero, List.set_cons_succ]
   refine rd1 6 (fun K hK => ?_)
   go_simp
   refine (do_any _ k d1 d2 (1000 + j) R T HBd.out.r HRR.out HJN.out.1 _ _ L HBd.out.rt HRT.out kd nm lb lc _ tos (HRW.out.keeps HBd.out.kp) HFX.out.1 HFX.out.2.1 HFX.out.2.2).mono ?_
   unfold DoDid
   rw [← HX.out]
   rintro e x6 ⟨uv', av', L', bl, rfl, -, hT', hM', -⟩
   have HB6 := Lib.hid (HBd.out.actR HAP.out hM' hT')
   have hb := hHeld.trans hM' (fun x hx _ => hx)
   clear hT' hM' HBd
   go_wp2_with fail
   refine bkm hK hb ?_
   clear hK K hHeld
   have hHeld : Mods (TFr k d1 d2) wz x6 := hb
   clear hb
   refine wpAnyH_done (by kernel_rfl) ?_ _
   refine NoPanic.normal ?_
   obtain ⟨wy, hwy⟩ : ∃ z : World, z = x6 := ⟨_, rfl⟩
   have HBY := Lib.hid (show BkAt W wy g b1 b2 h k1 k2 k d1 d2 d qa a1.length (a1.length + 16 + j) (1000 + j + 1) T R R' pu cu pa ca L (.slice pb nb kb) x y from by rw [hwy]; exact HB6.out)
   rw [← hwy]
   clear hwy HB6 hHeld HBZ HRGR
   go_upto_region 17 with fail
   have HBd := Lib.hid (HBY.out.keeps (Keeps.refl wy).drew)
   have HRGR := Lib.hid (show ∀ x, Mods (TFr h k1 k2) wy x → x.rangeAt b (off + j * 5) [.int .i64 kd, .string (bstr nm), .int .i64 lb, .int .i64 lc, .slice pt tos.length ct] from fun x hS => HRG0.out x (hS.keeps HBY.out.kp HAP.out.lc))
   refine wp_region_noPanic ?_
   refine wp_region_held_drew (S := fun w' => Mods (TFr h k1 k2) wy w') (by kernel_rfl) ((Mods.refl (TFr h k1 k2) wy).drew) (fun _ => ?_)
   have hHeld : Mods (TFr h k1 k2) wy (wy).drew := (Mods.refl (TFr h k1 k2) wy).drew
   generalize World.drew wy = xs at *
   refine tq 0 87 ?_
   refine wpAnyH_take (i := 1) (by rfl) (by kernel_rfl) (by kernel_rfl) (by kernel_rfl) (by intro _ _ _ h; exact h) (yieldsIf_ld (by kernel_rfl) rtM (fun x hS => HBY.out.blk.mods hS HAP.out.q1.1) _ rfl rfl) (by assumption) ?rest30
   change wpAnyH _ _ _ _ _ _ _ (Act.put _ (some 88) _) _
   try simp only [Act.put, List.setIfInBounds_toArray, List.set_cons_zero, List.set_cons_succ]
   refine tq 2 89 ?_
   refine tq 3 90 ?_
   refine tq 4 91 ?_
   refine wpAnyH_take (i := 5) (by rfl) (by kernel_rfl) (by kernel_rfl) (by kernel_rfl) (by intro _ _ _ h; exact h) (yieldsIf_ldR (by kernel_rfl) actM13 (fun x hS => HRGR.out x hS) _ rfl rfl) (by assumption) ?rest34
   change wpAnyH _ _ _ _ _ _ _ (Act.put _ (some 92) _) _
   try simp only [Act.put, List.setIfInBounds_toArray, List.set_cons_zero, List.set_cons_succ]
   refine rd1 6 (fun K hK => ?_)
   go_simp
   refine (do_any _ h k1 k2 (a1.length + 16 + j) R T HBd.out.c HRR.out HJN.out.2 _ _ L HBd.out.rt HRT.out kd nm lb lc _ tos (HRW.out.keeps HBd.out.kp) HFX.out.1 HFX.out.2.1 HFX.out.2.2).mono ?_
   unfold DoDid
   rw [← HX.out]
   rintro e x7 ⟨uv', av', L', bl, rfl, -, hT', hM', -⟩
   have HB7 := Lib.hid (HBd.out.actC HAP.out hM' hT')
   have hb := hHeld.trans hM' (fun x hx _ => hx)
   clear hT' hM' HBd
   go_wp2_with fail
   refine bkm hK hb ?_
   clear hK K hHeld
   have hHeld : Mods (TFr h k1 k2) wy x7 := hb
   clear hb
   refine wpAnyH_done (by kernel_rfl) ?_ _
   refine NoPanic.normal ?_
   go_wp2_with fail
   go_roundw
   case rel => exact ⟨j + 1, by simp, Lib.hid ⟨by omega, by rw [HTE.out]; exact HB7.out⟩⟩
   case measure => simp only [RowKit.intOf]; omega
  ·have hd : decide ((j : Int) < (a2.length : Int)) = false := decide_eq_false (by omega)
   obtain rfl : j = a2.length := by have := HJ.out; omega
   clear HH hlt
   generalize actsP T (a2.take a2.length) = R at *
   have C1 := Lib.hid (resolve_any wz k d1 d2 (1000 + a2.length) R HBZ.out.r HRR.out x y (by have := HLE.out; omega) (by have := HLE.out; omega))
   go_wp2_with (refine wpList_ld rfl addrM14 HBZ.out.ad _ rfl rfl ?_)
   refine C1.out.mono ?_
   rintro e w1 ⟨r1, rfl, ho1, hk⟩
   have HBZ1 := Lib.hid (HBZ.out.keeps hk)
   have HO3 := Lib.hid ho1
   obtain ⟨p1, n1, l1, rfl⟩ := ho1.sl
   clear hk ho1 C1 HBZ
   have C1 := Lib.hid (resolve_any w1 h k1 k2 (a1.length + 16 + a2.length) R HBZ1.out.c HRR.out x y (by have := HLE.out; omega) (by have := HLE.out; omega))
   go_wp2_with (refine wpList_ld rfl addrM14 HBZ1.out.ad _ rfl rfl ?_)
   refine C1.out.mono ?_
   rintro e w2 ⟨r2, rfl, ho2, hk⟩
   have HBZ2 := Lib.hid (HBZ1.out.keeps hk)
   have HO3 := Lib.hid (HO3.out.keeps hk)
   have HO4 := Lib.hid ho2
   obtain ⟨p2, n2, l2, rfl⟩ := ho2.sl
   clear hk ho2 C1 HBZ1
   have e1 : ((bstr (bytesT T)).toList == (bstr (bytesT T)).toList) = true := by simp
   have e2 : ((bstr (bytesT R)).toList == (bstr (bytesT R)).toList) = true := by simp
   have HNN := Lib.hid (show a1.length ≤ 900000 ∧ 1000 + a2.length ≤ 900000 ∧ a1.length + 16 + a2.length ≤ 900000 from by have := HF2.out.1; have := HN1.out; omega)
   go_upto_region 20 with fail
   have HY := Lib.hid (Keeps.refl w2)
   have HBR := Lib.hid HBZ2.out.bv.row
   refine wp_region_noPanic ?_
   refine wp_region_held_drew (S := fun w' => Keeps (w2) w') (by kernel_rfl) ((Keeps.refl _).drew) (fun _ => ?_)
   have hHeld : Keeps (w2) (w2).drew := (Keeps.refl _).drew
   refine tq 0 106 ?_
   refine tq 3 109 ?_
   refine tq 4 110 ?_ (hy := fun w' hSw => by
    have hSw : Keeps _ w' := hSw
    have hc := str_at' (HBR.out.keeps (HY.out.trans hSw))
    clear hSw
    go_simp
    try with_reducible rfl)
   refine rd1 1 (fun K hK => ?_)
   go_simp
   refine (bytes_any _ g b1 b2 a1.length T (HBZ2.out.t.keeps (HY.out.trans hHeld)) HRT.out HNN.out.1 HDL.out).mono ?_
   rintro e y1 ⟨v1, rfl, ho1, hk⟩
   have hb : Keeps _ y1 := hHeld.trans hk
   have HY := Lib.hid (HY.out.trans (hHeld.trans hk))
   have HS1 := Lib.hid ho1.row
   obtain ⟨q1, m1, s1, rfl⟩ := ho1.sl
   clear ho1
   go_wp2_with fail
   refine bk1 hK hb ?_
   clear hK K hHeld hb hk
   intro hHeld
   refine tq 2 108 ?_ (hy := fun w' hSw => by
    have hSw : Keeps _ w' := hSw
    have hc := str_at' (HS1.out.keeps hSw)
    clear hSw
    go_simp
    try with_reducible rfl)
   refine tq 5 111 ?_
   refine tq 6 112 ?_
   refine tq 7 113 ?_
   refine tq 10 116 ?_
   refine rd1 8 (fun K hK => ?_)
   go_simp
   refine (bytes_any _ k d1 d2 (1000 + a2.length) R (HBZ2.out.r.keeps (HY.out.trans hHeld)) HRR.out HNN.out.2.1 HRD.out).mono ?_
   rintro e y2 ⟨v2, rfl, ho2, hk⟩
   have hb : Keeps _ y2 := hHeld.trans hk
   have HY := Lib.hid (HY.out.trans (hHeld.trans hk))
   have HS2 := Lib.hid ho2.row
   obtain ⟨q2, m2, s2, rfl⟩ := ho2.sl
   clear ho2
   go_wp2_with fail
   refine bk1 hK hb ?_
   clear hK K hHeld hb hk
   intro hHeld
   refine tq 9 115 ?_ (hy := fun w' hSw => by
    have hSw : Keeps _ w' := hSw
    have hc := str_at' (HS2.out.keeps hSw)
    clear hSw
    go_simp
    try with_reducible rfl)
   refine rd1 11 (fun K hK => ?_)
   go_simp
   refine (bytes_any _ h k1 k2 (a1.length + 16 + a2.length) R (HBZ2.out.c.keeps (HY.out.trans hHeld)) HRR.out HNN.out.2.2 HRD.out).mono ?_
   rintro e y3 ⟨v3, rfl, ho3, hk⟩
   have hb : Keeps _ y3 := hHeld.trans hk
   have HY := Lib.hid (HY.out.trans (hHeld.trans hk))
   have HS3 := Lib.hid ho3.row
   obtain ⟨q3, m3, s3, rfl⟩ := ho3.sl
   clear ho3
   go_wp2_with fail
   refine bk1 hK hb ?_
   clear hK K hHeld hb hk
   intro hHeld
   refine tq 12 118 ?_ (hy := fun w' hSw => by
    have hSw : Keeps _ w' := hSw
    have hc := str_at' (HS3.out.keeps hSw)
    clear hSw
    go_simp
    try with_reducible rfl)
   refine tq 13 119 ?_
   refine tq 14 120 ?_
   refine tq 15 121 ?_
   refine tq 16 122 ?_
   refine tq 17 123 ?_
   refine tq 18 124 ?_
   refine tq 19 125 ?_
   refine tq 20 126 ?_
   refine tq 21 127 ?_
   refine tq 22 128 ?_
   refine rd1 23 (fun K hK => ?_)
   go_simp
   refine (sameInts13_any _ (HO3.out.keeps (HY.out.trans hHeld)) (HO4.out.keeps (HY.out.trans hHeld))).mono ?_
   rintro e y4 ⟨rfl, hk⟩
   have hb : Keeps _ y4 := hHeld.trans hk
   have HY := Lib.hid (HY.out.trans (hHeld.trans hk))
   go_wp2_with fail
   refine bk1 hK hb ?_
   clear hK K hHeld hb hk
   intro hHeld
   refine tq 24 130 ?_
   refine tq 25 8 ?_
   refine wpAnyH_done (by kernel_rfl) ?_ _
   refine NoPanic.normal ?_
   go_wp2_with fail
   go_ret
   exact ⟨rfl, HBZ2.out.kp.trans (HY.out.trans hHeld)⟩
end Usr
end Go.Proofs.YtklbemkafdccgaaGreat

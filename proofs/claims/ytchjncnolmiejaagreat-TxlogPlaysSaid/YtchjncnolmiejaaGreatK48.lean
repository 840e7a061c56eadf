/- Several texts in one: TpModel, TpAdd. -/
import Derived.Test.YtchjncnolmiejaaGreatK45
import Derived.Test.YtchjncnolmiejaaGreatTxRefRep
import Derived.Test.YtchjncnolmiejaaGreatTxRefBytes
/- law17's model: open, add; both disks alike behind it. -/
namespace Go.Proofs.YtchjncnolmiejaaGreat
open Go.RowKit
namespace Txl
open Vd Rf Rs
open Sf (sMake sAppend sSwap rMake rAppend rSwap)
def modelA (m n : Nat) (wh : Bool) : Array Value := #[.pointer (some ⟨m, 0, none⟩), .int .i64 (n : Int), .bool wh]
def openR (r : RDsk) (x : Str) : RDsk × Int × Str :=
 if r.down then (r, 11, []) else match Vd.look r.now x with
 | none => ((rMake x [] r).1, (rMake x [] r).2, [])
 | some i => (r, 0, (filAt r i).now)
theorem open_al {d : Dsk} {r : RDsk} {c : Nat} (x : Str) (hc : c + 8 ≤ 1000000000000) (h : DR d r c) : (openD d x).2 = (openR r x).2 ∧ DR (openD d x).1 (openR r x).1 (c + 8) := by
 unfold openD openR textD
 rw [← h.off, ← h.seen]
 cases d.off with
 | true => exact ⟨rfl, h.more (by omega)⟩
 | false =>
  cases hl : Vd.look d.seen x with
  | none =>
   obtain ⟨h1, h2⟩ := Sf.make_al x [] d r c (by omega) h
   exact ⟨by show ((sMake x [] d).2, ([] : Str)) = ((rMake x [] r).2, []); rw [h1], h2⟩
  | some i =>
   have hi := look_lt h.ok hl
   have hf := filAt_of h hi (h.sb _ ((look_mem h.ok.asc).1 hl))
   refine ⟨?_, h.more (by omega)⟩
   show ((0 : Int), ((d.nodes[i]?).map (·.seen)).getD []) = (0, (filAt r i).now)
   rw [hf, List.getElem?_eq_getElem hi, nodD_get hi]
   rfl
theorem rep_nil : rep [] = ([], 0) := by kernel_rfl
theorem grows_open (d : Dsk) (x : Str) : (openD d x).1.nodes.length ≤ d.nodes.length + 1 := by
 unfold openD
 split
 ·exact Sf.grows_sMake x [] d
 ·exact Nat.le_succ _
section
variable {L : List Nat} {W w w' : World} {g m mb n : Nat} {d : Dsk} {r : RDsk} {k c : Nat} {wh : Bool}
theorem txs_apart {base : Nat} {v : Value} {X : List TxX} (h : TxsAt w base v X) {q : Nat} {cs : Array Value} (hB : Blk w q 35 cs) (hm : Mods (· = q) w w') : TxsAt w' base v X :=
 ⟨Frm.ownsRow_mods h.own hm (fun y hy e => Frm.ownsRow_ne h.own hB (by decide) (by rw [hy, e])),
 fun x hx => (h.its x hx).mods hm (fun y hy e => (h.its x hx).blk_ne hB (by decide) (by rw [hy, e])),
 fun x hx y hy => (h.pay x hx y hy).modsT hm (fun z hz cs' fr hc => by
  subst hz
  have h1 := hB
  unfold Blk at h1
  rw [h1] at hc
  simp at hc)⟩
theorem txsR_none {v : Value} (h : TxsR w v []) (w' : World) : TxsR w' v [] := by
 refine ⟨?_, fun x hx => absurd hx (List.not_mem_nil), fun x hx => absurd hx (List.not_mem_nil)⟩
 obtain ⟨h1, h2⟩ := h.row
 refine ⟨h1, ?_⟩
 rcases h2 with h2 | ⟨b, off, cap, hv, h3, h4, -⟩
 ·exact .inl h2
 ·exact .inr ⟨b, off, cap, hv, h3, h4, fun i x hx => by simp at hx⟩
theorem file_of (hd : DR d r c) {x : Str} {i : Nat} (hl : Vd.look r.now x = some i) : i < r.files.length := by
 rw [hd.flen]
 exact look_lt (l := d.seen) hd.ok (by rw [hd.seen]; exact hl)
/-- what the model's open leaves -/
def MOpen (L : List Nat) (W w : World) (g : Nat) (d : Dsk) (m mb n : Nat) (wh : Bool) (q : RDsk × Int × Str) (k : Nat) (e : Ending) (w' : World) : Prop :=
 (q.2.1 ≠ 0 ∧ e = .returned (.tuple #[.slice none 0 0, .int .i64 q.2.1]) ∧ TwoAt L W w' g d m q.1 k ∧ Blk w' mb 35 (modelA m n wh) ∧ Mods (fun y => W.heap.size ≤ y ∧ (y ∉ L ∨ y = mb)) w w') ∨
 (q.2.1 = 0 ∧ ∃ uv Y, e = .returned (.tuple #[uv, .int .i64 0]) ∧ TwoAt L W w' g d m q.1 k ∧ Blk w' mb 35 (modelA m (rep q.2.2).1.length (decide ((rep q.2.2).2 = (q.2.2.length : Int)))) ∧ Mods (fun y => W.heap.size ≤ y ∧ (y ∉ L ∨ y = mb)) w w' ∧ TxsR w' uv Y ∧ Y.map txP = (rep q.2.2).1 ∧ (q.2.2 ≠ [] → Mods (· = mb) w w'))
theorem TwoAt.mine (h : TwoAt L W w g d m r k) {q o : Nat} (hq : q ∈ L) (u : Value) (hW : W.heap.size ≤ q) : TwoAt L W (w.setCell ⟨q, o, none⟩ u) g d m r k := by
 obtain ⟨S, M, h⟩ := h
 have hM := (Mods.refl (fun y => y = q) w).setCell (p := ⟨q, o, none⟩) (fun _ => rfl) u
 exact ⟨S, M,
  {dsk := h.dsk.apart hM (fun y hy e => (h.ls y hy).2.2 (by rw [e]; exact hq))
   ref := h.ref.apart hM (fun y hy e => (h.lm y hy).2.2 (by rw [e]; exact hq))
   ap := h.ap
   ls := fun y hy => ⟨(h.ls y hy).1, Nat.lt_of_lt_of_le (h.ls y hy).2.1 hM.size, (h.ls y hy).2.2⟩
   lm := fun y hy => ⟨(h.lm y hy).1, Nat.lt_of_lt_of_le (h.lm y hy).2.1 hM.size, (h.lm y hy).2.2⟩
   ll := fun y hy => Nat.lt_of_lt_of_le (h.ll y hy) hM.size
   keep := hM.keeps h.keep (fun y hy => by subst hy; exact hW)
   few := h.few }⟩
set_option maxRecDepth 100000 in
set_option maxHeartbeats 8000000 in
theorem mopen_two (hd : DR d r c) {d2 : Dsk} (h2 : TwoAt L W w g d2 m r k) (hk : k ≤ 89800) (hmb : mb ∈ L) (hmW : W.heap.size ≤ mb) (hB : Blk w mb 35 (modelA m n wh)) : Calls Tryz.prog 10 #[.pointer (some ⟨mb, 0, none⟩)] w (MOpen L W w g d2 m mb n wh (openR r [120]) (k + 30)) := by
 have H := Lib.hid h2
 have HB := Lib.hid hB
 have HML := Lib.hid (And.intro hmb hmW)
 have HDR := Lib.hid hd
 have HOP : Hid (openR r [120] = if r.down then (r, 11, []) else match Vd.look r.now [120] with | none => ((rMake [120] [] r).1, (rMake [120] [] r).2, []) | some i => (r, 0, (filAt r i).now)) := Lib.hid rfl
 obtain ⟨S, M, hh⟩ := h2
 have HF := Lib.hid (rfind_r hh.ref [120])
 have HFE : Hid (findR r.now [120] = match Vd.look r.now [120] with | none => -1 | some i => (i : Int)) := Lib.hid rfl
 obtain ⟨fv, nv, sv, wv, fw, hi⟩ := hh.ref
 obtain ⟨c0, -, -, -, -, c5, -⟩ := hi.cells
 have HI := Lib.hid hi
 have m0 : w.cell? ⟨mb, 0, none⟩ = some (.pointer (some ⟨m, 0, none⟩)) := by rw [hB.cell]; rfl
 clear hd hB hh hi hmb hmW
 cases hdn : r.down with
 | true =>
  rw [hdn] at c5 HOP
  have HX : Hid (openR r [120] = (r, 11, [])) := Lib.hid HOP.out
  clear hdn HOP c0
  go_enter Tryz.func10, Tryz.ntmps10
  go_wp2_with fail
  go_ret2
  rw [HX.out]
  exact .inl ⟨(by decide : (11 : Int) ≠ 0), rfl, H.out.more (by omega), HB.out, Mods.refl _ _⟩
 | false =>
  rw [hdn] at c5 HOP
  clear hdn
  cases hl : Vd.look r.now [120] with
  | none =>
   rw [hl] at HOP HFE
   have HX : Hid (openR r [120] = ((rMake [120] [] r).1, (rMake [120] [] r).2, [])) := Lib.hid HOP.out
   rw [HFE.out] at HF
   clear hl HFE HOP c0
   have HMK := Lib.hid (rsmake_two H.out (by omega) [120] (by decide) (b := []) (p0 := none) (c0 := 0) (fun T w' _ _ => row_nil w') (by decide))
   generalize rMake [120] [] r = q1 at *
   obtain ⟨r1, e1⟩ := q1
   simp only at HX HMK
   go_enter Tryz.func10, Tryz.ntmps10
   go_wp2_with fail
   refine HF.out.mono ?_
   rintro e w2 ⟨rfl, rfl⟩
   go_wp2_with fail
   refine HMK.out.mono ?_
   rintro e w2 ⟨rfl, h1, m1⟩
   have H1 := Lib.hid h1
   have HM := Lib.hid m1
   have HB1 := Lib.hid (HB.out.mods m1 (fun hy => hy.2 HML.out.1))
   have n0 : w2.cell? ⟨mb, 1, none⟩ = some (.int .i64 (n : Int)) := by rw [HB1.out.cell]; rfl
   have n1 : w2.cell? ⟨mb, 2, none⟩ = some (.bool wh) := by rw [HB1.out.cell]; rfl
   have z1 : w2.frozen? ⟨mb, 1, none⟩ = false := HB1.out.frozen _
   have z2 : w2.frozen? ⟨mb, 2, none⟩ = false := HB1.out.frozen _
   clear h1 m1 c5 m0
   by_cases he : e1 = 0
   ·subst he
    go_wp2_with fail
    go_ret2
    rw [HX.out]
    refine .inr ⟨rfl, .slice none 0 0, [], rfl, TwoAt.mine (TwoAt.mine H1.out HML.out.1 _ HML.out.2) HML.out.1 _ HML.out.2, ?_, ?_, (TxsAt.nil _ 0).r, by rw [rep_nil]; rfl, fun hne => absurd rfl hne⟩
    ·have := (HB1.out.set_ 1 (.int .i64 0)).set_ 2 (.bool true)
     rw [rep_nil]
     exact this
    ·have hM := (HM.out.mono (fun y hy => (⟨hy.1, .inl hy.2⟩ : W.heap.size ≤ y ∧ (y ∉ L ∨ y = mb))))
     exact (hM.setCell (p := ⟨mb, 1, none⟩) (fun _ => ⟨HML.out.2, .inr rfl⟩) _).setCell (p := ⟨mb, 2, none⟩) (fun _ => ⟨HML.out.2, .inr rfl⟩) _
   ·have he' : (e1 != 0) = true := by simp [he]
    have HE := Lib.hid he
    clear he
    go_wp2_with fail
    go_ret2
    rw [HX.out]
    exact .inl ⟨HE.out, rfl, H1.out, HB1.out, HM.out.mono (fun y hy => ⟨hy.1, .inl hy.2⟩)⟩
  | some i =>
   rw [hl] at HOP HFE
   have hif := file_of HDR.out hl
   obtain ⟨bf, of, cf, hfv, hrg⟩ := HI.out.file hif
   subst hfv
   have hf0 := hrg 0 _ rfl
   rw [Nat.add_zero] at hf0
   have HX : Hid (openR r [120] = (r, 0, r.files[i].now)) := Lib.hid (by rw [HOP.out, ← filAt_get hif]; rfl)
   rw [HFE.out] at HF
   have hsl : r.files[i].now.length ≤ 1000000000 := (HI.out.fit.b _ (List.getElem_mem hif)).1
   have hFk : r.files.length ≤ 89800 := Nat.le_trans HI.out.fit.f hk
   obtain ⟨F, hF⟩ : ∃ F, F = r.files.length := ⟨_, rfl⟩
   generalize r.files[i].now = s at *
   rw [← hF] at c0 hif hFk
   have hif' : (i : Int) < (F : Int) := by omega
   have hi0 : decide ((i : Int) < 0) = false := by simp
   have hss := bstr_size s
   obtain ⟨cb, w1, hcv, hrowb, hk1, hz1⟩ := Sa.str_bytes_lt (P := Tryz.prog) w Tryz.underlying22 Tryz.underlying5 Tryz.underlying9 (bstr s) (by rw [hss]; unfold maxLen; omega)
   rw [hss] at hcv hrowb
   rw [Sa.bstr_data] at hrowb
   have HRP := Lib.hid (rreplay_any _ s w1 hrowb (by omega))
   unfold RRepDid at HRP
   have HRE : Hid (rep s = replayF (Frm.rowR s).1) := Lib.hid rfl
   have HK1 := Lib.hid hk1
   clear hl HFE HOP hrg hrowb hk1 hz1 hF hss
   generalize replayF (Frm.rowR s).1 = q1 at *
   obtain ⟨txs, us⟩ := q1
   simp only at HRP
   go_enter Tryz.func10, Tryz.ntmps10
   go_wp2_with (first
    | (refine HF.out.mono ?_; rintro e w2 ⟨rfl, rfl⟩)
    | (refine HRP.out.mono ?_; rintro e w2 ⟨v, Y, rfl, hY, hYe, hk2⟩; obtain ⟨pY, cY, rfl, hY1, hY2⟩ := hY.r.form; have HK2 := Lib.hid (HK1.out.trans hk2); have HY := Lib.hid hY; have HYE := Lib.hid hYe; have HB2 := Lib.hid (HB.out.keeps HK2.out); have n0 : w2.cell? ⟨mb, 1, none⟩ = some (.int .i64 (n : Int)) := by { rw [HB2.out.cell]; rfl }; have n1 : w2.cell? ⟨mb, 2, none⟩ = some (.bool wh) := by { rw [HB2.out.cell]; rfl }; have z1 : w2.frozen? ⟨mb, 1, none⟩ = false := HB2.out.frozen _; have z2 : w2.frozen? ⟨mb, 2, none⟩ = false := HB2.out.frozen _; have hmlt := HB2.out.lt; clear hY hYe hk2))
   go_ret2
   rw [HX.out]
   have hsz := bstr_size s
   have hM2 : Mods (· = mb) w2 (((w2.setCell ⟨mb, 1, none⟩ (.int .i64 (Y.length : Int))).setCell ⟨mb, 2, none⟩ (.bool (us == ((bstr s).size : Int)))).alloc (.cells #[.slice pY Y.length cY, .int .i64 us] 103)) := (((Mods.refl (· = mb) w2).setCell (p := ⟨mb, 1, none⟩) (fun _ => rfl) (.int .i64 (Y.length : Int))).setCell (p := ⟨mb, 2, none⟩) (fun _ => rfl) (.bool (us == ((bstr s).size : Int)))).then ((Keeps.refl _).alloc _)
   have hM : Mods (· = mb) w (((w2.setCell ⟨mb, 1, none⟩ (.int .i64 (Y.length : Int))).setCell ⟨mb, 2, none⟩ (.bool (us == ((bstr s).size : Int)))).alloc (.cells #[.slice pY Y.length cY, .int .i64 us] 103)) := (Mods.of_keeps HK2.out).trans hM2 (fun y hy _ => hy)
   have hre := HRE.out
   have hyl : Y.length = txs.length := by rw [← HYE.out, List.length_map]
   refine .inr ⟨rfl, .slice pY Y.length cY, Y, rfl, ((TwoAt.mine (TwoAt.mine (H.out.keeps HK2.out) HML.out.1 _ HML.out.2) HML.out.1 _ HML.out.2).keeps ((Keeps.refl _).alloc _)).more (by omega), ?_, hM.mono (fun y hy => ⟨by rw [hy]; exact HML.out.2, .inr hy⟩), (txs_apart HY.out HB2.out hM2).r, by rw [hre]; exact HYE.out, fun _ => hM⟩
   have hb := ((HB2.out.set_ 1 (.int .i64 (Y.length : Int))).set_ 2 (.bool (us == ((bstr s).size : Int)))).alloc (.cells #[.slice pY Y.length cY, .int .i64 us] 103)
   have e : modelA m (rep s).1.length (decide ((rep s).2 = (s.length : Int))) = ((modelA m n wh).setIfInBounds 1 (.int .i64 (Y.length : Int))).setIfInBounds 2 (.bool (us == ((bstr s).size : Int))) := by
    rw [hre, hsz, hyl]
    rfl
   rw [e]
   exact hb
end
end Txl
end Go.Proofs.YtchjncnolmiejaaGreat

/- law17's add: both logs alike behind it. -/
namespace Go.Proofs.YtchjncnolmiejaaGreat
open Go.RowKit
namespace Txl
open Vd Rf Rs
open Sf (sMake sAppend sSwap rMake rAppend rSwap)
/-- both logs and both disks, alike -/
structure Pair (L : List Nat) (W w : World) (g : Nat) (d : Dsk) (m : Nat) (r : RDsk) (k c lb mb n : Nat) (wh : Bool) : Prop where
 two : TwoAt L W w g d m r k
 dr : DR d r c
 log : Blk w lb 100 (logA g [120] n wh)
 mod : Blk w mb 35 (modelA m n wh)
 l1 : lb ∈ L
 l2 : mb ∈ L
 w1 : W.heap.size ≤ lb
 w2 : W.heap.size ≤ mb
theorem Pair.ne {L : List Nat} {W w : World} {g : Nat} {d : Dsk} {m : Nat} {r : RDsk} {k c lb mb n : Nat} {wh : Bool} (h : Pair L W w g d m r k c lb mb n wh) : lb ≠ mb := fun e => by
 have h1 := h.log
 have h2 := h.mod
 unfold Blk at h1 h2
 rw [e, h2] at h1
 simp at h1
def PairDid (L : List Nat) (W : World) (g m k c lb mb n N : Nat) (e : Ending) (w' : World) : Prop := ∃ d' r' n' wh', e = .returned (.bool true) ∧ Pair L W w' g d' m r' k c lb mb n' wh' ∧ n' ≤ n ∧ d'.nodes.length ≤ N
section
variable {L : List Nat} {W w w' : World} {g m mb lb n : Nat} {d : Dsk} {r : RDsk} {k c : Nat} {wh : Bool}
theorem grows_add (d : Dsk) (x : Str) (n : Nat) (wh : Bool) (items : List Item) : (addD d x n wh items).1.1.nodes.length ≤ d.nodes.length := by
 have h1 := Sf.grows_sAppend x (txL ((n : Int) + 1) items) d
 unfold addD
 split
 ·exact Nat.le_refl _
 ·split
  ·exact Nat.le_refl _
  ·split
   ·exact h1
   ·exact h1
set_option maxRecDepth 100000 in
set_option maxHeartbeats 8000000 in
theorem padd_any (h : Pair L W w g d m r k c lb mb n wh) (hk : k ≤ 89000) (hc : c ≤ 1000000) (hn : n ≤ 100000000000) (v : Value) (l : List (Value × List UInt8)) (hr : Row W v (l.map (·.1))) (hp : ∀ y ∈ l, Frm.payOk W y) : Calls Tryz.prog 12 #[.pointer (some ⟨lb, 0, none⟩), .pointer (some ⟨mb, 0, none⟩), v] w (PairDid L W g m (k + 20) (c + 3) lb mb (n + 1) d.nodes.length) := by
 have H := Lib.hid h
 have HR := Lib.hid hr
 have HP := Lib.hid hp
 have HAX : Hid (addD d [120] n wh (l.map (·.2)) = if wh = false then ((d, n), 12) else if txE ((n : Int) + 1) (l.map (·.2)) ≠ 0 then ((d, n), txE ((n : Int) + 1) (l.map (·.2))) else if (sAppend [120] (txL ((n : Int) + 1) (l.map (·.2))) d).2 = 0 then (((sAppend [120] (txL ((n : Int) + 1) (l.map (·.2))) d).1, n + 1), 0) else (((sAppend [120] (txL ((n : Int) + 1) (l.map (·.2))) d).1, n), (sAppend [120] (txL ((n : Int) + 1) (l.map (·.2))) d).2)) := Lib.hid rfl
 have HGR := Lib.hid (grows_add d [120] n wh (l.map (·.2)))
 have hmd : w.cell? ⟨mb, 0, none⟩ = some (.pointer (some ⟨m, 0, none⟩)) := by rw [h.mod.cell]; rfl
 have hmn : w.cell? ⟨mb, 1, none⟩ = some (.int .i64 (n : Int)) := by rw [h.mod.cell]; rfl
 have hmw : w.cell? ⟨mb, 2, none⟩ = some (.bool wh) := by rw [h.mod.cell]; rfl
 obtain ⟨pv, cv, rfl, -, -⟩ := hr.form
 rw [List.length_map] at HR ⊢
 have HAD := Lib.hid (fun (L2 : List Nat) (w2 : World) (r2 : RDsk) (k2 : Nat) (h2 : TwoAt L2 W w2 g d m r2 k2) (hk2 : k2 ≤ 89900) (hl : lb ∈ L2) (hb : Blk w2 lb 100 (logA g [120] n wh)) => add_two h2 hk2 hl H.out.w1 hb (by omega) (by decide) (.slice pv l.length cv) l (HR.out.keeps h2.kp) (fun y hy => (HP.out y hy).keeps h2.kp))
 clear h hr hp
 cases wh with
 | false =>
  have HA0 := Lib.hid (HAX.out.trans (if_pos rfl))
  have HAD1 := Lib.hid (HAD.out L w r k H.out.two (by omega) H.out.l1 H.out.log)
  rw [HA0.out] at HAD1
  clear HAD HAX
  go_enter Tryz.func12, Tryz.ntmps12
  go_wp2_with fail
  refine HAD1.out.mono ?_
  rintro e w2 ⟨rfl, h2, hb2, hm2⟩
  have H2 := Lib.hid h2
  have HB2 := Lib.hid hb2
  have HM2 := Lib.hid (H.out.mod.mods hm2 (fun hy => hy.2.elim (fun hh => hh H.out.l2) (fun e => H.out.ne e.symm)))
  clear h2 hb2 hm2 hmd hmn hmw HAD1
  go_wp2_with fail
  go_ret
  exact ⟨d, r, n, false, rfl, { two := H2.out.more (by omega), dr := H.out.dr.more (by omega), log := HB2.out, mod := HM2.out, l1 := H.out.l1, l2 := H.out.l2, w1 := H.out.w1, w2 := H.out.w2 }, Nat.le_succ n, Nat.le_refl _⟩
 | true =>
  have HA1 := Lib.hid (HAX.out.trans (if_neg (by simp)))
  have HBY := Lib.hid (rtxBytes_any ((n : Int) + 1) (by omega) (.slice pv l.length cv) l w (HR.out.keeps H.out.two.kp) (fun y hy => (HP.out y hy).keeps H.out.two.kp))
  have HTL := Lib.hid (txL_len (n := (n : Int) + 1) (items := l.map (·.2)))
  have hw1 : IntKind.i64.wrap ((n : Int) + 1) = (n : Int) + 1 := by rw [IntKind.wrap_i64]; omega
  unfold Frm.RetSI at HBY
  generalize txL ((n : Int) + 1) (l.map (·.2)) = tl at *
  generalize txE ((n : Int) + 1) (l.map (·.2)) = te at *
  clear HAX
  go_enter Tryz.func12, Tryz.ntmps12
  go_wp2_with fail
  refine HBY.out.mono ?_
  rintro e w1 ⟨tv, rfl, hown, hk1⟩
  have HO := Lib.hid hown
  have HK1 := Lib.hid hk1
  obtain ⟨pt, ct, rfl, -, -⟩ := hown.row.formB
  have hmd := keep1 hk1 hmd
  clear hown hk1 HBY hmw
  by_cases he : te = 0
  ·subst he
   have HA2 := Lib.hid (HA1.out.trans (if_neg (by simp)))
   obtain ⟨L1, hL1, h1, hst⟩ := TwoAt.own H.out.two HK1.out HO.out
   have HL1 := Lib.hid hL1
   have HT1 := Lib.hid h1
   have HST := Lib.hid hst
   have HAP := Lib.hid (rsappend_two HT1.out (by omega) [120] HST.out (by have := HTL.out; omega))
   have HAL := Lib.hid (Sf.append_al [120] tl d r c (by omega) H.out.dr)
   clear hL1 h1 hst HO
   generalize rAppend [120] tl r = qr at *
   generalize sAppend [120] tl d = qd at *
   obtain ⟨r3, e3⟩ := qr
   obtain ⟨d3, ed⟩ := qd
   simp only at HAP HA2 HAL
   obtain rfl : ed = e3 := HAL.out.1
   go_wp2_with fail
   refine HAP.out.mono ?_
   rintro e w2 ⟨rfl, h2, hm2⟩
   have H2 := Lib.hid (h2.drop HL1.out)
   have HMM := Lib.hid (mods_less HL1.out hm2)
   have HLB := Lib.hid ((H.out.log.keeps HK1.out).mods HMM.out (fun hy => hy.2 H.out.l1))
   have HMB := Lib.hid ((H.out.mod.keeps HK1.out).mods HMM.out (fun hy => hy.2 H.out.l2))
   have HAD2 := Lib.hid (HAD.out L w2 r3 _ H2.out (by omega) H.out.l1 HLB.out)
   clear h2 hm2 HAP HST HT1 HAD hmd hmn
   by_cases h0 : ed = 0
   ·subst h0
    rw [HA2.out.trans (if_pos rfl)] at HAD2 HGR
    go_wp2_with fail
    refine HAD2.out.mono ?_
    rintro e w3 ⟨rfl, h3, hb3, hm3⟩
    have H3 := Lib.hid h3
    have HB3 := Lib.hid hb3
    have HM3 := Lib.hid (HMB.out.mods hm3 (fun hy => hy.2.elim (fun hh => hh H.out.l2) (fun e => H.out.ne e.symm)))
    have hc1 : w3.cell? ⟨mb, 1, none⟩ = some (.int .i64 (n : Int)) := by rw [HM3.out.cell]; rfl
    have hz1 : w3.frozen? ⟨mb, 1, none⟩ = false := HM3.out.frozen _
    clear h3 hb3 hm3 HAD2
    go_wp2_with fail
    go_ret
    refine ⟨d3, r3, n + 1, true, rfl, { two := (TwoAt.mine H3.out H.out.l2 _ H.out.w2).more (by omega), dr := HAL.out.2, log := HB3.out.far (p := ⟨mb, 1, none⟩) H.out.ne _, mod := ?_, l1 := H.out.l1, l2 := H.out.l2, w1 := H.out.w1, w2 := H.out.w2 }, Nat.le_refl _, HGR.out⟩
    have := HM3.out.set_ 1 (.int .i64 ((n : Int) + 1))
    simpa [modelA] using this
   ·rw [HA2.out.trans (if_neg h0)] at HAD2 HGR
    have h0' : (ed == 0) = false := by simp [h0]
    have hee : (ed != ed) = false := by simp
    clear h0
    go_wp2_with fail
    refine HAD2.out.mono ?_
    rintro e w3 ⟨rfl, h3, hb3, hm3⟩
    have H3 := Lib.hid h3
    have HB3 := Lib.hid hb3
    have HM3 := Lib.hid (HMB.out.mods hm3 (fun hy => hy.2.elim (fun hh => hh H.out.l2) (fun e => H.out.ne e.symm)))
    clear h3 hb3 hm3 HAD2
    go_wp2_with fail
    go_ret
    exact ⟨d3, r3, n, true, rfl, { two := H3.out.more (by omega), dr := HAL.out.2, log := HB3.out, mod := HM3.out, l1 := H.out.l1, l2 := H.out.l2, w1 := H.out.w1, w2 := H.out.w2 }, Nat.le_succ n, HGR.out⟩
  ·have HA2 := Lib.hid (HA1.out.trans (if_pos he))
   have he0 : (te == 0) = false := by simp [he]
   have hee : (te != te) = false := by simp
   have HAD2 := Lib.hid (HAD.out L w1 r k (H.out.two.keeps HK1.out) (by omega) H.out.l1 (H.out.log.keeps HK1.out))
   rw [HA2.out] at HAD2
   clear he HAD hmn
   go_wp2_with fail
   refine HAD2.out.mono ?_
   rintro e w3 ⟨rfl, h3, hb3, hm3⟩
   have H3 := Lib.hid h3
   have HB3 := Lib.hid hb3
   have HM3 := Lib.hid ((H.out.mod.keeps HK1.out).mods hm3 (fun hy => hy.2.elim (fun hh => hh H.out.l2) (fun e => H.out.ne e.symm)))
   clear h3 hb3 hm3 HAD2 hmd
   go_wp2_with fail
   go_ret
   exact ⟨d, r, n, true, rfl, { two := H3.out.more (by omega), dr := H.out.dr.more (by omega), log := HB3.out, mod := HM3.out, l1 := H.out.l1, l2 := H.out.l2, w1 := H.out.w1, w2 := H.out.w2 }, Nat.le_succ n, Nat.le_refl _⟩
end
end Txl
end Go.Proofs.YtchjncnolmiejaaGreat

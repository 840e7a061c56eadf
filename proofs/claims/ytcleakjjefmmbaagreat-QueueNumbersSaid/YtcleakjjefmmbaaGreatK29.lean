/- Several texts in one: FrameSame, VdActs, QuActs. -/
import Derived.Test.YtcleakjjefmmbaaGreatFrameAwake
import Derived.Test.YtcleakjjefmmbaaGreatDrawn
import Derived.Test.YtcleakjjefmmbaaGreatK28
import Derived.Test.YtcleakjjefmmbaaGreatK11
import Derived.Test.YtcleakjjefmmbaaGreatK12
import Derived.Test.YtcleakjjefmmbaaGreatK15
import Derived.Test.YtcleakjjefmmbaaGreatLawKit
import Derived.Test.YtcleakjjefmmbaaGreatK00
/- The reference's Same and SameGaps: of what is the same they say so. -/
namespace Go.Proofs.YtcleakjjefmmbaaGreat
open Go.RowKit
namespace Frm
open Oct

theorem fr_at {l : List (Fr1 × Value)} {i : Nat} (h : i < l.length) {j : Nat} (hj : j < 4) : (l.flatMap frC)[i * 4 + j]? = (frC l[i])[j]? := flat_get frC_len l i j _ (List.getElem?_eq_getElem h) hj
/-- one frame of a list in memory: its cells and its payload -/
theorem FramesAt.one {w : World} {base : Nat} {p : Option Addr} {n cap : Nat} {l : List (Fr1 × Value)} (h : FramesAt w base (.slice p n cap) l) {j : Nat} (hj : j < l.length) : ∃ g, p = some ⟨g, 0, none⟩ ∧ (w.cell? ⟨g, j * 4, none⟩ = some (.int .i64 l[j].1.at') ∧ w.cell? ⟨g, j * 4 + 1, none⟩ = some (.int .i64 l[j].1.len) ∧ w.cell? ⟨g, j * 4 + 2, none⟩ = some (.int .i64 l[j].1.kind) ∧ w.cell? ⟨g, j * 4 + 3, none⟩ = some l[j].2) ∧ Row w l[j].2 (l[j].1.pay.map u8v) := by
 obtain ⟨g, cap', hv, -, -, -, hc⟩ := ownsRow_at h.own (by omega)
 simp only [Value.slice.injEq] at hv
 obtain ⟨rfl, -, rfl⟩ := hv
 refine ⟨g, rfl, ⟨hc (j * 4 + 0) _ (by rw [fr_at hj (by omega)]; rfl), hc (j * 4 + 1) _ (by rw [fr_at hj (by omega)]; rfl), hc (j * 4 + 2) _ (by rw [fr_at hj (by omega)]; rfl), hc (j * 4 + 3) _ (by rw [fr_at hj (by omega)]; rfl)⟩, (h.pay _ (List.getElem_mem hj)).row⟩

end Frm
end Go.Proofs.YtcleakjjefmmbaaGreat

/- The acts of the disk's laws: how they lie in memory; few. -/
namespace Go.Proofs.YtcleakjjefmmbaaGreat
open Go.RowKit
namespace Vd
structure Act where
 kind : Int
 a : Str
 b : Str
 n : Int
 code : Int
 kv : Value
 keep : List Int
theorem cInts : Tryz.prog.cellsOf 58 = 1 := by kernel_rfl
theorem cErrno : Tryz.prog.cellsOf 30 = 1 := by kernel_rfl
theorem ints_map (zs : List Int) : zs.flatMap (fun a : Int => [Value.int .i64 a]) = zs.map (.int .i64) := by
 induction zs with
 |nil => rfl
 |cons z zs ih => simp only [List.flatMap_cons, List.map_cons, ih]; rfl
end Vd
end Go.Proofs.YtcleakjjefmmbaaGreat

/- The acts of queue's law: how they lie in memory; few. -/
namespace Go.Proofs.YtcleakjjefmmbaaGreat
open Go.RowKit
namespace Que
open Env (JobP StP JobX jobC7 JobOk stC StOk LightP LightRet)
structure ActQ where
 kind : Int
 n : Int
 t : Int
 x : JobX
 s : StP
 b : List UInt8
 code : Int
 kv : Value
 keep : List Int
def aqC (x : ActQ) : List Value := [.int .i64 x.kind, .int .i64 x.n, .int .i64 x.t, .int .i64 x.x.j.id, .int .i64 x.x.j.arr, .string (bstr x.x.j.fl), .string (bstr x.x.j.fd), x.x.vt, x.x.vs, x.x.vb, .int .i64 x.s.s, .int .i64 x.s.t, .int .i64 x.s.d, .int .i64 x.s.c, .string (bstr x.b), .int .i64 x.code, x.kv]
theorem aqC_len (x : ActQ) : (aqC x).length = 17 := rfl
structure AqOk (w : World) (x : ActQ) : Prop where
 kd : (Lit.int .i64 x.kind).wf = true
 n : (Lit.int .i64 x.n).wf = true
 t : (Lit.int .i64 x.t).wf = true
 job : JobOk w x.x
 st : StOk x.s
 bl : x.b.length ≤ maxLen
 code : (Lit.int .i64 x.code).wf = true
 row : Row w x.kv (x.keep.map (Value.int .i64))
theorem AqOk.keeps {w w' : World} {x : ActQ} (h : AqOk w x) (k : Keeps w w') : AqOk w' x := { h with job := h.job.keeps k, row := h.row.keeps k }
theorem cAct23 : Tryz.prog.cellsOf 60 = 17 := by kernel_rfl
theorem opens_act23 {H : Type} {enc : TypeId × Value → H} {w : World} {base : Nat} {sp : Nat → Bool} {held : Bool} : Opens enc Tryz.prog w base sp held 60 aqC (AqOk w) := by
 have oi : Opens enc Tryz.prog w base sp held 3 (fun a : Int => [.int .i64 a]) (fun a => (Lit.int .i64 a).wf = true) := opens_int Tryz.underlying3
 have oe : Opens enc Tryz.prog w base sp held 30 (fun a : Int => [.int .i64 a]) (fun a => (Lit.int .i64 a).wf = true) := opens_int Tryz.underlying30
 have hk := opens_slice (enc := enc) (w := w) (base := base) (sp := sp) (held := held) Tryz.underlying58 Env.cI (by decide) (fun _ => rfl) oi
 have h := opens_struct (enc := enc) (w := w) (base := base) (sp := sp) (held := held) Tryz.underlying60 cAct23
  (opensF_cons rfl Env.cI oi (opensF_cons rfl Env.cI oi (opensF_cons rfl Env.cI oi (opensF_cons rfl Env.cJob Env.opens_job (opensF_cons rfl Env.cSt Env.opens_st (opensF_cons rfl Env.cStr (opens_string Tryz.underlying9) (opensF_cons rfl Vd.cErrno oe (opensF_cons rfl Vd.cInts hk opensF_nil))))))))
 refine opens_map h (fun x => ⟨x.1, x.2.1, x.2.2.1, x.2.2.2.1, x.2.2.2.2.1, x.2.2.2.2.2.1.data.toList, x.2.2.2.2.2.2.1, x.2.2.2.2.2.2.2.1.1, x.2.2.2.2.2.2.2.1.2⟩) ?_ ?_
 ·rintro ⟨a, b, c, ⟨j, vt, vs, vb⟩, s, d, e, ⟨f, ks⟩, _⟩ _
  unfold aqC
  show _ = [Value.int .i64 a, .int .i64 b, .int .i64 c, .int .i64 j.id, .int .i64 j.arr, .string (bstr j.fl), .string (bstr j.fd), vt, vs, vb, .int .i64 s.s, .int .i64 s.t, .int .i64 s.d, .int .i64 s.c, .string (bstr d.data.toList), .int .i64 e, f]
  rw [bstr_list]
 ·rintro ⟨a, b, c, ⟨j, vt, vs, vb⟩, s, d, e, ⟨f, ks⟩, _⟩ ⟨h1, h2, h3, h4, h5, h6, h7, ⟨h8, h9⟩, _⟩
  refine ⟨h1, h2, h3, h4, h5, by show d.data.toList.length ≤ maxLen; rw [Array.length_toList]; exact h6, h7, ?_⟩
  have := h8.row
  rw [Vd.ints_map] at this
  exact this
theorem aq_at {l : List ActQ} {i : Nat} (h : i < l.length) {j : Nat} (hj : j < 17) : (l.flatMap aqC)[i * 17 + j]? = (aqC l[i])[j]? := flat_get aqC_len l i j _ (List.getElem?_eq_getElem h) hj
def FewQ (w : World) (l : List ActQ) (e : Ending) (w' : World) : Prop := ∃ b, e = .returned (.bool b) ∧ (b = true → l.length ≤ 30 ∧ ∀ x ∈ l, LightP x.x.j) ∧ Keeps w w'
theorem fewQ_no {w w' : World} {l : List ActQ} (k : Keeps w w') : FewQ w l (.returned (.bool false)) w' := ⟨false, rfl, fun h => (by cases h), k⟩
set_option maxRecDepth 100000 in
set_option maxHeartbeats 4000000 in
theorem few23_any (v : Value) (l : List ActQ) (w : World) (hr : RowS w 17 v l.length (l.flatMap aqC)) (hok : ∀ x ∈ l, AqOk w x) : Calls Tryz.prog 19 #[v] w (FewQ w l) := by
 have HOK := Lib.hid hok
 obtain ⟨p, cap, rfl, -, -⟩ := hr.form
 have HR := Lib.hid hr
 clear hr hok
 by_cases h40 : 30 < l.length
 ·go_enter Tryz.func19, Tryz.ntmps19
  go_wp2_with fail
  go_ret
  exact fewQ_no (Keeps.refl _)
 ·have HL := Lib.hid (show l.length ≤ 30 from by omega)
  go_enter Tryz.func19, Tryz.ntmps19
  go_wp2_with fail
  go_loopw [3] (fun i wr => ∃ j : Nat, i = .int .i64 (j : Int) ∧ j ≤ l.length ∧ Hid ((∀ x ∈ l.take j, LightP x.x.j) ∧ Keeps w wr)) (fun i _ => l.length - (RowKit.intOf i).toNat)
  case atStart => exact ⟨0, rfl, Nat.zero_le _, Lib.hid ⟨by simp, Keeps.refl _⟩⟩
  case round =>
   obtain ⟨j, rfl, hj, HH⟩ := hrel
   by_cases hlt : j < l.length
   ·obtain ⟨b, off, cap, hv, -, -, HC⟩ := HR.out.at_ (by omega)
    simp only [Value.slice.injEq] at hv
    obtain ⟨rfl, -, rfl⟩ := hv
    have hlt' : (j : Int) < (l.length : Int) := by omega
    have hok := (HOK.out _ (List.getElem_mem hlt)).keeps HH.out.2
    have hc : ∀ i (hi : i < 17), wr.cell? ⟨b, off + j * 17 + i, none⟩ = some ((aqC l[j])[i]'(by rw [aqC_len]; exact hi)) := fun i hi => by
     rw [Nat.add_assoc]
     exact keep1 HH.out.2 (HC.out (j * 17 + i) _ (by rw [aq_at hlt hi]; exact List.getElem?_eq_getElem _))
    have HT := Lib.hid (show ∀ x ∈ l.take (j + 1), x ∈ l.take j ∨ x = l[j] from fun x hx => by
     rw [List.take_succ_eq_append_getElem hlt] at hx
     rcases List.mem_append.1 hx with h | h
     ·exact .inl h
     ·exact .inr (List.mem_singleton.1 h))
    generalize l[j] = x at *
    obtain ⟨k1, k2, k3, ⟨⟨id, arr, fl, fd, T, St, B⟩, vt, vs, vb⟩, ⟨s1, s2, s3, s4⟩, bb, cd, kv, ks⟩ := x
    have HRG := Lib.hid (show wr.rangeAt b (off + j * 17 + 3) [.int .i64 id, .int .i64 arr, .string (bstr fl), .string (bstr fd), vt, vs, vb] from fun i y hy => by
     have hi := (List.getElem?_eq_some_iff.1 hy).1
     simp at hi
     rw [Nat.add_assoc]
     have := hc (3 + i) (by omega)
     rw [this]
     have : i = 0 ∨ i = 1 ∨ i = 2 ∨ i = 3 ∨ i = 4 ∨ i = 5 ∨ i = 6 := by omega
     rcases this with rfl | rfl | rfl | rfl | rfl | rfl | rfl <;> exact hy)
    have h14 : wr.cell? ⟨b, off + j * 17 + 14, none⟩ = some (.string (bstr bb)) := hc 14 (by decide)
    have h16 : wr.cell? ⟨b, off + j * 17 + 16, none⟩ = some kv := hc 16 (by decide)
    have HLT := Lib.hid (Env.light_any wr ⟨id, arr, fl, fd, T, St, B⟩ vt vs vb hok.job.at_)
    unfold LightRet at HLT
    obtain ⟨pk, ck, hkv, -, -⟩ := hok.row.form
    simp only [List.length_map] at hkv
    subst hkv
    have hsz := bstr_size bb
    have HKR := Lib.hid HH.out.2
    have HTL := Lib.hid HH.out.1
    clear hc hok HH
    go_wp2_with (refine wpList_ldR rfl Env.jobM HRG.out _ rfl rfl ?_)
    refine HLT.out.mono ?_
    rintro e w2 ⟨bl, rfl, hbl, hk⟩
    have HK2 := Lib.hid (HKR.out.trans hk)
    have HBL := Lib.hid hbl
    have h14 := keep1 hk h14
    have h16 := keep1 hk h16
    clear hk hbl HLT HRG
    cases bl with
    |false =>
     go_wp2_with fail
     go_ret
     exact fewQ_no HK2.out
    |true =>
     by_cases h100 : 100 < bb.length
     ·have hd1 : decide ((100 : Int) < (bb.length : Int)) = true := decide_eq_true (by omega)
      have hd2 : decide (100 < bb.length) = true := decide_eq_true h100
      clear h100
      go_wp2_with fail
      go_ret
      exact fewQ_no HK2.out
     have hd1 : decide ((100 : Int) < (bb.length : Int)) = false := decide_eq_false (by omega)
     have hd2 : decide (100 < bb.length) = false := decide_eq_false h100
     clear h100
     by_cases h60 : 60 < ks.length
     ·have hd3 : decide ((60 : Int) < (ks.length : Int)) = true := decide_eq_true (by omega)
      have hd4 : decide (60 < ks.length) = true := decide_eq_true h60
      clear h60
      go_wp2_with fail
      go_ret
      exact fewQ_no HK2.out
     have hd3 : decide ((60 : Int) < (ks.length : Int)) = false := decide_eq_false (by omega)
     have hd4 : decide (60 < ks.length) = false := decide_eq_false h60
     have hw : IntKind.i64.wrap ((j : Int) + 1) = (j : Int) + 1 := IntWalk.i64_in _ (by have := HL.out; omega)
     have HJL := Lib.hid hlt
     clear h60
     go_wp2_with fail
     go_roundw
     case rel => exact ⟨j + 1, by simp, HJL.out, Lib.hid ⟨fun x hx => by
      rcases HT.out x hx with h | h
      ·exact HTL.out x h
      ·rw [h]; exact HBL.out (by trivial), HK2.out⟩⟩
     case measure => simp only [RowKit.intOf]; have := HJL.out; omega
   ·have hlt' : decide ((j : Int) < (l.length : Int)) = false := decide_eq_false (by omega)
    have hlt2 : decide (j < l.length) = false := decide_eq_false hlt
    have HF := Lib.hid (show FewQ w l (.returned (.bool true)) wr from ⟨true, rfl, fun _ => ⟨HL.out, fun x hx => HH.out.1 x (by rw [List.take_of_length_le (by omega)]; exact hx)⟩, HH.out.2⟩)
    clear hlt
    go_wp2_with fail
    go_ret
    exact HF.out
end Que
end Go.Proofs.YtcleakjjefmmbaaGreat

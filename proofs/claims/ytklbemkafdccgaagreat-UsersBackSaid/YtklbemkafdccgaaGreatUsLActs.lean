/- The acts of users' law: how they lie in memory; few. -/
import Derived.Test.YtklbemkafdccgaaGreatUsLower
import Derived.Test.YtklbemkafdccgaaGreatK33
import Derived.Test.YtklbemkafdccgaaGreatK28
import Derived.Test.YtklbemkafdccgaaGreatRecOpen
import Derived.Test.YtklbemkafdccgaaGreatK24
namespace Go.Proofs.YtklbemkafdccgaaGreat
open Go.RowKit
namespace Usr
open Adr (Str)
structure ActU where
 kind : Int
 name : Str
 lb : Int
 lc : Int
 tv : Value
 tos : List Str
def auC (x : ActU) : List Value := [.int .i64 x.kind, .string (bstr x.name), .int .i64 x.lb, .int .i64 x.lc, x.tv]
theorem auC_len (x : ActU) : (auC x).length = 5 := rfl
structure AuOk (w : World) (x : ActU) : Prop where
 row : Row w x.tv (x.tos.map strV)
 kd : (Lit.int .i64 x.kind).wf = true
 lb : (Lit.int .i64 x.lb).wf = true
 lc : (Lit.int .i64 x.lc).wf = true
 nl : x.name.length ≤ maxLen
 tl : ∀ s ∈ x.tos, s.length ≤ maxLen
theorem AuOk.keeps {w w' : World} {x : ActU} (h : AuOk w x) (k : Keeps w w') : AuOk w' x := { h with row := h.row.keeps k }
theorem cIU : Tryz.prog.cellsOf 3 = 1 := by kernel_rfl
theorem cStrU : Tryz.prog.cellsOf 9 = 1 := by kernel_rfl
theorem cStrsU : Tryz.prog.cellsOf 37 = 1 := by kernel_rfl
theorem cLimU : Tryz.prog.cellsOf 36 = 2 := by kernel_rfl
theorem cAddrU : Tryz.prog.cellsOf 48 = 2 := by kernel_rfl
theorem cActU : Tryz.prog.cellsOf 39 = 5 := by kernel_rfl
theorem strs_map (bs : List ByteArray) : bs.flatMap (fun a : ByteArray => [Value.string a]) = (bs.map fun b => b.data.toList).map strV := by
 induction bs with
 |nil => rfl
 |cons b bs ih => simp only [List.flatMap_cons, List.map_cons, ih]; unfold strV; rw [bstr_list]; rfl
theorem opens_actU {H : Type} {enc : TypeId × Value → H} {w : World} {base : Nat} {sp : Nat → Bool} {held : Bool} : Opens enc Tryz.prog w base sp held 39 auC (AuOk w) := by
 have oi : Opens enc Tryz.prog w base sp held 3 (fun a : Int => [.int .i64 a]) (fun a => (Lit.int .i64 a).wf = true) := opens_int Tryz.underlying3
 have ol := opens_struct (enc := enc) (w := w) (base := base) (sp := sp) (held := held) Tryz.underlying36 cLimU (opensF_cons rfl cIU oi (opensF_cons rfl cIU oi opensF_nil))
 have os := opens_slice (enc := enc) (w := w) (base := base) (sp := sp) (held := held) Tryz.underlying37 cStrU (by decide) (fun _ => rfl) (opens_string (enc := enc) (P := Tryz.prog) (w := w) (base := base) (sp := sp) (held := held) Tryz.underlying9)
 have h := opens_struct (enc := enc) (w := w) (base := base) (sp := sp) (held := held) Tryz.underlying39 cActU
  (opensF_cons rfl cIU oi (opensF_cons rfl cStrU (opens_string Tryz.underlying9) (opensF_cons rfl cLimU ol (opensF_cons rfl cStrsU os opensF_nil))))
 refine opens_map h (fun x => ⟨x.1, x.2.1.data.toList, x.2.2.1.1, x.2.2.1.2.1, x.2.2.2.1.1, x.2.2.2.1.2.map fun b => b.data.toList⟩) ?_ ?_
 ·rintro ⟨a, b, ⟨c, d, _⟩, ⟨v, l⟩, _⟩ _
  show [Value.int .i64 a, .string (bstr b.data.toList), .int .i64 c, .int .i64 d, v] = _
  rw [bstr_list]
  rfl
 ·rintro ⟨a, b, ⟨c, d, _⟩, ⟨v, l⟩, _⟩ ⟨h1, h2, ⟨h3, h4, _⟩, ⟨h5, h6⟩, _⟩
  refine ⟨?_, h1, h3, h4, by show b.data.toList.length ≤ maxLen; rw [Array.length_toList]; exact h2, ?_⟩
  ·have := h5.row
   rw [strs_map] at this
   exact this
  ·intro s hs
   obtain ⟨b', hb, rfl⟩ := List.mem_map.1 hs
   rw [Array.length_toList]
   exact h6 b' hb
theorem opens_addrU {H : Type} {enc : TypeId × Value → H} {w : World} {base : Nat} {sp : Nat → Bool} {held : Bool} : Opens enc Tryz.prog w base sp held 48 (fun a : Str × Str => [.string (bstr a.1), .string (bstr a.2)]) (fun a => a.1.length ≤ maxLen ∧ a.2.length ≤ maxLen) := by
 have h := opens_struct (enc := enc) (w := w) (base := base) (sp := sp) (held := held) Tryz.underlying48 cAddrU
  (opensF_cons rfl cStrU (opens_string Tryz.underlying9) (opensF_cons rfl cStrU (opens_string Tryz.underlying9) opensF_nil))
 refine opens_map h (fun x => (x.1.data.toList, x.2.1.data.toList)) ?_ ?_
 ·rintro ⟨a, b, _⟩ _
  show [Value.string (bstr a.data.toList), .string (bstr b.data.toList)] = _
  rw [bstr_list, bstr_list]
  rfl
 ·rintro ⟨a, b, _⟩ ⟨h1, h2, _⟩
  exact ⟨by show a.data.toList.length ≤ maxLen; rw [Array.length_toList]; exact h1, by show b.data.toList.length ≤ maxLen; rw [Array.length_toList]; exact h2⟩
theorem au_at {l : List ActU} {i : Nat} (h : i < l.length) {j : Nat} (hj : j < 5) : (l.flatMap auC)[i * 5 + j]? = (auC l[i])[j]? := flat_get auC_len l i j _ (List.getElem?_eq_getElem h) hj
/-- few acts, short ones -/
def fewU (l : List ActU) : Prop := l.length ≤ 60 ∧ ∀ x ∈ l, x.name.length ≤ 100 ∧ x.tos.length ≤ 20 ∧ ∀ s ∈ x.tos, s.length ≤ 100
def FewU (w : World) (l : List ActU) (e : Ending) (w' : World) : Prop := ∃ b, e = .returned (.bool b) ∧ (b = true → fewU l) ∧ Keeps w w'
theorem fewU_no {w w' : World} {l : List ActU} (k : Keeps w w') : FewU w l (.returned (.bool false)) w' := ⟨false, rfl, fun h => (by cases h), k⟩
theorem fewU_yes {w w' : World} {l : List ActU} (h : fewU l) (k : Keeps w w') : FewU w l (.returned (.bool true)) w' := ⟨true, rfl, fun _ => h, k⟩
set_option maxRecDepth 100000 in
set_option maxHeartbeats 4000000 in
theorem few13_any (v : Value) (l : List ActU) (w : World) (hr : RowS w 5 v l.length (l.flatMap auC)) (hok : ∀ x ∈ l, AuOk w x) : Calls Tryz.prog 8 #[v] w (FewU w l) := by
 have HOK := Lib.hid hok
 obtain ⟨p, cap, rfl, -, -⟩ := hr.form
 have HR := Lib.hid hr
 clear hr hok
 by_cases h60 : 60 < l.length
 ·have h60' : decide ((60 : Int) < (l.length : Int)) = true := decide_eq_true (by omega)
  go_enter Tryz.func8, Tryz.ntmps8
  go_wp2_with fail
  go_ret
  exact fewU_no (Keeps.refl _)
 ·have HL := Lib.hid (show l.length ≤ 60 from by omega)
  have h60' : decide ((60 : Int) < (l.length : Int)) = false := decide_eq_false (by omega)
  go_enter Tryz.func8, Tryz.ntmps8
  go_wp2_with fail
  go_loopw [3] (fun i wr => ∃ j : Nat, i = .int .i64 (j : Int) ∧ Hid (j ≤ l.length ∧ (∀ x ∈ l.take j, x.name.length ≤ 100 ∧ x.tos.length ≤ 20 ∧ ∀ s ∈ x.tos, s.length ≤ 100) ∧ Keeps w wr)) (fun i _ => l.length - (RowKit.intOf i).toNat)
  case atStart => exact ⟨0, rfl, Lib.hid ⟨Nat.zero_le _, fun x hx => by simp at hx, Keeps.refl _⟩⟩
  case round =>
   obtain ⟨j, rfl, HJ⟩ := hrel
   obtain ⟨wz, rfl⟩ : ∃ z : World, z = wr := ⟨_, rfl⟩
   have hwr : IntKind.i64.wrap ((j : Int) + 1) = (j : Int) + 1 := IntWalk.i64_in _ (by have := HJ.out.1; have := HL.out; omega)
   by_cases hlt : j < l.length
   ·obtain ⟨b, off, cap, hv, -, -, HC⟩ := (HR.out.keeps HJ.out.2.2).at_ (by omega)
    simp only [Value.slice.injEq] at hv
    obtain ⟨rfl, -, rfl⟩ := hv
    have hlt' : decide ((j : Int) < (l.length : Int)) = true := decide_eq_true (by omega)
    have hok := (HOK.out _ (List.getElem_mem hlt)).keeps HJ.out.2.2
    have h1 : wz.cell? ⟨b, off + j * 5 + 1, none⟩ = some (.string (bstr l[j].name)) := by
     rw [Nat.add_assoc]
     exact HC.out (j * 5 + 1) _ (by rw [au_at hlt (by decide)]; rfl)
    have h4 : wz.cell? ⟨b, off + j * 5 + 4, none⟩ = some l[j].tv := by
     rw [Nat.add_assoc]
     exact HC.out (j * 5 + 4) _ (by rw [au_at hlt (by decide)]; rfl)
    have HROW := Lib.hid hok.row
    obtain ⟨pi, ci, hiv, -, -⟩ := hok.row.form
    rw [List.length_map] at hiv
    rw [hiv] at h4 HROW
    have HTL := Lib.hid hok.tl
    have hnl := hok.nl
    have hsz : (bstr l[j].name).size = l[j].name.length := bstr_size _
    have HTK := Lib.hid (show l.take (j + 1) = l.take j ++ [l[j]] from List.take_succ_eq_append_getElem hlt)
    have HJ1 := Lib.hid HJ.out.1
    have HJ2 := Lib.hid HJ.out.2.1
    have HJK := Lib.hid HJ.out.2.2
    clear HJ hok hiv HC
    generalize l[j] = x at *
    generalize l.take j = T at *
    by_cases ha : 100 < x.name.length
    ·have ha' : decide ((100 : Int) < (x.name.length : Int)) = true := decide_eq_true (by omega)
     go_wp2_with fail
     go_ret
     exact fewU_no HJK.out
    ·have ha' : decide ((100 : Int) < (x.name.length : Int)) = false := decide_eq_false (by omega)
     by_cases hb : 20 < x.tos.length
     ·have hb' : decide ((20 : Int) < (x.tos.length : Int)) = true := decide_eq_true (by omega)
      go_wp2_with fail
      go_ret
      exact fewU_no HJK.out
     ·have hb' : decide ((20 : Int) < (x.tos.length : Int)) = false := decide_eq_false (by omega)
      have HXR := Lib.hid (show ∀ k (hk : k < x.tos.length), ∃ bx ox, pi = some ⟨bx, ox, none⟩ ∧ wz.cell? ⟨bx, ox + k, none⟩ = some (.string (bstr x.tos[k])) from fun k hk => row_str HROW.out hk)
      have HC4 := Lib.hid h4
      go_wp2_with fail
      clear h1 h4
      go_loopw [4] (fun kv wx => ∃ k : Nat, kv = .int .i64 (k : Int) ∧ Hid (k ≤ x.tos.length ∧ ∀ s ∈ x.tos.take k, s.length ≤ 100) ∧ wz = wx) (fun kv _ => x.tos.length - (RowKit.intOf kv).toNat)
      case atStart => exact ⟨0, rfl, Lib.hid ⟨Nat.zero_le _, fun s hs => by simp at hs⟩, rfl⟩
      case round =>
       obtain ⟨k, rfl, HX, hwz⟩ := hrel
       subst hwz
       have h4 := HC4.out
       have hwk : IntKind.i64.wrap ((k : Int) + 1) = (k : Int) + 1 := IntWalk.i64_in _ (by have := HX.out.1; omega)
       by_cases hkt : k < x.tos.length
       ·have hdk : decide ((k : Int) < (x.tos.length : Int)) = true := decide_eq_true (by omega)
        obtain ⟨bx, ox, rfl, x0⟩ := HXR.out k hkt
        have hsz2 : (bstr x.tos[k]).size = x.tos[k].length := bstr_size _
        have hsl := HTL.out _ (List.getElem_mem hkt)
        have HTK2 := Lib.hid (show x.tos.take (k + 1) = x.tos.take k ++ [x.tos[k]] from List.take_succ_eq_append_getElem hkt)
        by_cases h100 : 100 < x.tos[k].length
        ·have h1' : decide ((100 : Int) < (x.tos[k].length : Int)) = true := decide_eq_true (by omega)
         generalize x.tos[k] = X at *
         go_wp2_with fail
         go_ret
         exact fewU_no HJK.out
        ·have h1' : decide ((100 : Int) < (x.tos[k].length : Int)) = false := decide_eq_false (by omega)
         have HX1 := Lib.hid (show ∀ s ∈ x.tos.take (k + 1), s.length ≤ 100 from fun s hs => by
          rw [HTK2.out] at hs
          rcases List.mem_append.1 hs with hs | hs
          ·exact HX.out.2 s hs
          ·rw [List.mem_singleton] at hs; rw [hs]; omega)
         generalize x.tos[k] = X at *
         clear HTK2
         go_wp2_with fail
         go_roundw
         case rel => exact ⟨k + 1, by simp, Lib.hid ⟨by omega, HX1.out⟩, trivial⟩
         case measure => simp only [RowKit.intOf]; omega
       ·have hdk : decide ((k : Int) < (x.tos.length : Int)) = false := decide_eq_false (by omega)
        have HXK := Lib.hid (show ∀ s ∈ x.tos, s.length ≤ 100 from by
         have e : x.tos.take k = x.tos := List.take_of_length_le (by omega)
         have := HX.out.2
         rwa [e] at this)
        go_wp2_with fail
        go_roundw
        case rel =>
         refine ⟨j + 1, by simp, Lib.hid ⟨by omega, ?_, HJK.out⟩⟩
         rw [HTK.out]
         intro y hy
         rcases List.mem_append.1 hy with hy | hy
         ·exact HJ2.out y hy
         ·rw [List.mem_singleton] at hy
          subst hy
          exact ⟨by omega, by omega, HXK.out⟩
        case measure => simp only [RowKit.intOf]; omega
   ·have hlt' : decide ((j : Int) < (l.length : Int)) = false := decide_eq_false (by omega)
    obtain rfl : j = l.length := by have := HJ.out.1; omega
    go_wp2_with fail
    go_ret
    refine fewU_yes ⟨HL.out, ?_⟩ HJ.out.2.2
    have := HJ.out.2.1
    rwa [List.take_length] at this
end Usr
end Go.Proofs.YtklbemkafdccgaaGreat

/- Jobs, states as parameters of a law. -/
import Derived.Test.YtkbibhlfehamgaaK10
import Derived.Test.YtkbibhlfehamgaaRecOpen
namespace Go.Proofs.Ytkbibhlfehamgaa
open Go.RowKit
namespace Env
open Adr (Str)
open Rcd (i64ok)
structure JobX where
 j : JobP
 vt : Value
 vs : Value
 vb : Value
def jobC7 (x : JobX) : List Value := [.int .i64 x.j.id, .int .i64 x.j.arr, .string (bstr x.j.fl), .string (bstr x.j.fd), x.vt, x.vs, x.vb]
structure TgOk (t : TgP) : Prop where
 u : i64ok t.u
 l : t.l.length ≤ maxLen
 d : t.d.length ≤ maxLen
structure StOk (x : StP) : Prop where
 s : i64ok x.s
 t : i64ok x.t
 d : i64ok x.d
 c : i64ok x.c
structure JobOk (w : World) (x : JobX) : Prop where
 at_ : JobAt w x.j x.vt x.vs x.vb
 id : i64ok x.j.id
 arr : i64ok x.j.arr
 fl : x.j.fl.length ≤ maxLen
 fd : x.j.fd.length ≤ maxLen
 ts : ∀ t ∈ x.j.tos, TgOk t
 ss : ∀ s ∈ x.j.st, StOk s
theorem JobOk.keeps {w w' : World} {x : JobX} (h : JobOk w x) (k : Keeps w w') : JobOk w' x := { h with at_ := h.at_.keeps k }
theorem cI : Try.prog.cellsOf 3 = 1 := by kernel_rfl
theorem cStr : Try.prog.cellsOf 9 = 1 := by kernel_rfl
theorem cAd : Try.prog.cellsOf 25 = 2 := by kernel_rfl
theorem cTg : Try.prog.cellsOf 47 = 3 := by kernel_rfl
theorem cSt : Try.prog.cellsOf 44 = 4 := by kernel_rfl
theorem cTgs : Try.prog.cellsOf 26 = 1 := by kernel_rfl
theorem cSts : Try.prog.cellsOf 27 = 1 := by kernel_rfl
theorem cU8s : Try.prog.cellsOf 22 = 1 := by kernel_rfl
theorem cJob : Try.prog.cellsOf 29 = 7 := by kernel_rfl
section
variable {H : Type} {enc : TypeId × Value → H} {w : World} {base : Nat} {sp : Nat → Bool} {held : Bool}
theorem opens_ad : Opens enc Try.prog w base sp held 25 (fun a : Str × Str => [.string (bstr a.1), .string (bstr a.2)]) (fun a => a.1.length ≤ maxLen ∧ a.2.length ≤ maxLen) := by
 have h := opens_struct (enc := enc) (w := w) (base := base) (sp := sp) (held := held) Try.underlying25 cAd
  (opensF_cons rfl cStr (opens_string Try.underlying9) (opensF_cons rfl cStr (opens_string Try.underlying9) opensF_nil))
 refine opens_map h (fun x => (x.1.data.toList, x.2.1.data.toList)) ?_ ?_
 ·rintro ⟨a, b, _⟩ _
  show [Value.string (bstr a.data.toList), .string (bstr b.data.toList)] = _
  rw [bstr_list, bstr_list]
  rfl
 ·rintro ⟨a, b, _⟩ ⟨h1, h2, _⟩
  exact ⟨by show a.data.toList.length ≤ maxLen; rw [Array.length_toList]; exact h1, by show b.data.toList.length ≤ maxLen; rw [Array.length_toList]; exact h2⟩
theorem opens_tg : Opens enc Try.prog w base sp held 47 tgC TgOk := by
 have h := opens_struct (enc := enc) (w := w) (base := base) (sp := sp) (held := held) Try.underlying47 cTg
  (opensF_cons rfl cI (opens_int Try.underlying3) (opensF_cons rfl cAd opens_ad opensF_nil))
 refine opens_map h (fun x => ⟨x.1, x.2.1.1, x.2.1.2⟩) ?_ ?_
 ·rintro ⟨a, ⟨b, c⟩, _⟩ _
  rfl
 ·rintro ⟨a, ⟨b, c⟩, _⟩ ⟨h1, ⟨h2, h3⟩, _⟩
  exact ⟨h1, h2, h3⟩
theorem opens_st : Opens enc Try.prog w base sp held 44 stC StOk := by
 have oi : Opens enc Try.prog w base sp held 3 (fun a : Int => [.int .i64 a]) (fun a => (Lit.int .i64 a).wf = true) := opens_int Try.underlying3
 have h := opens_struct (enc := enc) (w := w) (base := base) (sp := sp) (held := held) Try.underlying44 cSt
  (opensF_cons rfl cI oi (opensF_cons rfl cI oi (opensF_cons rfl cI oi (opensF_cons rfl cI oi opensF_nil))))
 refine opens_map h (fun x => ⟨x.1, x.2.1, x.2.2.1, x.2.2.2.1⟩) ?_ ?_
 ·rintro ⟨a, b, c, d, _⟩ _
  rfl
 ·rintro ⟨a, b, c, d, _⟩ ⟨h1, h2, h3, h4, _⟩
  exact ⟨h1, h2, h3, h4⟩
theorem opens_job : Opens enc Try.prog w base sp held 29 jobC7 (JobOk w) := by
 have oi : Opens enc Try.prog w base sp held 3 (fun a : Int => [.int .i64 a]) (fun a => (Lit.int .i64 a).wf = true) := opens_int Try.underlying3
 have ot := opens_slice (enc := enc) (w := w) (base := base) (sp := sp) (held := held) Try.underlying26 cTg (by decide) tgC_len opens_tg
 have os := opens_slice (enc := enc) (w := w) (base := base) (sp := sp) (held := held) Try.underlying27 cSt (by decide) stC_len opens_st
 have h := opens_struct (enc := enc) (w := w) (base := base) (sp := sp) (held := held) Try.underlying29 cJob
  (opensF_cons rfl cI oi (opensF_cons rfl cI oi (opensF_cons rfl cAd opens_ad (opensF_cons rfl cTgs ot (opensF_cons rfl cSts os (opensF_cons rfl cU8s Rcd.opens_pay opensF_nil))))))
 refine opens_map h (fun x => ⟨⟨x.1, x.2.1, x.2.2.1.1, x.2.2.1.2, x.2.2.2.1.2, x.2.2.2.2.1.2, x.2.2.2.2.2.1.2⟩, x.2.2.2.1.1, x.2.2.2.2.1.1, x.2.2.2.2.2.1.1⟩) ?_ ?_
 ·rintro ⟨a, b, ⟨c, d⟩, ⟨vt, ts⟩, ⟨vs, ss⟩, ⟨vb, bs⟩, _⟩ _
  rfl
 ·rintro ⟨a, b, ⟨c, d⟩, ⟨vt, ts⟩, ⟨vs, ss⟩, ⟨vb, bs⟩, _⟩ ⟨h1, h2, ⟨h3, h4⟩, ⟨h5, h6⟩, ⟨h7, h8⟩, h9, _⟩
  exact ⟨⟨h5, h7, h9⟩, h1, h2, h3, h4, h6, h8⟩
end
end Env
end Go.Proofs.Ytkbibhlfehamgaa

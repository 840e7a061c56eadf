/- envel: jobs in memory; states that are right. -/
import Derived.Test.YtklbemkafdccgaaGreatK23
import Derived.Test.YtklbemkafdccgaaGreatK28
import Derived.Test.YtklbemkafdccgaaGreatK03
import Derived.Test.YtklbemkafdccgaaGreatMid
import Derived.Test.YtklbemkafdccgaaGreatDrawn
import Derived.Deep.LoopGhost
import Derived.Deep.DeepCutAuto
import Derived.Deep.CutBlock
namespace Go.Proofs.YtklbemkafdccgaaGreat
open Go.RowKit
namespace Env
def tgC (t : TgP) : List Value := [.int .i64 t.u, .string (bstr t.l), .string (bstr t.d)]
def stC (x : StP) : List Value := [.int .i64 x.s, .int .i64 x.t, .int .i64 x.d, .int .i64 x.c]
def stA (x : StP) : Array Value := #[.int .i64 x.s, .int .i64 x.t, .int .i64 x.d, .int .i64 x.c]
abbrev jobA (j : JobP) (vt vs vb : Value) : Array Value := #[.int .i64 j.id, .int .i64 j.arr, .string (bstr j.fl), .string (bstr j.fd), vt, vs, vb]
/-- a job's three slices -/
structure JobAt (w : World) (j : JobP) (vt vs vb : Value) : Prop where
 tos : RowS w 3 vt j.tos.length (j.tos.flatMap tgC)
 st : RowS w 4 vs j.st.length (j.st.flatMap stC)
 body : Row w vb (j.body.map u8v)
theorem JobAt.keeps {w w' : World} {j : JobP} {vt vs vb : Value} (h : JobAt w j vt vs vb) (k : Keeps w w') : JobAt w' j vt vs vb := ⟨h.tos.keeps k, h.st.keeps k, h.body.keeps k⟩
/-- texts of a bounded length -/
def Short (j : JobP) : Prop := j.fl.length ≤ 1000000 ∧ j.fd.length ≤ 1000000 ∧ (∀ t ∈ j.tos, t.l.length ≤ 1000000 ∧ t.d.length ≤ 1000000 ∧ (Lit.int .i64 t.u).wf = true) ∧ j.tos.length ≤ 1000000 ∧ j.st.length ≤ 1000000 ∧ j.body.length ≤ 1000000

end Env
end Go.Proofs.YtklbemkafdccgaaGreat

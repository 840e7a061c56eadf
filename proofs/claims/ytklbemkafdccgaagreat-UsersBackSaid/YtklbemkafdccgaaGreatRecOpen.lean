/- Records: how they lie in memory; parameters that are records. -/
import Derived.Test.YtklbemkafdccgaaGreatK00
import Derived.Test.YtklbemkafdccgaaGreatK28
import Derived.Test.YtklbemkafdccgaaGreatRows
namespace Go.Proofs.YtklbemkafdccgaaGreat
open Go.RowKit
open Go.WideShapes
theorem open_param_struct {H : Type} {enc : TypeId × Value → H} {P : Program} {w : World} {base : Nat} {sp : Nat → Bool} {held : Bool} {r : Reach} {b0 : Nat} {t : TypeId} {fs : Array Field} {v : Value} {d : DataW H} {ps : List MemPlace} {α : Type} {cells : α → List Value} {good : α → Prop} (ht : P.underlying t = some (.struct fs))
  (hval : Value.okWide P w r b0 t v) (h : DataW.Trod enc P w base sp held t v d ps) (ho : Opens enc P w base sp held t cells good) : ∃ x : α, v = .agg (cells x).toArray ∧ good x := by
 obtain ⟨cs, rfl, _⟩ := okWide_struct ht hval
 obtain ⟨fuel, hf⟩ := h
 obtain ⟨x, h1, h2⟩ := ho fuel _ _ hf
 simp only [Value.cells] at h1
 exact ⟨x, by rw [← h1], h2⟩
namespace Rcd

/-- a payload in memory: its slice, its bytes -/
def payC (x : Value × List UInt8) : List Value := [x.1]
def payOk (w : World) (x : Value × List UInt8) : Prop := Row w x.1 (x.2.map u8v)
theorem c5 : Tryz.prog.cellsOf 5 = 1 := by kernel_rfl
/-- a record and its data's slice -/
abbrev RecX := Rec × Value
def recC (x : RecX) : List Value := (recA x.1 x.2).toList
def i64ok (n : Int) : Prop := (Lit.int .i64 n).wf = true
structure RecOk (w : World) (x : RecX) : Prop where
 k0 : i64ok x.1.kind
 k1 : i64ok x.1.user
 k2 : i64ok x.1.seq
 k3 : i64ok x.1.next
 k4 : i64ok x.1.base
 k5 : i64ok x.1.uid
 k6 : i64ok x.1.time
 k7 : i64ok x.1.flags
 k8 : i64ok x.1.body
 k9 : i64ok x.1.size
 k10 : i64ok x.1.origin
 row : Row w x.2 (x.1.data.map u8v)
theorem RecOk.keeps {w w' : World} {x : RecX} (h : RecOk w x) (k : Keeps w w') : RecOk w' x := { h with row := h.row.keeps k }

end Rcd
end Go.Proofs.YtklbemkafdccgaaGreat

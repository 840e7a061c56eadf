/- Records: how they lie in memory; parameters that are records. -/
import Derived.Test.YtkbibhlfehamgaaK00
import Derived.Test.YtkbibhlfehamgaaK06
import Derived.Test.YtkbibhlfehamgaaRows
namespace Go.Proofs.Ytkbibhlfehamgaa
open Go.RowKit
open Go.WideShapes
theorem open_param_struct {H : Type} {enc : TypeId × Value → H} {P : Program} {w : World} {base : Nat} {sp : Nat → Bool} {held : Bool} {r : Reach} {b0 : Nat} {t : TypeId} {fs : Array Field} {v : Value} {d : DataW H} {ps : List MemPlace} {α : Type} {cells : α → List Value} {good : α → Prop} (ht : P.underlying t = some (.struct fs))
  (hval : Value.okWide P w r b0 t v) (h : DataW.Trod enc P w base sp held t v d ps) (ho : Opens enc P w base sp held t cells good) : ∃ x : α, v = .agg (cells x).toArray ∧ good x := by
 obtain ⟨cs, rfl, _⟩ := okWide_struct ht hval
 obtain ⟨fuel, hf⟩ := h
 obtain ⟨x, h1, h2⟩ := ho fuel _ _ hf
 simp only [Value.cells] at h1
 exact ⟨x, by rw [← h1], h2⟩
namespace Rcd

/-- a payload in memory: its slice, its bytes -/
def payC (x : Value × List UInt8) : List Value := [x.1]
def payOk (w : World) (x : Value × List UInt8) : Prop := Row w x.1 (x.2.map u8v)
theorem c5 : Try.prog.cellsOf 5 = 1 := by kernel_rfl
theorem opens_pay {H : Type} {enc : TypeId × Value → H} {w : World} {base : Nat} {sp : Nat → Bool} {held : Bool} : Opens enc Try.prog w base sp held 22 payC (payOk w) := by
 have h := opens_slice (enc := enc) (w := w) (base := base) (sp := sp) (held := held) Try.underlying22 c5 (by decide) (fun _ => rfl) (opens_int (enc := enc) (P := Try.prog) (w := w) (base := base) (sp := sp) (held := held) Try.underlying5)
 refine opens_map h (fun x => (x.1, x.2.map fun n => UInt8.ofNat n.toNat)) (fun x _ => rfl) ?_
 rintro ⟨v, zs⟩ ⟨hr, hw⟩
 have e1 : zs.flatMap (fun a : Int => [Value.int .u8 a]) = zs.map (.int .u8) := by
  clear hr hw
  induction zs with
  | nil => rfl
  | cons z zs ih => simp only [List.flatMap_cons, List.map_cons, ih]; rfl
 have : (zs.map fun n => UInt8.ofNat n.toNat).map u8v = zs.map (.int .u8) := by
  rw [List.map_map]
  refine List.map_congr_left fun n hn => ?_
  have hb : 0 ≤ n ∧ n ≤ 255 := by simpa [Lit.wf, IntKind.min, IntKind.max, IntKind.signed, IntKind.bits] using hw n hn
  simp [u8v]
  omega
 unfold payOk
 simp only
 rw [this, ← e1]
 exact hr.row

/-- a record and its data's slice -/
abbrev RecX := Rec × Value
def recC (x : RecX) : List Value := (recA x.1 x.2).toList
def i64ok (n : Int) : Prop := (Lit.int .i64 n).wf = true
structure RecOk (w : World) (x : RecX) : Prop where
 k0 : i64ok x.1.kind
 k1 : i64ok x.1.user
 k2 : i64ok x.1.seq
 k3 : i64ok x.1.next
 k4 : i64ok x.1.base
 k5 : i64ok x.1.uid
 k6 : i64ok x.1.time
 k7 : i64ok x.1.flags
 k8 : i64ok x.1.body
 k9 : i64ok x.1.size
 k10 : i64ok x.1.origin
 row : Row w x.2 (x.1.data.map u8v)
theorem RecOk.keeps {w w' : World} {x : RecX} (h : RecOk w x) (k : Keeps w w') : RecOk w' x := { h with row := h.row.keeps k }

end Rcd
end Go.Proofs.Ytkbibhlfehamgaa

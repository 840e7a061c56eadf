/- Mailboxes' maps: entries and origins, by the kit's laws on maps. -/
import Derived.Test.YtohchhgheeolpaaPPlain
import Derived.Test.YtohchhgheeolpaaPGen
import Derived.Maps.OwnSet
import Derived.Maps.OwnOps
namespace Go.Proofs.Ytohchhgheeolpaa
open Go.RowKit
namespace Mbx
open Rcd Go.Maps

def entV (e : Ent) : Value := .agg #[.int .i64 e.uid, .int .i64 e.time, .int .i64 e.flags, .int .i64 e.body, .int .i64 e.size, .int .i64 e.origin, .bool e.gone]
def entD (e : Ent) : DataW Unit := .agg [.lit (.int .i64 e.uid), .lit (.int .i64 e.time), .lit (.int .i64 e.flags), .lit (.int .i64 e.body), .lit (.int .i64 e.size), .lit (.int .i64 e.origin), .lit (.bool e.gone)]
def entOfL : List Value → Option Ent
  | [.int .i64 a, .int .i64 b, .int .i64 c, .int .i64 d, .int .i64 s, .int .i64 o, .bool g] => some ⟨a, b, c, d, s, o, g⟩
  | _ => none
theorem entOfL_inv {l : List Value} {e : Ent} (h : entOfL l = some e) : l = [.int .i64 e.uid, .int .i64 e.time, .int .i64 e.flags, .int .i64 e.body, .int .i64 e.size, .int .i64 e.origin, .bool e.gone] := by
  unfold entOfL at h
  split at h
  · cases h; rfl
  · cases h
def entElem (v : Value) : Option (DataW Unit × List MemPlace) :=
  match v with
  | .agg cs => (entOfL cs.toList).map fun e => (entD e, [])
  | _ => none
theorem entElem_mk (e : Ent) : entElem (entV e) = some (entD e, []) := rfl
theorem entD_inj {a b : Ent} (h : entD a = entD b) : a = b := by
  cases a; cases b
  simp [entD] at h
  simp [h]
theorem entElem_inv {v : Value} {e : Ent} {ps : List MemPlace} (h : entElem v = some (entD e, ps)) : v = entV e := by
  unfold entElem at h
  split at h
  · rename_i cs
    cases hl : entOfL cs.toList with
    | none => rw [hl] at h; cases h
    | some e' =>
      rw [hl] at h
      simp only [Option.map_some, Option.some.injEq, Prod.mk.injEq] at h
      have := entD_inj h.1
      subst this
      have h2 := entOfL_inv hl
      unfold entV
      congr 1
      apply Array.toList_inj.1
      rw [h2]
  · cases h
def zeroEnt : Ent := ⟨0, 0, 0, 0, 0, 0, false⟩
def intD (n : Int) : DataW Unit := .lit (.int .i64 n)
def intElem : Value → Option (DataW Unit × List MemPlace)
  | .int .i64 a => some (intD a, [])
  | _ => none
theorem intElem_inv {v : Value} {n : Int} {ps : List MemPlace} (h : intElem v = some (intD n, ps)) : v = .int .i64 n := by
  unfold intElem at h
  split at h
  · simp only [Option.some.injEq, Prod.mk.injEq] at h
    have := h.1
    simp [intD] at this
    subst this
    rfl
  · cases h
/-- a map read as a function on numbers -/
def Reads {α : Type} (D : DataW Unit) (f : Int → Option α) (enc : α → DataW Unit) : Prop := IsMap D ∧ ∀ x : Int, has D (.int .i64 x) = (f x).isSome ∧ ∀ v, f x = some v → ∀ z, D.atKey (.int .i64 x) z = enc v
theorem reads_new {α : Type} (enc : α → DataW Unit) : Reads (.map []) (fun _ => none) enc := ⟨isMap_empty, fun _ => ⟨rfl, fun _ h => by cases h⟩⟩
theorem isKeyInt (x : Int) : WideAt.IsKeyLit (.int .i64 x) := by simp [WideAt.IsKeyLit]
theorem Reads.put {α : Type} {D : DataW Unit} {f : Int → Option α} {enc : α → DataW Unit} (h : Reads D f enc) (k : Int) (v : α) : Reads (D.put (.int .i64 k) (enc v)) (upd f k v) enc := by
  refine ⟨h.1.put _ _, fun x => ?_⟩
  by_cases hx : x = k
  · subst hx
    rw [has_put_same h.1 (isKeyInt x), upd_same]
    exact ⟨rfl, fun u hu z => by cases hu; exact atKey_put_same h.1 (isKeyInt x) _ _⟩
  · have hne : (Lit.int .i64 x) ≠ .int .i64 k := by simp [hx]
    rw [has_put_other hne, upd_other _ _ hx]
    exact ⟨(h.2 x).1, fun u hu z => by rw [atKey_put_other hne]; exact (h.2 x).2 u hu z⟩
theorem Reads.at_ {α : Type} {D : DataW Unit} {f : Int → Option α} {enc : α → DataW Unit} (h : Reads D f enc) (x : Int) (z : α) : D.atKey (.int .i64 x) (enc z) = enc ((f x).getD z) := by
  cases e : f x with
  | some v => exact (h.2 x).2 v e _
  | none => exact atKey_of_not_has (by rw [(h.2 x).1, e]; rfl) _
end Mbx
end Go.Proofs.Ytohchhgheeolpaa

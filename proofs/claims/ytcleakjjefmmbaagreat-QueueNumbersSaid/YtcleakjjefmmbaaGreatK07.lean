/- Several texts in one: BdEntry, QuKept. -/
import Derived.Test.YtcleakjjefmmbaaGreatK05
import Derived.Test.YtcleakjjefmmbaaGreatK06
import Derived.DeepKeys3
import Derived.WideKeyEntry
/- Maps whose values are slices: how a value reads; m[k] = append(m[k], ..): the entry first, its store later. -/
namespace Go.Proofs.YtcleakjjefmmbaaGreat
open Go.RowKit
namespace Bds
open Mp Go.Maps
open Go.ChangeMaps
/-- a slice's value, whatever it points to -/
structure SlQ where
 p : Option Addr
 n : Nat
 c : Nat
def SlQ.v (s : SlQ) : Value := .slice s.p s.n s.c
def slqD (s : SlQ) : DataW Unit := .agg (litN s.n :: litN s.c :: (match s.p with | none => [] | some a => [litN a.block, litN a.off, litN (match a.spot with | none => 0 | some k => k + 1)]))
theorem slqD_inj {a b : SlQ} (h : slqD a = slqD b) : a = b := by
 obtain ⟨p, n, c⟩ := a
 obtain ⟨q, m, d⟩ := b
 cases p <;> cases q <;> simp [slqD, litN] at h
 ·obtain ⟨h1, h2⟩ := h
  have e1 : n = m := by omega
  have e2 : c = d := by omega
  subst e1; subst e2; rfl
 ·rename_i x y
  obtain ⟨x1, x2, x3⟩ := x
  obtain ⟨y1, y2, y3⟩ := y
  obtain ⟨h1, h2, h3, h4, h5⟩ := h
  have e1 : n = m := by omega
  have e2 : c = d := by omega
  simp only at h3 h4 h5
  have e3 : x1 = y1 := by omega
  have e4 : x2 = y2 := by omega
  subst e1; subst e2; subst e3; subst e4
  cases x3 <;> cases y3 <;> simp at h5
  ·rfl
  ·omega
  ·omega
  ·have e5 : ∀ i j : Nat, (i : Int) = j → i = j := fun i j h => by omega
   rw [e5 _ _ h5]
end Bds
end Go.Proofs.YtcleakjjefmmbaaGreat

/- queue: a job and whether its file is whole, as a map's value. -/
namespace Go.Proofs.YtcleakjjefmmbaaGreat
open Go.RowKit
namespace Que
open Mp Go.Maps
open Bds (SlQ slqD slqD_inj)
structure KpV where
 id : Int
 arr : Int
 fl : List UInt8
 fd : List UInt8
 s1 : SlQ
 s2 : SlQ
 s3 : SlQ
 wh : Bool
def kpA (k : KpV) : Array Value := #[.int .i64 k.id, .int .i64 k.arr, .string (bstr k.fl), .string (bstr k.fd), k.s1.v, k.s2.v, k.s3.v, .bool k.wh]
def kpV (k : KpV) : Value := .agg (kpA k)
def kpD (k : KpV) : DataW Unit := .agg [.lit (.int .i64 k.id), .lit (.int .i64 k.arr), .lit (.string k.fl), .lit (.string k.fd), slqD k.s1, slqD k.s2, slqD k.s3, .lit (.bool k.wh)]
def zeroK : KpV := ⟨0, 0, [], [], ⟨none, 0, 0⟩, ⟨none, 0, 0⟩, ⟨none, 0, 0⟩, false⟩
def slqOf : Value → Option SlQ
 | .slice p n c => some ⟨p, n, c⟩
 | _ => none
theorem slqOf_mk (s : SlQ) : slqOf s.v = some s := rfl
theorem slqOf_inv {v : Value} {s : SlQ} (h : slqOf v = some s) : v = s.v := by
 unfold slqOf at h
 split at h
 ·simp only [Option.some.injEq] at h
  rw [← h]
  rfl
 ·cases h
def kpOfL : List Value → Option KpV
 | [.int .i64 a, .int .i64 b, .string x, .string y, v1, v2, v3, .bool w] =>
  match slqOf v1, slqOf v2, slqOf v3 with
  |some s1, some s2, some s3 => some ⟨a, b, x.data.toList, y.data.toList, s1, s2, s3, w⟩
  | _, _, _ => none
 | _ => none
theorem kpOfL_inv {l : List Value} {k : KpV} (h : kpOfL l = some k) : l = (kpA k).toList := by
 unfold kpOfL at h
 split at h
 ·rename_i a b x y v1 v2 v3 w
  split at h
  ·rename_i s1 s2 s3 h1 h2 h3
   simp only [Option.some.injEq] at h
   subst h
   have e1 := slqOf_inv h1
   have e2 := slqOf_inv h2
   have e3 := slqOf_inv h3
   subst e1
   subst e2
   subst e3
   unfold kpA
   simp only [bstr_list]
  ·cases h
 ·cases h
def kpElem (v : Value) : Option (DataW Unit × List MemPlace) :=
 match v with
 | .agg cs => (kpOfL cs.toList).map fun e => (kpD e, [])
 | _ => none
theorem kpElem_mk (k : KpV) : kpElem (kpV k) = some (kpD k, []) := by
 unfold kpElem kpV kpA
 simp [kpOfL, slqOf_mk, bstr]
theorem kpD_inj {a b : KpV} (h : kpD a = kpD b) : a = b := by
 cases a
 cases b
 simp only [kpD, DataW.agg.injEq, List.cons.injEq, DataW.lit.injEq, Lit.int.injEq, Lit.string.injEq, Lit.bool.injEq, true_and, and_true] at h
 obtain ⟨h1, h2, h3, h4, h5, h6, h7, h8⟩ := h
 have e5 := slqD_inj h5
 have e6 := slqD_inj h6
 have e7 := slqD_inj h7
 subst h1
 subst h2
 subst h3
 subst h4
 subst e5
 subst e6
 subst e7
 subst h8
 rfl
theorem kpElem_inv {v : Value} {k : KpV} {ps : List MemPlace} (h : kpElem v = some (kpD k, ps)) : v = kpV k := by
 unfold kpElem at h
 split at h
 ·rename_i cs
  cases hl : kpOfL cs.toList with
  |none => rw [hl] at h; cases h
  |some e' =>
   rw [hl] at h
   simp only [Option.map_some, Option.some.injEq, Prod.mk.injEq] at h
   have := kpD_inj h.1
   subst this
   have h2 := kpOfL_inv hl
   unfold kpV
   congr 1
   exact Array.toList_inj.1 h2
 ·cases h
end Que
end Go.Proofs.YtcleakjjefmmbaaGreat

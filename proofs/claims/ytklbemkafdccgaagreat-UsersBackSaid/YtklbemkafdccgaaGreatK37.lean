/- Several texts in one: EnGood, EnRight. -/
import Derived.Test.YtklbemkafdccgaaGreatEnMem
import Derived.Test.YtklbemkafdccgaaGreatK14
import Derived.Test.YtklbemkafdccgaaGreatK02
import Derived.Shelf.Abstract
/- envel.goodEnv, envel.Good. -/
namespace Go.Proofs.YtklbemkafdccgaaGreat
open Go.RowKit
namespace Env
open Adr (good_any goodB)
open Mbx (Reads intElem intElem_inv intD upd)
open Go.Maps
theorem intKeyed' : Keyed Tryz.prog 3 := int_keyed Tryz.underlying3
theorem zeroInt_run' (w : World) : (zeroValue 3).run Tryz.prog w = .ok (.int .i64 0) w := by kernel_rfl
/-- a map from numbers to numbers -/
def MMap (w : World) (b n : Nat) (f : Int → Option Int) : Prop := ∃ D, w.ownsMap Tryz.prog 3 intElem b n D ∧ Reads D f intD
theorem MMap.keeps {w w' : World} {b n : Nat} {f : Int → Option Int} (h : MMap w b n f) (k : Keeps w w') : MMap w' b n f := by
 obtain ⟨D, ⟨es, clock, hb, r⟩, h2⟩ := h
 exact ⟨D, ⟨es, clock, by rw [k.block (Array.getElem?_eq_some_iff.1 hb).1]; exact hb, r⟩, h2⟩
theorem MMap.lt {w : World} {b n : Nat} {f : Int → Option Int} (h : MMap w b n f) : b < w.heap.size := let ⟨_, h1, _⟩ := h; h1.lt
theorem MMap.look {w : World} {b n : Nat} {f : Int → Option Int} (h : MMap w b n f) {x : Int} (hx : (Lit.int .i64 x).wf = true) :
  (Instr.lookup 118 (.map (some b)) (.int .i64 x) false).run Tryz.prog w = .ok (.int .i64 ((f x).getD 0)) w := by
 obtain ⟨D, h1, h2⟩ := h
 obtain ⟨v, ps, hrun, hv⟩ := h1.lookup intKeyed' Tryz.underlying118 (zeroInt_run' w) (zd := intD 0) (zp := []) rfl (keyOf_int_mk Tryz.underlying3 hx)
 rw [h2.at_] at hv
 rw [hrun, intElem_inv hv]
theorem MMap.put {w : World} {b n : Nat} {f : Int → Option Int} (h : MMap w b n f) (hn : n < 1000000) {x : Int} (y : Int) (hx : (Lit.int .i64 x).wf = true) : ∃ w', (Instr.mapUpdate 118 (.map (some b)) (.int .i64 x) (.int .i64 y)).run Tryz.prog w = .ok () w' ∧ MMap w' b (n + 1) (upd f x y) ∧ Mods (· = b) w w' := by
 obtain ⟨D, h1, h2⟩ := h
 obtain ⟨w', hrun, ho, ht⟩ := h1.store intKeyed' Tryz.underlying118 (by unfold maxLen; omega) (val := .int .i64 y) (d := intD y) (ps := []) (keyOf_int_mk Tryz.underlying3 hx) rfl
 exact ⟨w', hrun, ⟨_, ho, h2.put x y⟩, (Mods.refl (· = b) w).grown ht.grown (fun k hk _ => by cases hk; rfl)⟩
/-- how often a user was seen -/
def Cnt (f : Int → Option Int) (p : List Int) : Prop := ∀ x, (f x).getD 0 = if x ∈ p then 1 else 0
theorem Cnt.put {f : Int → Option Int} {p : List Int} (h : Cnt f p) {u : Int} (hu : u ∉ p) : Cnt (upd f u 1) (u :: p) := by
 intro x
 by_cases hx : x = u
 ·subst hx
  simp [Mbx.upd_same]
 ·rw [Mbx.upd_other _ _ hx, h x]
  simp [hx]
end Env
end Go.Proofs.YtklbemkafdccgaaGreat

/- slices.ContainsFunc over states; envel.Good, envel.Done; ref15.env. -/
namespace Go.Proofs.YtklbemkafdccgaaGreat
open Go.RowKit
namespace Env
open Adr (goodB)
def doneB (j : JobP) : Bool := !j.st.any (fun x => decide (x.s = 0))
end Env
end Go.Proofs.YtklbemkafdccgaaGreat

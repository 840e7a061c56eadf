/- Maps of names in memory. -/
import Derived.Test.YtcleakjjefmmbaaGreatK00
import Derived.Test.YtcleakjjefmmbaaGreatK02
import Derived.Test.YtcleakjjefmmbaaGreatRows
import Derived.Maps.RangeWalk
import Derived.StringKeys
import Derived.Sort.KeysCollected
namespace Go.Proofs.YtcleakjjefmmbaaGreat
open Go.RowKit
namespace Vd
open Go.Maps
open Mbx (intD intElem intElem_inv)

theorem strKeyed : Keyed Tryz.prog 9 := string_keyed Tryz.underlying9
theorem zeroInt_run (w : World) : (zeroValue 3).run Tryz.prog w = .ok (.int .i64 0) w := by kernel_rfl
/-- a map's datum reads as a list of names -/
def ReadsN (D : DataW Unit) (l : Nms) : Prop := IsMap D ∧ AscN l ∧ ∀ x : Str, has D (.string x) = (look l x).isSome ∧ ∀ i, look l x = some i → ∀ z, D.atKey (.string x) z = intD (i : Int)
theorem isKeyStr (x : Str) : WideAt.IsKeyLit (.string x) := by simp [WideAt.IsKeyLit]
theorem readsN_new : ReadsN (.map []) [] := ⟨isMap_empty, List.Pairwise.nil, fun _ => ⟨rfl, fun _ h => by simp [look] at h⟩⟩
theorem ReadsN.put {D : DataW Unit} {l : Nms} (h : ReadsN D l) (x : Str) (i : Nat) : ReadsN (D.put (.string x) (intD (i : Int))) (putN l x i) := by
 refine ⟨h.1.put _ _, ascN_put h.2.1 _ _, fun y => ?_⟩
 rw [look_put h.2.1]
 by_cases hy : y = x
 ·subst hy
  rw [has_put_same h.1 (isKeyStr y), if_pos rfl]
  exact ⟨rfl, fun u hu z => by cases hu; exact atKey_put_same h.1 (isKeyStr y) _ _⟩
 ·have hne : (Lit.string y) ≠ .string x := by simp [hy]
  rw [has_put_other hne, if_neg hy]
  exact ⟨(h.2.2 y).1, fun u hu z => by rw [atKey_put_other hne]; exact (h.2.2 y).2 u hu z⟩
theorem ReadsN.at_ {D : DataW Unit} {l : Nms} (h : ReadsN D l) (x : Str) : D.atKey (.string x) (intD 0) = intD (((look l x).getD 0 : Nat) : Int) := by
 cases e : look l x with
 |some v => exact (h.2.2 x).2 v e _
 |none => exact atKey_of_not_has (by rw [(h.2.2 x).1, e]; rfl) _
theorem ReadsN.size {P : Program} {k : TypeId} {R : Value → Option (DataW Unit × List MemPlace)} {w : World} {b n : Nat} {D : DataW Unit} {l : Nms} (h : ReadsN D l) (ho : w.ownsMap P k R b n D) (K : Keyed P k) (hk : P.underlying k = some .string) : Maps.size D = l.length := by
 have hnd : (l.map (·.1)).Nodup := List.pairwise_map.2 (h.2.1.imp fun {a b} hab => str_ne hab)
 have hc : Collected D (fun _ => false) (l.map (·.1)) := ⟨hnd, fun x => by
  rw [(h.2.2 x).1]
  simp only [and_true]
  cases e : look l x with
  |none =>
   rw [look_none] at e
   simp only [List.mem_map]
   constructor
   ·rintro ⟨p, hp, rfl⟩; exact absurd rfl (e p hp)
   ·intro hh; cases hh
  |some i =>
   have := (look_mem h.2.1).1 e
   simp only [Option.isSome_some, iff_true]
   exact List.mem_map.2 ⟨_, this, rfl⟩⟩
 have hp := (hc.perm ho K hk (fun _ => rfl)).length_eq
 obtain ⟨es, rfl⟩ := h.1
 simp [strKeys, Maps.size] at hp ⊢
 omega
/-- a map of names at a block -/
def NamesAt (w : World) (b n : Nat) (l : Nms) : Prop := ∃ D, w.ownsMap Tryz.prog 9 intElem b n D ∧ ReadsN D l
section
variable {w w' : World} {b n : Nat} {l : Nms}
theorem map_keepsS {R : Value → Option (DataW Unit × List MemPlace)} {D : DataW Unit} (h : w.ownsMap Tryz.prog 9 R b n D) (k : Keeps w w') : w'.ownsMap Tryz.prog 9 R b n D := by
 obtain ⟨es, clock, hb, r⟩ := h
 exact ⟨es, clock, by rw [k.block (Array.getElem?_eq_some_iff.1 hb).1]; exact hb, r⟩
theorem map_modsS {R : Value → Option (DataW Unit × List MemPlace)} {D : DataW Unit} {S : Nat → Prop} (h : w.ownsMap Tryz.prog 9 R b n D) (k : Mods S w w') (hn : ¬ S b) : w'.ownsMap Tryz.prog 9 R b n D := by
 obtain ⟨es, clock, hb, r⟩ := h
 exact ⟨es, clock, k.heap hb hn, r⟩
theorem NamesAt.keeps (h : NamesAt w b n l) (k : Keeps w w') : NamesAt w' b n l := let ⟨D, h1, h2⟩ := h; ⟨D, map_keepsS h1 k, h2⟩
theorem NamesAt.mods {S : Nat → Prop} (h : NamesAt w b n l) (k : Mods S w w') (hn : ¬ S b) : NamesAt w' b n l := let ⟨D, h1, h2⟩ := h; ⟨D, map_modsS h1 k hn, h2⟩
theorem NamesAt.mono (h : NamesAt w b n l) {n' : Nat} (hn : n ≤ n') : NamesAt w b n' l := let ⟨D, h1, h2⟩ := h; ⟨D, h1.mono hn, h2⟩
theorem NamesAt.lt (h : NamesAt w b n l) : b < w.heap.size := let ⟨_, h1, _⟩ := h; h1.lt
theorem NamesAt.asc (h : NamesAt w b n l) : AscN l := let ⟨_, _, h2⟩ := h; h2.2.1
theorem keyS {x : Str} (hx : x.length ≤ maxLen) : keyOf Tryz.prog 9 (.string (bstr x)) = some (.string x) := by
 have := Go.WideMaps.keyOf_string_mk (P := Tryz.prog) (k := 9) Tryz.underlying9 (s := bstr x) (by rw [bstr_size]; exact hx)
 rw [this]
 simp [bstr]
theorem NamesAt.look_ok (h : NamesAt w b n l) {x : Str} (hx : x.length ≤ maxLen) :
  (Instr.lookup 83 (.map (some b)) (.string (bstr x)) true).run Tryz.prog w = .ok (.tuple #[.int .i64 (((look l x).getD 0 : Nat) : Int), .bool (look l x).isSome]) w := by
 obtain ⟨D, h1, h2⟩ := h
 obtain ⟨v, ps, hrun, hv⟩ := h1.look_ok strKeyed Tryz.underlying83 (zeroInt_run w) (zd := intD 0) (zp := []) rfl (keyS hx)
 rw [h2.at_] at hv
 rw [hrun, intElem_inv hv, (h2.2.2 x).1]
theorem turned_modsS {b : Nat} (h : w.mapTurned w' b) : Mods (· = b) w w' := (Mods.refl (· = b) w).grown h.grown (fun k hk _ => by cases hk; rfl)
theorem NamesAt.put (h : NamesAt w b n l) (hn : n < 1000000) {x : Str} (hx : x.length ≤ maxLen) (i : Nat) : ∃ w', (Instr.mapUpdate 83 (.map (some b)) (.string (bstr x)) (.int .i64 (i : Int))).run Tryz.prog w = .ok () w' ∧ NamesAt w' b (n + 1) (putN l x i) ∧ Mods (· = b) w w' := by
 obtain ⟨D, h1, h2⟩ := h
 obtain ⟨w', hrun, ho, ht⟩ := h1.store strKeyed Tryz.underlying83 (by unfold maxLen; omega) (val := .int .i64 (i : Int)) (d := intD (i : Int)) (ps := []) (keyS hx) rfl
 exact ⟨w', hrun, ⟨_, ho, h2.put x i⟩, turned_modsS ht⟩
theorem NamesAt.len (h : NamesAt w b n l) (ty : TypeId) : (Builtin.len_ #[83] ty #[.map (some b)]).run Tryz.prog w = .ok (.int .i64 (l.length : Int)) w := by
 obtain ⟨D, h1, h2⟩ := h
 rw [h1.len Tryz.underlying83, h2.size h1 strKeyed Tryz.underlying9]
theorem NamesAt.new (w : World) : NamesAt (w.alloc (.map #[] 0)) w.heap.size 0 [] := ⟨_, World.ownsMap_made w Tryz.prog _ _, readsN_new⟩
end
end Vd
end Go.Proofs.YtcleakjjefmmbaaGreat

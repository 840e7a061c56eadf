/- Whole structs in memory: loads and stores of them in one step. For every program. -/
import Derived.Test.YtcleakjjefmmbaaGreatK02
import Derived.Deep.MidRow
namespace Go.Proofs.YtcleakjjefmmbaaGreat
open Go.RowKit

theorem setCells_all {b : Nat} {t : TypeId} : ∀ (vs : List Value) (o : Nat) (w : World) (cs : Array Value), Blk w b t cs → ∃ ds, Blk (w.setCells b o vs) b t ds ∧ ds.size = cs.size ∧ ∀ j, ds[j]? = if o ≤ j ∧ j < o + vs.length ∧ j < cs.size then vs[j - o]? else cs[j]?
 | [], o, w, cs, h => ⟨cs, h, rfl, fun j => by rw [if_neg (by simp; omega)]⟩
 |v :: vs, o, w, cs, h => by
  obtain ⟨ds, hB, hs, hj⟩ := setCells_all vs (o + 1) _ _ (h.set_ o v)
  rw [Array.size_setIfInBounds] at hs
  refine ⟨ds, hB, hs, fun j => ?_⟩
  rw [hj, Array.getElem?_setIfInBounds, Array.size_setIfInBounds, List.length_cons]
  by_cases h1 : j < o
  ·rw [if_neg (by omega), if_neg (by omega), if_neg (by omega)]
  ·by_cases h2 : o = j
   ·subst h2
    rw [if_neg (by omega), if_pos rfl]
    by_cases h3 : o < cs.size
    ·rw [if_pos h3, if_pos (by omega)]; simp
    ·rw [if_neg h3, if_neg (by omega), Array.getElem?_eq_none (by omega)]
   ·by_cases h3 : j < o + 1 + vs.length ∧ j < cs.size
    ·rw [if_pos (by omega), if_pos (by omega)]
     rw [show j - o = (j - (o + 1)) + 1 from by omega, List.getElem?_cons_succ]
    ·rw [if_neg (by omega), if_neg (by omega), if_neg (by omega)]
theorem setCells_new {b : Nat} {t : TypeId} {cs ds : Array Value} {w : World} (h : Blk w b t cs) (hs : cs.size = ds.size) : Blk (w.setCells b 0 ds.toList) b t ds := by
 obtain ⟨d, hB, hs', hj⟩ := setCells_all ds.toList 0 w cs h
 have : d = ds := by
  apply Array.ext_getElem?
  intro j
  rw [hj, Nat.sub_zero, Array.length_toList]
  by_cases hl : j < ds.size
  ·rw [if_pos (by omega)]; simp
  ·rw [if_neg (by omega), Array.getElem?_eq_none (by omega), Array.getElem?_eq_none (by omega)]
 rwa [this] at hB

theorem Blk.range {w : World} {b : Nat} {t : TypeId} {cs : Array Value} (h : Blk w b t cs) : w.rangeAt b 0 cs.toList := fun j v hv => by
 rw [h.cell, Nat.zero_add]
 simpa using hv
theorem Blk.there {w : World} {b : Nat} {t : TypeId} {cs ds : Array Value} (h : Blk w b t cs) (hs : ds.size = cs.size) : w.there b 0 ds.size := fun j hj => ⟨by rw [h.cell, Nat.zero_add, Array.getElem?_eq_getElem (by omega)]; rfl, h.frozen _⟩


theorem setCells_mods {b : Nat} : ∀ (vs : List Value) (o : Nat) (W w : World), Mods (· = b) W w → Mods (· = b) W (w.setCells b o vs)
 | [], _, _, _, h => h
 |v :: vs, o, W, w, h => setCells_mods vs (o + 1) W _ (h.setCell (p := ⟨b, o, none⟩) (fun _ => rfl) v)

/-- a struct's (or array's) type of so many cells -/
structure Mids (P : Program) (t : TypeId) (n : Nat) : Prop where
 u : ∃ d, P.underlying t = some d ∧ d.isRow = true
 i : (P.info? t).map (·.size) = some n
section
variable {P : Program} {t t' : TypeId} {b : Nat} {cs ds : Array Value} {w : World}
theorem ld_run (m : Mids P t cs.size) (h : Blk w b t' cs) : (loadVar t ⟨b, 0, none⟩).run P w = .ok (.agg cs) w := by
 obtain ⟨d, hd, hr⟩ := m.u
 have := run_loadVar_mid (P := P) w b 0 t cs.toList d h.range hd hr (by rw [m.i, Array.length_toList])
 rwa [Array.toArray_toList] at this
theorem wpList_ld {ops : Array Oper} {rest : List Oper} {op : Oper} {a : Act} {Q : Exit → Act → World → Prop} (hgd : op.guard = none) (m : Mids P t cs.size) (h : Blk w b t' cs) (x : Operand) (ho : op.op = .load t x) (hx : a.eval x = .pointer (some ⟨b, 0, none⟩))
  (k : wpList P ops Q rest (a.put op.dst (.agg cs)) w) : wpList P ops Q (op :: rest) a w := by
 obtain ⟨d, hd, hr⟩ := m.u
 refine wpList_load_mid hgd t x ho b 0 hx cs.toList d h.range hd hr (by rw [m.i, Array.length_toList]) ?_
 rw [Array.toArray_toList]
 exact k
theorem wpList_ldR {ops : Array Oper} {rest : List Oper} {op : Oper} {a : Act} {Q : Exit → Act → World → Prop} {o : Nat} {l : List Value} (hgd : op.guard = none) (m : Mids P t l.length) (h : w.rangeAt b o l) (x : Operand) (ho : op.op = .load t x) (hx : a.eval x = .pointer (some ⟨b, o, none⟩))
  (k : wpList P ops Q rest (a.put op.dst (.agg l.toArray)) w) : wpList P ops Q (op :: rest) a w := by
 obtain ⟨d, hd, hr⟩ := m.u
 exact wpList_load_mid hgd t x ho b o hx l d h hd hr m.i k
theorem wpList_st {ops : Array Oper} {rest : List Oper} {op : Oper} {a : Act} {Q : Exit → Act → World → Prop} (hgd : op.guard = none) (m : Mids P t ds.size) (h : Blk w b t' cs) (hs : cs.size = ds.size) (h1 : ds.all (·.oneCell') = true) (x y : Operand) (ho : op.op = .store t x y) (hdst : op.dst = none)
  (hx : a.eval x = .pointer (some ⟨b, 0, none⟩)) (hy : a.eval y = .agg ds) (k : ∀ w', Blk w' b t' ds → Mods (· = b) w w' → wpList P ops Q rest a w') : wpList P ops Q (op :: rest) a w := by
 refine wpList_store_mid hgd t x y ho b 0 ds hx hy (h.there hs.symm) m.i h1 ?_
 rw [hdst]
 exact k _ (setCells_new h hs) (setCells_mods _ _ _ _ (Mods.refl _ _))
theorem step_st {ops : Array Oper} {op : Oper} {a : Act} {K : Act → World → Prop} {Q : Exit → Act → World → Prop} {E : Prop} (hgd : op.guard = none) (m : Mids P t ds.size) (h : Blk w b t' cs) (hs : cs.size = ds.size) (h1 : ds.all (·.oneCell') = true) (x y : Operand) (ho : op.op = .store t x y) (hdst : op.dst = none)
  (hx : a.eval x = .pointer (some ⟨b, 0, none⟩)) (hy : a.eval y = .agg ds) (k : ∀ w', Blk w' b t' ds → Mods (· = b) w w' → K a w') : if Region.wanted op (yielded ops a.tmps) = true then Oper.wp P op a w K Q else E := by
 have hw : Region.wanted op (yielded ops a.tmps) = true := by simp [Region.wanted, hgd]
 rw [if_pos hw]
 refine wp_store_mid t x y ho b 0 ds hx hy (h.there hs.symm) m.i h1 ?_
 rw [hdst]
 exact k _ (setCells_new h hs) (setCells_mods _ _ _ _ (Mods.refl _ _))
/-- in a region that draws -/
theorem yieldsIf_ld {ops : Array Oper} {S : World → Prop} {op : Oper} {a : Act} (hw : Region.wanted op (yielded ops a.tmps) = true) (m : Mids P t cs.size) (hS : ∀ w, S w → Blk w b t' cs) (x : Operand) (ho : op.op = .load t x) (hx : a.eval x = .pointer (some ⟨b, 0, none⟩)) : YieldsIf P ops S op (.agg cs) a := by
 obtain ⟨d, hd, hr⟩ := m.u
 have := yieldsIf_load_mid (P := P) hw t x ho b 0 hx cs.toList d (fun w h => (hS w h).range) hd hr (by rw [m.i, Array.length_toList])
 rwa [Array.toArray_toList] at this
end
end Go.Proofs.YtcleakjjefmmbaaGreat

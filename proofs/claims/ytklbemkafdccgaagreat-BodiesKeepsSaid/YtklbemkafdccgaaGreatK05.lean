/- Several texts in one: UsMem, UsTab. -/
import Derived.Test.YtklbemkafdccgaaGreatMapList
import Derived.Test.YtklbemkafdccgaaGreatK00
import Derived.Test.YtklbemkafdccgaaGreatK02
import Derived.Test.YtklbemkafdccgaaGreatMid
import Derived.Test.YtklbemkafdccgaaGreatRows
/- users: a table in memory, its two maps. -/
namespace Go.Proofs.YtklbemkafdccgaaGreat
open Go.RowKit
namespace Mp
/-- a slice's value: where it begins, how long, with which room -/
structure SlP where
 p : Option (Nat × Nat)
 n : Nat
 c : Nat
def SlP.v (s : SlP) : Value := .slice (s.p.map fun x => ⟨x.1, x.2, none⟩) s.n s.c
def litN (n : Nat) : DataW Unit := .lit (.int .i64 (n : Int))
def slD (s : SlP) : DataW Unit := .agg (litN s.n :: litN s.c :: (match s.p with | none => [] | some x => [litN x.1, litN x.2]))
theorem slD_inj {a b : SlP} (h : slD a = slD b) : a = b := by
 obtain ⟨p, n, c⟩ := a
 obtain ⟨q, m, d⟩ := b
 cases p <;> cases q <;> simp [slD, litN] at h
 ·obtain ⟨h1, h2⟩ := h
  have e1 : n = m := by omega
  have e2 : c = d := by omega
  subst e1; subst e2; rfl
 ·rename_i x y
  obtain ⟨h1, h2, h3, h4⟩ := h
  have e1 : n = m := by omega
  have e2 : c = d := by omega
  have e3 : x.1 = y.1 := by omega
  have e4 : x.2 = y.2 := by omega
  subst e1; subst e2
  rw [Prod.ext e3 e4]
def slOf : Value → Option SlP
 | .slice none n c => some ⟨none, n, c⟩
 | .slice (some ⟨b, o, none⟩) n c => some ⟨some (b, o), n, c⟩
 | _ => none
theorem slOf_mk (s : SlP) : slOf s.v = some s := by
 obtain ⟨p, n, c⟩ := s
 cases p <;> rfl
theorem slOf_inv {v : Value} {s : SlP} (h : slOf v = some s) : v = s.v := by
 unfold slOf at h
 split at h
 ·cases h; rfl
 ·cases h; rfl
 ·cases h
end Mp
namespace Usr
open Adr (Str)
open Mp Go.Maps
def usrA (u : UsrP) : Array Value := #[.int .i64 u.n, .string (bstr u.name), .int .i64 u.lb, .int .i64 u.lc]
def usrV (u : UsrP) : Value := .agg (usrA u)
def usrD (u : UsrP) : DataW Unit := .agg [.lit (.int .i64 u.n), .lit (.string u.name), .lit (.int .i64 u.lb), .lit (.int .i64 u.lc)]
def zeroU : UsrP := ⟨0, [], 0, 0⟩
def usrOfL : List Value → Option UsrP
 | [.int .i64 a, .string s, .int .i64 b, .int .i64 c] => some ⟨a, s.data.toList, b, c⟩
 | _ => none
theorem usrOfL_inv {l : List Value} {e : UsrP} (h : usrOfL l = some e) : l = [.int .i64 e.n, .string (bstr e.name), .int .i64 e.lb, .int .i64 e.lc] := by
 unfold usrOfL at h
 split at h
 ·cases h
  simp only [bstr_list]
 ·cases h
def usrElem (v : Value) : Option (DataW Unit × List MemPlace) :=
 match v with
 | .agg cs => (usrOfL cs.toList).map fun e => (usrD e, [])
 | _ => none
theorem usrElem_mk (u : UsrP) : usrElem (usrV u) = some (usrD u, []) := by
 unfold usrElem usrV usrA
 simp [usrOfL, bstr]
theorem usrD_inj {a b : UsrP} (h : usrD a = usrD b) : a = b := by
 cases a; cases b
 simp [usrD] at h
 simp [h]
theorem usrElem_inv {v : Value} {u : UsrP} {ps : List MemPlace} (h : usrElem v = some (usrD u, ps)) : v = usrV u := by
 unfold usrElem at h
 split at h
 ·rename_i cs
  cases hl : usrOfL cs.toList with
  |none => rw [hl] at h; cases h
  |some e' =>
   rw [hl] at h
   simp only [Option.map_some, Option.some.injEq, Prod.mk.injEq] at h
   have := usrD_inj h.1
   subst this
   have h2 := usrOfL_inv hl
   unfold usrV
   congr 1
   apply Array.toList_inj.1
   rw [h2]
   rfl
 ·cases h
/-- an alias as it stands in the map -/
structure AlV where
 name : Str
 s : SlP
def alV (a : AlV) : Value := .agg #[.string (bstr a.name), a.s.v]
def alD (a : AlV) : DataW Unit := .agg [.lit (.string a.name), slD a.s]
def zeroA : AlV := ⟨[], ⟨none, 0, 0⟩⟩
def alOfL : List Value → Option AlV
 | [.string s, v] => (slOf v).map fun x => ⟨s.data.toList, x⟩
 | _ => none
def alElem (v : Value) : Option (DataW Unit × List MemPlace) :=
 match v with
 | .agg cs => (alOfL cs.toList).map fun e => (alD e, [])
 | _ => none
theorem alElem_mk (a : AlV) : alElem (alV a) = some (alD a, []) := by
 unfold alElem alV
 simp [alOfL, slOf_mk, bstr]
theorem alD_inj {a b : AlV} (h : alD a = alD b) : a = b := by
 cases a; cases b
 simp [alD] at h
 have := slD_inj h.2
 simp [h.1, this]
theorem alElem_inv {v : Value} {a : AlV} {ps : List MemPlace} (h : alElem v = some (alD a, ps)) : v = alV a := by
 unfold alElem at h
 split at h
 ·rename_i cs
  cases hl : alOfL cs.toList with
  |none => rw [hl] at h; cases h
  |some e' =>
   rw [hl] at h
   simp only [Option.map_some, Option.some.injEq, Prod.mk.injEq] at h
   have := alD_inj h.1
   subst this
   unfold alOfL at hl
   split at hl
   ·rename_i hl2
    rw [Option.map_eq_some_iff] at hl
    obtain ⟨x, hx, rfl⟩ := hl
    have h3 := slOf_inv hx
    unfold alV
    congr 1
    apply Array.toList_inj.1
    rw [hl2, h3]
    simp only [bstr_list]
   ·cases hl
 ·cases h
theorem strKeyed : Keyed Tryz.prog 9 := string_keyed Tryz.underlying9
theorem zeroU_run (w : World) : (zeroValue 42).run Tryz.prog w = .ok (usrV zeroU) w := by kernel_rfl
theorem zeroA_run (w : World) : (zeroValue 108).run Tryz.prog w = .ok (alV zeroA) w := by kernel_rfl
theorem key_str {s : Str} (hs : s.length ≤ maxLen) : keyOf Tryz.prog 9 (.string (bstr s)) = some (.string s) := by
 simp [keyOf, Tryz.underlying9, mapKey, bstr_size, hs]
 rfl
abbrev strL : Str → Lit := fun s => Lit.string s
def strV (s : Str) : Value := .string (bstr s)
/-- aliases in memory: their slices -/
abbrev AlX := AlP × SlP
def alE (x : AlX) : Str × AlV := (x.1.name, ⟨x.1.name, x.2⟩)
structure TabAt (w : World) (g b1 b2 n : Nat) (t : TabP) : Prop where
 blk : Blk w g 84 #[.string (bstr t.dom), .int .i64 t.next, .map (some b1), .map (some b2)]
 us : ∃ D : DataW Unit, w.ownsMap Tryz.prog 9 usrElem b1 n D ∧ MapOf strL usrD D (t.us.map fun u => (u.name, u))
 al : ∃ (D : DataW Unit) (av : List AlX), w.ownsMap Tryz.prog 9 alElem b2 n D ∧ MapOf strL alD D (av.map alE) ∧ av.map (·.1) = t.al ∧ ∀ x ∈ av, Piece w 0 9 x.2.v (x.1.tos.map strV)
 d12 : b1 ≠ b2
end Usr
end Go.Proofs.YtklbemkafdccgaaGreat

/- users: what is done with a table's maps, in memory. -/
namespace Go.Proofs.YtklbemkafdccgaaGreat
open Go.RowKit
namespace Usr
open Adr (Str)
open Mp Go.Maps
def findU (t : TabP) (name : Str) : Option UsrP := t.us.find? fun u => decide (u.name = name)
theorem look_us (t : TabP) (name : Str) : Mp.look (t.us.map fun u => (u.name, u)) name = findU t name := by
 unfold Mp.look findU
 rw [List.find?_map, Option.map_map]
 simp [Function.comp_def]
theorem putL_perm {u : UsrP} (b c : Int) : ∀ (us : List UsrP), u ∈ us → (us.map (·.name)).Nodup → (Mp.putL (us.map fun u => (u.name, u)) u.name { u with lb := b, lc := c }).Perm ((us.map fun x => if x.name = u.name then { x with lb := b, lc := c } else x).map fun u => (u.name, u))
 | [], hu, _ => by simp at hu
 |y :: l, hu, hnd => by
  have ih := putL_perm (u := u) b c l
  unfold Mp.putL Mp.del at ih ⊢
  simp only [List.map_cons, List.nodup_cons] at hnd
  rw [List.map_cons, List.map_cons, List.map_cons, List.filter_cons]
  by_cases hy : y.name = u.name
  ·have hyu : y = u := by
    rcases List.mem_cons.1 hu with e | e
    ·exact e.symm
    ·exact absurd (List.mem_map.2 ⟨u, e, hy.symm⟩) hnd.1
   subst hyu
   have hid : (l.map fun x => if x.name = y.name then { x with lb := b, lc := c } else x) = l := by
    conv => rhs; rw [← List.map_id l]
    refine List.map_congr_left (fun x hx => ?_)
    have : x.name ≠ y.name := fun e => hnd.1 (List.mem_map.2 ⟨x, hx, e⟩)
    simp [this]
   have hf : ((l.map fun u => (u.name, u)).filter fun p => decide (p.1 ≠ y.name)) = l.map fun u => (u.name, u) := by
    rw [List.filter_eq_self]
    intro p hp
    obtain ⟨x, hx, rfl⟩ := List.mem_map.1 hp
    simp only [ne_eq, decide_eq_true_eq]
    exact fun e => hnd.1 (List.mem_map.2 ⟨x, hx, e⟩)
   rw [hid, hf]
   simp only [ne_eq, not_true_eq_false, decide_false, if_true]
   exact List.perm_append_comm (l₂ := [_])
  ·have hul : u ∈ l := by
    rcases List.mem_cons.1 hu with e | e
    ·exact absurd (by rw [e]) hy
    ·exact e
   have ih := ih hul hnd.2
   simp only [ne_eq, hy, not_false_eq_true, decide_true, if_true, if_false, List.cons_append]
   exact ih.cons _
theorem map_keepsS {w w' : World} {R : Value → Option (DataW Unit × List MemPlace)} {k : TypeId} {b n : Nat} {D : DataW Unit} (h : w.ownsMap Tryz.prog k R b n D) (hk : Keeps w w') : w'.ownsMap Tryz.prog k R b n D := by
 obtain ⟨es, clock, hb, r⟩ := h
 exact ⟨es, clock, by rw [hk.block (Array.getElem?_eq_some_iff.1 hb).1]; exact hb, r⟩
theorem map_modsS {w w' : World} {R : Value → Option (DataW Unit × List MemPlace)} {k : TypeId} {b n : Nat} {D : DataW Unit} {S : Nat → Prop} (h : w.ownsMap Tryz.prog k R b n D) (hk : Mods S w w') (hn : ¬ S b) : w'.ownsMap Tryz.prog k R b n D := by
 obtain ⟨es, clock, hb, r⟩ := h
 exact ⟨es, clock, hk.heap hb hn, r⟩
theorem map_obj {w : World} {R : Value → Option (DataW Unit × List MemPlace)} {k : TypeId} {b n : Nat} {D : DataW Unit} (h : w.ownsMap Tryz.prog k R b n D) : ∃ es clock, w.heap[b]? = some (.map es clock) := let ⟨es, clock, hb, _⟩ := h; ⟨es, clock, hb⟩
theorem turnedS {w w' : World} {b : Nat} (h : w.mapTurned w' b) : Mods (· = b) w w' := (Mods.refl (· = b) w).grown h.grown (fun k hk _ => by cases hk; rfl)
section
variable {w w' : World} {g b1 b2 n : Nat} {t : TabP}
theorem TabAt.keeps (h : TabAt w g b1 b2 n t) (k : Keeps w w') : TabAt w' g b1 b2 n t := by
 obtain ⟨D, h1, h2⟩ := h.us
 obtain ⟨E, av, h3, h4, h5, h6⟩ := h.al
 exact ⟨h.blk.keeps k, ⟨D, map_keepsS h1 k, h2⟩, ⟨E, av, map_keepsS h3 k, h4, h5, fun x hx => (h6 x hx).keeps k⟩, h.d12⟩
theorem TabAt.ne1 (h : TabAt w g b1 b2 n t) : b1 ≠ g := by
 obtain ⟨D, h1, h2⟩ := h.us
 obtain ⟨es, c, hb⟩ := map_obj h1
 intro e
 have hg := h.blk
 unfold Blk at hg
 rw [← e, hb] at hg
 cases hg
theorem TabAt.ne2 (h : TabAt w g b1 b2 n t) : b2 ≠ g := by
 obtain ⟨D, av, h1, h2⟩ := h.al
 obtain ⟨es, c, hb⟩ := map_obj h1
 intro e
 have hg := h.blk
 unfold Blk at hg
 rw [← e, hb] at hg
 cases hg
theorem TabAt.lt (h : TabAt w g b1 b2 n t) : g < w.heap.size ∧ b1 < w.heap.size ∧ b2 < w.heap.size := by
 obtain ⟨D, h1, h2⟩ := h.us
 obtain ⟨E, av, h3, -⟩ := h.al
 exact ⟨h.blk.lt, h1.lt, h3.lt⟩
theorem TabAt.mono (h : TabAt w g b1 b2 n t) {n' : Nat} (hn : n ≤ n') : TabAt w g b1 b2 n' t := by
 obtain ⟨D, h1, h2⟩ := h.us
 obtain ⟨E, av, h3, h4⟩ := h.al
 exact ⟨h.blk, ⟨D, h1.mono hn, h2⟩, ⟨E, av, h3.mono hn, h4⟩, h.d12⟩
/-- other blocks were written, none of texts -/
theorem TabAt.mods {S : Nat → Prop} (h : TabAt w g b1 b2 n t) (k : Mods S w w') (h0 : ¬ S g) (h1 : ¬ S b1) (h2 : ¬ S b2) (hs : ∀ x, S x → ∀ cs fr, w.heap[x]? ≠ some (.cells cs 9 fr)) : TabAt w' g b1 b2 n t := by
 obtain ⟨D, a1, a2⟩ := h.us
 obtain ⟨E, av, h3, h4, h5, h6⟩ := h.al
 exact ⟨h.blk.mods k h0, ⟨D, map_modsS a1 k h1, a2⟩, ⟨E, av, map_modsS h3 k h2, h4, h5, fun x hx => (h6 x hx).modsT k hs⟩, h.d12⟩
theorem TabAt.lookU (h : TabAt w g b1 b2 n t) {name : Str} (hl : name.length ≤ maxLen) :
  (Instr.lookup 81 (.map (some b1)) (.string (bstr name)) true).run Tryz.prog w = .ok (.tuple #[usrV ((findU t name).getD zeroU), .bool (findU t name).isSome]) w := by
 obtain ⟨D, h1, h2⟩ := h.us
 obtain ⟨v, ps, hrun, hv⟩ := h1.look_ok strKeyed Tryz.underlying81 (zeroU_run w) (usrElem_mk zeroU) (key_str hl)
 have hat := h2.at_ strKind name zeroU
 have hh := h2.has strKind name
 rw [look_us] at hat hh
 rw [show D.atKey (Lit.string name) (usrD zeroU) = _ from hat] at hv
 rw [hrun, usrElem_inv hv, show Maps.has D (Lit.string name) = _ from hh]
theorem names_av {av : List AlX} {t : TabP} (h : av.map (·.1) = t.al) : (av.map alE).map (·.1) = namesA t := by
 unfold namesA
 rw [← h, List.map_map, List.map_map]
 rfl
theorem look_plain {w : World} {R : Value → Option (DataW Unit × List MemPlace)} {k t e : TypeId} {b n : Nat} {D : DataW Unit} (h : w.ownsMap Tryz.prog k R b n D) (K : Keyed Tryz.prog k) (ht : Tryz.prog.underlying t = some (.map k e)) {z : Value} (hz : (zeroValue e).run Tryz.prog w = .ok z w) {zd : DataW Unit} {zp : List MemPlace} (hzd : R z = some (zd, zp))
  {key : Value} {kl : Lit} (hkey : keyOf Tryz.prog k key = some kl) : ∃ v ps, (Instr.lookup t (.map (some b)) key false).run Tryz.prog w = .ok v w ∧ R v = some (D.atKey kl zd, ps) := by
 obtain ⟨es, clock, hb, F, _, rfl⟩ := h
 rcases Maps.fit_look false K ht hz hb F hkey with ⟨hrun, _, hat⟩ | ⟨e0, y, _, _, hrun, hRv, hat, _⟩
 ·exact ⟨z, zp, hrun, by rw [hat zd]; exact hzd⟩
 ·exact ⟨e0.val, y.2, hrun, by rw [hat zd]; exact hRv⟩
/-- aliases[name], with 'ok' and without -/
theorem TabAt.lookA (h : TabAt w g b1 b2 n t) {name : Str} (hl : name.length ≤ maxLen) :
  ∃ a : AlV, (Instr.lookup 82 (.map (some b2)) (.string (bstr name)) true).run Tryz.prog w = .ok (.tuple #[alV a, .bool (decide (name ∈ namesA t))]) w ∧ (Instr.lookup 82 (.map (some b2)) (.string (bstr name)) false).run Tryz.prog w = .ok (alV a) w ∧ (∀ x ∈ t.al, x.name = name → (namesA t).Nodup → Piece w 0 9 a.s.v (x.tos.map strV)) ∧ (name ∉ namesA t → a = zeroA) := by
 obtain ⟨D, av, h1, h2, h3, h4⟩ := h.al
 obtain ⟨v, ps, hrun, hv⟩ := h1.look_ok strKeyed Tryz.underlying82 (zeroA_run w) (alElem_mk zeroA) (key_str hl)
 obtain ⟨v', ps', hrun', hv'⟩ := look_plain h1 strKeyed Tryz.underlying82 (zeroA_run w) (alElem_mk zeroA) (key_str hl)
 have hat := h2.at_ strKind name zeroA
 have hh := h2.has strKind name
 rw [look_isSome, names_av h3] at hh
 rw [show D.atKey (Lit.string name) (alD zeroA) = _ from hat] at hv hv'
 refine ⟨(Mp.look (av.map alE) name).getD zeroA, by rw [hrun, alElem_inv hv, show Maps.has D (Lit.string name) = decide (name ∈ namesA t) from hh.trans (decide_eq_decide.2 Iff.rfl)], by rw [hrun', alElem_inv hv'], ?_, ?_⟩
 ·intro x hx hn hnd
  rw [← h3] at hx
  obtain ⟨y, hy, rfl⟩ := List.mem_map.1 hx
  have hm : (name, (⟨y.1.name, y.2⟩ : AlV)) ∈ av.map alE := List.mem_map.2 ⟨y, hy, by unfold alE; rw [hn]⟩
  rw [(look_some h2.nd).2 hm]
  exact h4 y hy
 ·intro hn
  rw [look_none.2 (by rw [names_av h3]; exact hn)]
  rfl
/-- a user's limits -/
theorem TabAt.putL (h : TabAt w g b1 b2 n t) (hn : n < 1000000) {u : UsrP} (hl : u.name.length ≤ maxLen) (b c : Int) (hu : u ∈ t.us) (hnd : (namesU t).Nodup) : ∃ w', (Instr.mapUpdate 81 (.map (some b1)) (.string (bstr u.name)) (usrV { u with lb := b, lc := c })).run Tryz.prog w = .ok () w' ∧ TabAt w' g b1 b2 (n + 1) { t with us := t.us.map fun x => if x.name = u.name then { x with lb := b, lc := c } else x } ∧ Mods (· = b1) w w' := by
 obtain ⟨D, h1, h2⟩ := h.us
 obtain ⟨w', hrun, ho, ht⟩ := h1.store strKeyed Tryz.underlying81 (by unfold maxLen; omega) (val := usrV { u with lb := b, lc := c }) (d := usrD { u with lb := b, lc := c }) (ps := []) (key_str hl) (usrElem_mk _)
 have hM := turnedS ht
 obtain ⟨es, cl, hb⟩ := map_obj h1
 have h3 := (h.mono (Nat.le_succ n)).al
 obtain ⟨E, av, k1, k2, k3, k4⟩ := h3
 have hput := h2.put strKind u.name { u with lb := b, lc := c }
 have hp := putL_perm b c t.us hu hnd
 exact ⟨w', hrun, ⟨h.blk.mods hM (fun e => h.ne1 e.symm), ⟨_, ho, hput.perm hp⟩, ⟨E, av, map_modsS k1 hM (fun e => h.d12 e.symm), k2, k3, fun x hx => (k4 x hx).modsT hM (fun y hy cs fr hh => by subst hy; rw [hb] at hh; cases hh)⟩, h.d12⟩, hM⟩
/-- t.next = v -/
theorem TabAt.setNext (h : TabAt w g b1 b2 n t) (v : Int) : TabAt (w.setCell ⟨g, 1, none⟩ (.int .i64 v)) g b1 b2 n { t with next := v } ∧ Mods (· = g) w (w.setCell ⟨g, 1, none⟩ (.int .i64 v)) := by
 have hM : Mods (· = g) w (w.setCell ⟨g, 1, none⟩ (.int .i64 v)) := (Mods.refl (· = g) w).setCell (p := ⟨g, 1, none⟩) (fun _ => rfl) _
 obtain ⟨D, h1, h2⟩ := h.us
 obtain ⟨E, av, k1, k2, k3, k4⟩ := h.al
 refine ⟨⟨h.blk.set_ 1 _, ⟨D, map_modsS h1 hM h.ne1, h2⟩, ⟨E, av, map_modsS k1 hM h.ne2, k2, k3, fun x hx => (k4 x hx).modsT hM (fun y hy cs fr hh => ?_)⟩, h.d12⟩, hM⟩
 subst hy
 have hg := h.blk
 unfold Blk at hg
 rw [hh] at hg
 simp only [Option.some.injEq, Obj.cells.injEq] at hg
 exact absurd hg.2.1 (by decide)
end
end Usr
end Go.Proofs.YtklbemkafdccgaaGreat

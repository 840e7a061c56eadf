/- Several texts in one: UsShelf2, UsClone, UsRefPos, UsSameA, EnMem, EnGood, EnRight, EnBytes, UsBytesPl, UsSink. -/
import Derived.Shelf.SlMaps.Clone
import Derived.Test.YtklbemkafdccgaaGreatProg
import Derived.Test.YtklbemkafdccgaaGreatK23
import Derived.Test.YtklbemkafdccgaaGreatUsNew
import Derived.Test.YtklbemkafdccgaaGreatK21
import Derived.Test.YtklbemkafdccgaaGreatK27
import Derived.Test.YtklbemkafdccgaaGreatK09
import Derived.Test.YtklbemkafdccgaaGreatK26
import Derived.Test.YtklbemkafdccgaaGreatK01
import Derived.Test.YtklbemkafdccgaaGreatMid
import Derived.Test.YtklbemkafdccgaaGreatDrawn
import Derived.Deep.LoopGhost
import Derived.Deep.DeepCutAuto
import Derived.Deep.CutBlock
import Derived.Test.YtklbemkafdccgaaGreatK18
import Derived.Test.YtklbemkafdccgaaGreatK02
import Derived.Shelf.Abstract
import Derived.Test.YtklbemkafdccgaaGreatK12
import Derived.Test.YtklbemkafdccgaaGreatK10
/- The shelf's contracts at this seat: maps.Clone of the users. -/
namespace Go.Proofs
open Go.Shelf
def Tryz.cloneUs_ren : Go.Shelf.Ren := ⟨fun | 5 => 57 | 7 => 111 | n => n, fun | 23 => 81 | 25 => 9 | 3 => 42 | 4 => 4 | 20 => 20 | n => n, fun | n => n⟩
end Go.Proofs

/- users: Clone. -/
namespace Go.Proofs.YtklbemkafdccgaaGreat
open Go.RowKit Go.Sort Go.Shelf
namespace Usr
open Adr (Str)
open Mp Go.Maps
open Frm (ownsRow_keeps ownsRow_mods ownsRow_ty ownsRow_base ownsRow_form)
/-- an alias map with no entry -/
def EmpA (w : World) (b : Nat) : Prop := w.ownsMap Tryz.prog 9 alElem b 0 (.map [])
def UsA (w : World) (b n : Nat) (D : DataW Unit) : Prop := w.ownsMap Tryz.prog 9 usrElem b n D
theorem EmpA.keeps {w w' : World} {b : Nat} (h : EmpA w b) (k : Keeps w w') : EmpA w' b := map_keepsS h k
theorem UsA.keeps {w w' : World} {b n : Nat} {D : DataW Unit} (h : UsA w b n D) (k : Keeps w w') : UsA w' b n D := map_keepsS h k
theorem alC_len (x : AlP × Value) : (alC x).length = 2 := rfl
theorem al_at {l : List (AlP × Value)} {i : Nat} (h : i < l.length) {j : Nat} (hj : j < 2) : (l.flatMap alC)[i * 2 + j]? = (alC l[i])[j]? := flat_get alC_len l i j _ (List.getElem?_eq_getElem h) hj
theorem EmpA.new (w : World) : EmpA (w.alloc (.map #[] 0)) w.heap.size := World.ownsMap_made w Tryz.prog _ _
theorem EmpA.lt {w : World} {b : Nat} (h : EmpA w b) : b < w.heap.size := World.ownsMap.lt h
theorem UsA.lt {w : World} {b n : Nat} {D : DataW Unit} (h : UsA w b n D) : b < w.heap.size := World.ownsMap.lt h
end Usr
end Go.Proofs.YtklbemkafdccgaaGreat

/- ref13: a table by value; the place of a user's name, of an alias's. -/
namespace Go.Proofs.YtklbemkafdccgaaGreat
open Go.RowKit
namespace Usr
open Adr (Str)
open Mp Go.Maps
/-- a reference table's slices -/
structure RTab (w : World) (uv av : Value) (t : TabP) (L : List (AlP × Value)) : Prop where
 us : RowS w 4 uv t.us.length (t.us.flatMap usC)
 al : RowS w 2 av L.length (L.flatMap alC)
 alm : L.map (·.1) = t.al
 pay : ∀ x ∈ L, Row w x.2 (x.1.tos.map strV)
theorem RTab.keeps {w w' : World} {uv av : Value} {t : TabP} {L : List (AlP × Value)} (h : RTab w uv av t L) (k : Keeps w w') : RTab w' uv av t L :=
 ⟨h.us.keeps k, h.al.keeps k, h.alm, fun x hx => (h.pay x hx).keeps k⟩
def rtV (uv av : Value) (t : TabP) : Value := .agg #[.string (bstr t.dom), .int .i64 t.next, uv, av]
/-- the place of a name; -1: it isn't there -/
def posL (l : List Str) (name : Str) : Int := ((l.findIdx? fun x => decide (x = name)).map fun i => (i : Int)).getD (-1)
end Usr
end Go.Proofs.YtklbemkafdccgaaGreat

/- ref13: SameAliases of one list laid twice. -/
namespace Go.Proofs.YtklbemkafdccgaaGreat
open Go.RowKit
namespace Usr
open Adr (Str)
open Mp Go.Maps
/-- a slice of aliases to be read, each with its targets -/
structure AlsR (w : World) (v : Value) (L : List (AlP × Value)) : Prop where
 row : RowS w 2 v L.length (L.flatMap alC)
 pay : ∀ x ∈ L, Row w x.2 (x.1.tos.map strV)
theorem AlsR.keeps {w w' : World} {v : Value} {L : List (AlP × Value)} (h : AlsR w v L) (k : Keeps w w') : AlsR w' v L := ⟨h.row.keeps k, fun x hx => (h.pay x hx).keeps k⟩
theorem AlsR.one {w : World} {p : Option Addr} {c : Nat} {L : List (AlP × Value)} (h : AlsR w (.slice p L.length c) L) {j : Nat} (hlt : j < L.length) : ∃ b o pa ca, p = some ⟨b, o, none⟩ ∧ w.cell? ⟨b, o + j * 2, none⟩ = some (.string (bstr L[j].1.name)) ∧ w.cell? ⟨b, o + j * 2 + 1, none⟩ = some (.slice pa L[j].1.tos.length ca) ∧ Row w (.slice pa L[j].1.tos.length ca) (L[j].1.tos.map strV) := by
 obtain ⟨pa, ca, hv2, -, -⟩ := (h.pay _ (List.getElem_mem hlt)).form
 rw [List.length_map] at hv2
 rcases h.row.2 with ⟨a0, cap, hv, h0, -⟩ | ⟨b, off, cap, hv, -, -, hc⟩
 ·omega
 ·simp only [Value.slice.injEq] at hv
  exact ⟨b, off, pa, ca, hv.1, hc (j * 2 + 0) _ (by rw [al_at hlt (show 0 < 2 by decide)]; rfl), hc (j * 2 + 1) _ (by rw [al_at hlt (show 1 < 2 by decide), ← hv2]; rfl), by rw [← hv2]; exact h.pay _ (List.getElem_mem hlt)⟩
end Usr
end Go.Proofs.YtklbemkafdccgaaGreat

/- envel: jobs in memory; states that are right. -/
namespace Go.Proofs.YtklbemkafdccgaaGreat
open Go.RowKit
namespace Env
def tgC (t : TgP) : List Value := [.int .i64 t.u, .string (bstr t.l), .string (bstr t.d)]
def stC (x : StP) : List Value := [.int .i64 x.s, .int .i64 x.t, .int .i64 x.d, .int .i64 x.c]
def stA (x : StP) : Array Value := #[.int .i64 x.s, .int .i64 x.t, .int .i64 x.d, .int .i64 x.c]
abbrev jobA (j : JobP) (vt vs vb : Value) : Array Value := #[.int .i64 j.id, .int .i64 j.arr, .string (bstr j.fl), .string (bstr j.fd), vt, vs, vb]
/-- a job's three slices -/
structure JobAt (w : World) (j : JobP) (vt vs vb : Value) : Prop where
 tos : RowS w 3 vt j.tos.length (j.tos.flatMap tgC)
 st : RowS w 4 vs j.st.length (j.st.flatMap stC)
 body : Row w vb (j.body.map u8v)
theorem JobAt.keeps {w w' : World} {j : JobP} {vt vs vb : Value} (h : JobAt w j vt vs vb) (k : Keeps w w') : JobAt w' j vt vs vb := ⟨h.tos.keeps k, h.st.keeps k, h.body.keeps k⟩
/-- texts of a bounded length -/
def Short (j : JobP) : Prop := j.fl.length ≤ 1000000 ∧ j.fd.length ≤ 1000000 ∧ (∀ t ∈ j.tos, t.l.length ≤ 1000000 ∧ t.d.length ≤ 1000000 ∧ (Lit.int .i64 t.u).wf = true) ∧ j.tos.length ≤ 1000000 ∧ j.st.length ≤ 1000000 ∧ j.body.length ≤ 1000000

end Env
end Go.Proofs.YtklbemkafdccgaaGreat

/- envel.goodEnv, envel.Good. -/
namespace Go.Proofs.YtklbemkafdccgaaGreat
open Go.RowKit
namespace Env
open Adr (good_any goodB)
open Mbx (Reads intElem intElem_inv intD upd)
open Go.Maps
theorem intKeyed' : Keyed Tryz.prog 3 := int_keyed Tryz.underlying3
theorem zeroInt_run' (w : World) : (zeroValue 3).run Tryz.prog w = .ok (.int .i64 0) w := by kernel_rfl
/-- a map from numbers to numbers -/
def MMap (w : World) (b n : Nat) (f : Int → Option Int) : Prop := ∃ D, w.ownsMap Tryz.prog 3 intElem b n D ∧ Reads D f intD
theorem MMap.keeps {w w' : World} {b n : Nat} {f : Int → Option Int} (h : MMap w b n f) (k : Keeps w w') : MMap w' b n f := by
 obtain ⟨D, ⟨es, clock, hb, r⟩, h2⟩ := h
 exact ⟨D, ⟨es, clock, by rw [k.block (Array.getElem?_eq_some_iff.1 hb).1]; exact hb, r⟩, h2⟩
theorem MMap.lt {w : World} {b n : Nat} {f : Int → Option Int} (h : MMap w b n f) : b < w.heap.size := let ⟨_, h1, _⟩ := h; h1.lt
theorem MMap.look {w : World} {b n : Nat} {f : Int → Option Int} (h : MMap w b n f) {x : Int} (hx : (Lit.int .i64 x).wf = true) :
  (Instr.lookup 118 (.map (some b)) (.int .i64 x) false).run Tryz.prog w = .ok (.int .i64 ((f x).getD 0)) w := by
 obtain ⟨D, h1, h2⟩ := h
 obtain ⟨v, ps, hrun, hv⟩ := h1.lookup intKeyed' Tryz.underlying118 (zeroInt_run' w) (zd := intD 0) (zp := []) rfl (keyOf_int_mk Tryz.underlying3 hx)
 rw [h2.at_] at hv
 rw [hrun, intElem_inv hv]
theorem MMap.put {w : World} {b n : Nat} {f : Int → Option Int} (h : MMap w b n f) (hn : n < 1000000) {x : Int} (y : Int) (hx : (Lit.int .i64 x).wf = true) : ∃ w', (Instr.mapUpdate 118 (.map (some b)) (.int .i64 x) (.int .i64 y)).run Tryz.prog w = .ok () w' ∧ MMap w' b (n + 1) (upd f x y) ∧ Mods (· = b) w w' := by
 obtain ⟨D, h1, h2⟩ := h
 obtain ⟨w', hrun, ho, ht⟩ := h1.store intKeyed' Tryz.underlying118 (by unfold maxLen; omega) (val := .int .i64 y) (d := intD y) (ps := []) (keyOf_int_mk Tryz.underlying3 hx) rfl
 exact ⟨w', hrun, ⟨_, ho, h2.put x y⟩, (Mods.refl (· = b) w).grown ht.grown (fun k hk _ => by cases hk; rfl)⟩
/-- how often a user was seen -/
def Cnt (f : Int → Option Int) (p : List Int) : Prop := ∀ x, (f x).getD 0 = if x ∈ p then 1 else 0
theorem Cnt.put {f : Int → Option Int} {p : List Int} (h : Cnt f p) {u : Int} (hu : u ∉ p) : Cnt (upd f u 1) (u :: p) := by
 intro x
 by_cases hx : x = u
 ·subst hx
  simp [Mbx.upd_same]
 ·rw [Mbx.upd_other _ _ hx, h x]
  simp [hx]
end Env
end Go.Proofs.YtklbemkafdccgaaGreat

/- slices.ContainsFunc over states; envel.Good, envel.Done; ref15.env. -/
namespace Go.Proofs.YtklbemkafdccgaaGreat
open Go.RowKit
namespace Env
open Adr (goodB)
def doneB (j : JobP) : Bool := !j.st.any (fun x => decide (x.s = 0))
end Env
end Go.Proofs.YtklbemkafdccgaaGreat

/- envel.env, envel.step, envel.Step, envel.Bytes. -/
namespace Go.Proofs.YtklbemkafdccgaaGreat
open Go.RowKit
namespace Env
open Oct (be putL putB okk textL SinkAt NewSinkDid newSink_any sinkU_any sinkText_any sinkBytes_any be_length RetS)
open Frm (Sole RetSI wrap_any wrapL wrapE)
/-- the sink holds l then; a block that is none of its own is as it was -/
def SoleDid (W w : World) (g : Nat) (v : Value) (l : List UInt8) (r : Ending) (e : Ending) (w' : World) : Prop :=
 ∃ v', e = r ∧ Sole W w' g v' l ∧ ∀ q t cs, Blk w q t cs → (∀ x, Oct.Fr g v x → x ≠ q) → Blk w' q t cs ∧ ∀ x, Oct.Fr g v' x → x ≠ q
theorem putL_be {x k : Nat} (hk : 1 ≤ k ∧ k ≤ 8) (hx : x < 256 ^ k) : putL x k = be k x ∧ putB x k = true := by
 have : putB x k = true := by simp [putB, okk, hx]; omega
 refine ⟨?_, this⟩
 unfold putL
 rw [if_pos this]
 rfl
theorem soleNew (w : World) : Calls Tryz.prog 52 #[] w fun e w' => ∃ g, e = .returned (.pointer (some ⟨g, 0, none⟩)) ∧ w.heap.size ≤ g ∧ Sole w w' g (.slice none 0 0) [] := by
 refine (newSink_any w).mono ?_
 rintro e w' ⟨g, rfl, hg, hs, hk⟩
 exact ⟨g, rfl, hg, Sole.new hs hg hk⟩
end Env
end Go.Proofs.YtklbemkafdccgaaGreat

/- users, plain: a table's bytes; what is read of them is the table. -/
namespace Go.Proofs.YtklbemkafdccgaaGreat.Usr
open Adr (Str domainB)
open Oct (uE uA uV tE tA tL okk getB getV valOf be be_length putL putB sgnV unsV fitsB)
open Env (textB)
def usrL (u : UsrP) : Str := be 2 u.n.toNat ++ (textB u.name ++ (be 8 (unsV u.lb 8) ++ be 8 (unsV u.lc 8)))
def tosL (l : List Str) : Str := l.flatMap textB
def alL (a : AlP) : Str := textB a.name ++ (be 1 a.tos.length ++ tosL a.tos)
def bytesT (t : TabP) : Str := textB t.dom ++ (be 2 t.next.toNat ++ (be 1 t.us.length ++ (t.us.flatMap usrL ++ (be 1 t.al.length ++ t.al.flatMap alL))))
def maxP : Nat := 65536
/-- one user that was read -/
def stepU (s : TabP × Bool × Int) (number : Int) (name : Str) (b c : Int) : TabP × Bool × Int :=
 let r := addU { s.1 with next := min (max number (s.2.2 + 1)) 1000 } name b c
 (r.1, s.2.1 && decide (r.2.2 = 0) && decide (r.2.1 = number), max s.2.2 r.2.1)
def rdUs : Nat → TabP × Bool × Int → Rd (TabP × Bool × Int)
 | 0, s => .ret s
 |n + 1, s => .num 2 fun number => .txt maxP fun name => .num 8 fun b => .num 8 fun c => .must (rdUs n (stepU s number name (sgnV b 8) (sgnV c 8)))
def rdTos : Nat → List Str → Rd (List Str)
 | 0, l => .ret l
 |n + 1, l => .txt maxP fun s => .must (rdTos n (l ++ [s]))
/-- one alias that was read -/
def stepA (s : TabP × Bool × Str) (name : Str) (tos : List Str) : TabP × Bool × Str :=
 if s.2.1 && ltS s.2.2 name then ((addA s.1 name tos).1, decide ((addA s.1 name tos).2.2 = 0), name) else (s.1, false, name)
def rdAl : Nat → TabP × Bool × Str → Rd (TabP × Bool × Str)
 | 0, s => .ret s
 |n + 1, s => .txt maxP fun name => .num 1 fun k => (rdTos k []).bind fun tos => .must (rdAl n (stepA s name tos))
def tab0 (dom : Str) : TabP := { dom := if domainB dom = true then lowL dom else [120], next := 1, us := [], al := [] }
def rdUsers (t : TabP) : Rd (TabP × Bool) := .num 1 fun n => (rdUs n (t, true, 0)).bind fun s => .ret (s.1, s.2.1)
def rdAliases (t : TabP) : Rd (TabP × Bool) := .num 1 fun n => (rdAl n (t, true, [])).bind fun s => .ret (s.1, s.2.1)
/-- the table, were all numbers right; the least and the next number -/
def rdAll : Rd (TabP × Bool × Int × Int) :=
 .txt maxP fun dom => .num 2 fun next => .must ((rdUsers (tab0 dom)).bind fun s => (rdAliases s.1).bind fun q => .must (.ret (q.1, q.2 && (s.2 && domainB dom), s.1.next, (next : Int))))
def leastT (t : TabP) (least : Int) : Int := if t.us.length = 0 then 1 else least
/-- what is read of bytes: a table, or why there is none -/
def readT (l : Str) : Option TabP × Int :=
 match rdAll.run l 0 0 with
 |(none, _, er) => (none, if er = 2 then 2 else 3)
 |(some (t, good, least, next), a, _) =>
  if good = true ∧ leastT t least ≤ next ∧ next ≤ 1000 ∧ a = l.length ∧ bytesT { t with next := next } = l then (some { t with next := next }, 0) else (none, 3)
/-! ### reading a table's own bytes -/
end Go.Proofs.YtklbemkafdccgaaGreat.Usr

/- users: a sink beside other rows: what it changes is its own block and its bytes alone. -/
namespace Go.Proofs.YtklbemkafdccgaaGreat
open Go.RowKit
namespace Usr
open Adr (Str)
open Oct (be putL putB okk textL SinkAt sinkU_any sinkText_any sinkI_any sinkBytes_any newSink_any be_length RetS unsV fitsB)
open Frm (Sole ownsRow_mods ownsRow_ty)
open Env (textB soleNew putL_be)
/-- what may be changed: a sink's block, and bytes -/
def SkT (w : World) (x : Nat) : Prop := ∃ cs e fr, w.heap[x]? = some (.cells cs e fr) ∧ (e = 181 ∨ e = 5)
def SkM (w w' : World) : Prop := Mods (SkT w) w w'
theorem SkT.ne {w : World} {x : Nat} (h : SkT w x) {t : TypeId} (h1 : t ≠ 181) (h2 : t ≠ 5) : ∀ cs fr, w.heap[x]? ≠ some (.cells cs t fr) := by
 obtain ⟨cs, e, fr, hx, he⟩ := h
 intro cs' fr' hh
 rw [hx] at hh
 simp only [Option.some.injEq, Obj.cells.injEq] at hh
 obtain ⟨-, rfl, -⟩ := hh
 rcases he with he | he
 ·exact h1 he
 ·exact h2 he
theorem SkM.blk {w w' : World} (k : SkM w w') {q : Nat} {t : TypeId} {cs : Array Value} (h : Blk w q t cs) (h1 : t ≠ 181) (h2 : t ≠ 5) : Blk w' q t cs := h.mods k (fun hx => hx.ne h1 h2 _ _ h)
theorem SkM.row {w w' : World} (k : SkM w w') {b C n : Nat} {e : TypeId} {v : Value} {xs : List Value} (h : w.ownsRow b e C v n xs) (h1 : e ≠ 181) (h2 : e ≠ 5) : w'.ownsRow b e C v n xs := by
 refine ownsRow_mods h k (fun x hx hs => ?_)
 rcases h.2 with ⟨rfl, _⟩ | ⟨q, cap, cur, rfl, _, hq, _⟩
 ·simp [Value.ownBlock] at hx
 ·simp [Value.ownBlock] at hx
  subst hx
  exact hs.ne h1 h2 _ _ hq
theorem SkM.piece {w w' : World} (k : SkM w w') {b : Nat} {v : Value} {l : List Value} (h : Piece w b 9 v l) : Piece w' b 9 v l := h.modsT k (fun y hy cs fr => hy.ne (by decide) (by decide) cs fr)
def SkDid (W w : World) (g : Nat) (l : List UInt8) (r : Ending) (e : Ending) (w' : World) : Prop := ∃ v', e = r ∧ Sole W w' g v' l ∧ SkM w w'
end Usr
end Go.Proofs.YtklbemkafdccgaaGreat

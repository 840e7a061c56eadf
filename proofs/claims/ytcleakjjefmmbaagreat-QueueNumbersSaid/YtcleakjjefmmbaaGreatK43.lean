/- Several texts in one: QuMem, QuDisk, QuCall. -/
import Derived.Test.YtcleakjjefmmbaaGreatK07
import Derived.Test.YtcleakjjefmmbaaGreatK39
import Derived.Test.YtcleakjjefmmbaaGreatEnGet
import Derived.Test.YtcleakjjefmmbaaGreatK32
import Derived.Test.YtcleakjjefmmbaaGreatK33
import Derived.Test.YtcleakjjefmmbaaGreatK34
/- queue: a queue in memory. -/
namespace Go.Proofs.YtcleakjjefmmbaaGreat
open Go.RowKit
namespace Que
open Mp Go.Maps
open Vd (DiskAt Dsk On Few More)
open Env (JobP StP TgP JobAt JobOwn tgC stC jobA noJob)
open Bds (SlQ)
open Frm (ownsRow_mods ownsRow_keeps ownsRow_base)
abbrev kiL : Int → Lit := fun n => Lit.int .i64 n
theorem kiKey : Keyed Tryz.prog 3 := int_keyed Tryz.underlying3
theorem kiOf {x : Int} (h : (Lit.int .i64 x).wf = true) : keyOf Tryz.prog 3 (.int .i64 x) = some (kiL x) := keyOf_int_mk Tryz.underlying3 h
section
variable {w w' : World} {J J' S : Nat → Prop} {j : JobP} {vt vs vb : Value} {base : Nat}
/-- a job whose slices lie in blocks of J: as long as these stay, it stays -/
def JobJ (w : World) (J : Nat → Prop) (j : JobP) (vt vs vb : Value) : Prop := ∀ S w', Mods S w w' → (∀ y, S y → ¬ J y) → JobAt w' j vt vs vb
theorem JobJ.at_ (h : JobJ w J j vt vs vb) : JobAt w j vt vs vb := h (fun _ => False) w (Mods.refl _ _) (fun _ h => h.elim)
theorem JobJ.mods (h : JobJ w J j vt vs vb) (k : Mods S w w') (hn : ∀ y, S y → ¬ J y) : JobJ w' J j vt vs vb := fun S' w2 k2 hn2 =>
 h (fun y => S y ∨ S' y) w2 ((k.mono (fun _ h => .inl h)).trans k2 (fun y hy _ => .inr hy)) (fun y hy => hy.elim (hn y) (hn2 y))
theorem JobJ.keeps (h : JobJ w J j vt vs vb) (k : Keeps w w') : JobJ w' J j vt vs vb := h.mods (Mods.of_keeps k) (S := fun _ => False) (fun _ h => h.elim)
theorem JobJ.wide (h : JobJ w J j vt vs vb) (hJ : ∀ y, J y → J' y) : JobJ w J' j vt vs vb := fun S w' k hn => h S w' k (fun y hy hj => hn y hy (hJ y hj))
theorem own_lt3 {C n : Nat} {e : TypeId} {v : Value} {xs : List Value} (h : w.ownsRow base e C v n xs) {y : Nat} (hy : v.ownBlock = some y) : y < w.heap.size := by
 rcases h.2 with ⟨rfl, -⟩ | ⟨g, cap, cur, rfl, -, hg, -⟩
 ·cases hy
 ·simp only [Value.ownBlock, Option.some.injEq] at hy
  subst hy
  exact (Array.getElem?_eq_some_iff.1 hg).1
theorem JobOwn.stay (h : JobOwn w base j vt vs vb) (hJ : ∀ y, base ≤ y → y < w.heap.size → J y) : JobJ w J j vt vs vb := fun S w' k hn => by
 obtain ⟨h1, h2, h3⟩ := h
 refine ⟨Env.rowS_own (ownsRow_mods h1 k (fun y hy hs => hn y hs (hJ y (ownsRow_base h1 y hy) (own_lt3 h1 hy)))), Env.rowS_own (ownsRow_mods h2 k (fun y hy hs => hn y hs (hJ y (ownsRow_base h2 y hy) (own_lt3 h2 hy)))), ?_⟩
 rcases h3 with h3 | ⟨g, off, cap, cs, fr, hv, h0, hb, h4, h5, h6, h7⟩
 ·exact .inl h3
 ·exact (show Piece w' base 5 vb (j.body.map u8v) from .inr ⟨g, off, cap, cs, fr, hv, h0, hb, h4, h5, k.heap h6 (fun hs => hn g hs (hJ g hb (Array.getElem?_eq_some_iff.1 h6).1)), h7⟩).row
theorem JobOwn.keeps (h : JobOwn w base j vt vs vb) (k : Keeps w w') : JobOwn w' base j vt vs vb := ⟨ownsRow_keeps h.1 k, ownsRow_keeps h.2.1 k, h.2.2.keeps k⟩
end
/-- a kept job: what it is, and its value in memory -/
structure KpX where
 j : JobP
 v : KpV
def KpX.p (x : KpX) : JobP × Bool := (x.j, x.v.wh)
structure KpIs (w : World) (J : Nat → Prop) (x : KpX) : Prop where
 id : x.v.id = x.j.id
 arr : x.v.arr = x.j.arr
 fl : x.v.fl = x.j.fl
 fd : x.v.fd = x.j.fd
 job : JobJ w J x.j x.v.s1.v x.v.s2.v x.v.s3.v
/-- the zero job -/
def kx0 : KpX := ⟨noJob, zeroK⟩
theorem kx0_is (w : World) (J : Nat → Prop) : KpIs w J kx0 := ⟨rfl, rfl, rfl, rfl, fun _ _ _ _ => Env.job0_at _⟩
theorem KpIs.mods {w w' : World} {J S : Nat → Prop} {x : KpX} (h : KpIs w J x) (k : Mods S w w') (hn : ∀ y, S y → ¬ J y) : KpIs w' J x := ⟨h.id, h.arr, h.fl, h.fd, h.job.mods k hn⟩
theorem KpIs.wide {w : World} {J J' : Nat → Prop} {x : KpX} (h : KpIs w J x) (hJ : ∀ y, J y → J' y) : KpIs w J' x := ⟨h.id, h.arr, h.fl, h.fd, h.job.wide hJ⟩
/-- a kept job's value, by the job -/
def kpA' (j : JobP) (s1 s2 s3 : SlQ) (b : Bool) : Array Value := #[.int .i64 j.id, .int .i64 j.arr, .string (bstr j.fl), .string (bstr j.fd), s1.v, s2.v, s3.v, .bool b]
theorem KpIs.cells {w : World} {J : Nat → Prop} {x : KpX} (h : KpIs w J x) : kpV x.v = .agg (kpA' x.j x.v.s1 x.v.s2 x.v.s3 x.v.wh) := by
 unfold kpV kpA kpA'
 rw [h.id, h.arr, h.fl, h.fd]
abbrev JL := List (Int × KpX)
def pL (jv : JL) : List (Int × (JobP × Bool)) := jv.map fun p => (p.1, p.2.p)
def vL (jv : JL) : List (Int × KpV) := jv.map fun p => (p.1, p.2.v)
theorem zeroK_run (w : World) : (zeroValue 118).run Tryz.prog w = .ok (kpV zeroK) w := by kernel_rfl
/-- a map of kept jobs by numbers -/
def MpI (w : World) (b n : Nat) (jv : JL) : Prop := ∃ D, w.ownsMap Tryz.prog 3 kpElem b n D ∧ MapOf kiL kpD D (vL jv)
structure QuIn (w : World) (J : Nat → Prop) (g b gd n : Nat) (q : QuP) (jv : JL) : Prop where
 blk : Blk w g 112 #[.pointer (some ⟨gd, 0, none⟩), .int .i64 q.next, .map (some b), .int .i64 q.last]
 map : MpI w b n jv
 jobs : pL jv = q.jobs
 is_ : ∀ p ∈ jv, KpIs w J p.2
 ng : ¬ J g
 nb : ¬ J b
section
variable {w w' : World} {J J' S : Nat → Prop} {g b gd n m : Nat} {q : QuP} {jv : JL}
theorem map_at {κ α β : Type} [DecidableEq κ] (f : α → β) (l : List (κ × α)) (k : κ) : Mp.look (l.map fun p => (p.1, f p.2)) k = (Mp.look l k).map f := by
 unfold Mp.look
 induction l with
 |nil => rfl
 |cons p l ih =>
  rw [List.map_cons, List.find?_cons, List.find?_cons]
  by_cases h : p.1 = k
  ·simp [h]
  ·simp only [h, decide_false]
   exact ih
theorem del_map {κ α β : Type} [DecidableEq κ] (f : α → β) (l : List (κ × α)) (k : κ) : Mp.del (l.map fun p => (p.1, f p.2)) k = (Mp.del l k).map fun p => (p.1, f p.2) := by
 unfold Mp.del
 rw [List.filter_map]
 rfl
theorem put_map {κ α β : Type} [DecidableEq κ] (f : α → β) (l : List (κ × α)) (k : κ) (v : α) : Mp.putL (l.map fun p => (p.1, f p.2)) k (f v) = (Mp.putL l k v).map fun p => (p.1, f p.2) := by
 unfold Mp.putL
 rw [del_map, List.map_append]
 rfl
theorem MpI.keeps (h : MpI w b n jv) (k : Keeps w w') : MpI w' b n jv := let ⟨D, h1, h2⟩ := h; ⟨D, Usr.map_keepsS h1 k, h2⟩
theorem MpI.mods (h : MpI w b n jv) (k : Mods S w w') (hn : ¬ S b) : MpI w' b n jv := let ⟨D, h1, h2⟩ := h; ⟨D, Usr.map_modsS h1 k hn, h2⟩
theorem MpI.lt (h : MpI w b n jv) : b < w.heap.size := let ⟨_, h1, _⟩ := h; h1.lt
theorem MpI.wide (h : MpI w b n jv) (hn : n ≤ m) : MpI w b m jv := let ⟨D, h1, h2⟩ := h; ⟨D, h1.mono hn, h2⟩
theorem MpI.new (w : World) : MpI (w.alloc (.map #[] 0)) w.heap.size 0 [] := ⟨_, World.ownsMap_made w Tryz.prog _ _, MapOf.new⟩
/-- jobs[x], with 'ok' -/
theorem MpI.look (h : MpI w b n jv) {x : Int} (hx : (Lit.int .i64 x).wf = true) :
  (Instr.lookup 110 (.map (some b)) (.int .i64 x) true).run Tryz.prog w = .ok (.tuple #[kpV (((Mp.look jv x).map (·.v)).getD zeroK), .bool (Mp.look jv x).isSome]) w := by
 obtain ⟨D, h1, h2⟩ := h
 obtain ⟨v, ps, hrun, hv⟩ := h1.look_ok kiKey Tryz.underlying110 (zeroK_run w) (kpElem_mk zeroK) (kiOf hx)
 have hat := h2.at_ intKind x zeroK
 have hh := h2.has intKind x
 rw [show D.atKey (kiL x) (kpD zeroK) = _ from hat] at hv
 rw [hrun, kpElem_inv hv, show Maps.has D (kiL x) = _ from hh]
 unfold vL
 rw [map_at]
 cases Mp.look jv x <;> rfl
theorem MpI.put (h : MpI w b n jv) (hn : n < 1000000) {x : Int} (hx : (Lit.int .i64 x).wf = true) (e : KpX) : ∃ w', (Instr.mapUpdate 110 (.map (some b)) (.int .i64 x) (kpV e.v)).run Tryz.prog w = .ok () w' ∧ MpI w' b (n + 1) (Mp.putL jv x e) ∧ Mods (· = b) w w' := by
 obtain ⟨D, h1, h2⟩ := h
 obtain ⟨w', hup, hD, ht⟩ := h1.store kiKey Tryz.underlying110 (by unfold maxLen; omega) (val := kpV e.v) (d := kpD e.v) (ps := []) (kiOf hx) (kpElem_mk _)
 refine ⟨w', hup, ⟨_, hD, ?_⟩, Usr.turnedS ht⟩
 have := h2.put intKind x e.v
 rw [show Mp.putL (vL jv) x e.v = vL (Mp.putL jv x e) from put_map KpX.v jv x e] at this
 exact this
theorem MpI.drop (h : MpI w b n jv) {x : Int} (hx : (Lit.int .i64 x).wf = true) (ty : TypeId) : ∃ w', (Builtin.delete_ #[110, 3] ty #[.map (some b), .int .i64 x]).run Tryz.prog w = .ok (.tuple #[]) w' ∧ MpI w' b n (Mp.del jv x) ∧ Mods (· = b) w w' := by
 obtain ⟨D, h1, h2⟩ := h
 obtain ⟨w', hup, hD, ht⟩ := h1.drop kiKey Tryz.underlying110 (kiOf hx) ty
 refine ⟨w', hup, ⟨_, hD, ?_⟩, Usr.turnedS ht⟩
 have := h2.del intKind x
 rw [show Mp.del (vL jv) x = vL (Mp.del jv x) from del_map KpX.v jv x] at this
 exact this
theorem MpI.len (h : MpI w b n jv) (ty : TypeId) : (Builtin.len_ #[110] ty #[.map (some b)]).run Tryz.prog w = .ok (.int .i64 (jv.length : Int)) w := by
 obtain ⟨D, h1, h2⟩ := h
 rw [h1.len Tryz.underlying110 ty, h2.size]
 simp [vL]
theorem QuIn.cells (h : QuIn w J g b gd n q jv) : w.cell? ⟨g, 0, none⟩ = some (.pointer (some ⟨gd, 0, none⟩)) ∧ w.cell? ⟨g, 1, none⟩ = some (.int .i64 q.next) ∧ w.cell? ⟨g, 2, none⟩ = some (.map (some b)) ∧ w.cell? ⟨g, 3, none⟩ = some (.int .i64 q.last) := by
 refine ⟨?_, ?_, ?_, ?_⟩ <;> (rw [h.blk.cell]; rfl)
theorem QuIn.mods (h : QuIn w J g b gd n q jv) (k : Mods S w w') (hJ : ∀ y, S y → ¬ J y) (hg : ¬ S g) (hb : ¬ S b) : QuIn w' J g b gd n q jv :=
 ⟨h.blk.mods k hg, h.map.mods k hb, h.jobs, fun p hp => (h.is_ p hp).mods k hJ, h.ng, h.nb⟩
theorem QuIn.keeps (h : QuIn w J g b gd n q jv) (k : Keeps w w') : QuIn w' J g b gd n q jv := h.mods (S := fun _ => False) (Mods.of_keeps k) (fun _ h => h.elim) (fun h => h) (fun h => h)
theorem QuIn.gb (h : QuIn w J g b gd n q jv) : g ≠ b := fun e => by
 obtain ⟨D, h1, -⟩ := h.map
 obtain ⟨es, cl, hm⟩ := Usr.map_obj h1
 have := h.blk
 unfold Blk at this
 rw [e, hm] at this
 cases this
/-- more blocks of jobs; a wider bound -/
theorem QuIn.wide (h : QuIn w J g b gd n q jv) (hJ : ∀ y, J y → J' y) (hg : ¬ J' g) (hb : ¬ J' b) (hn : n ≤ m) : QuIn w J' g b gd m q jv :=
 ⟨h.blk, h.map.wide hn, h.jobs, fun p hp => (h.is_ p hp).wide hJ, hg, hb⟩
theorem QuIn.setNext (h : QuIn w J g b gd n q jv) (x : Int) : QuIn (w.setCell ⟨g, 1, none⟩ (.int .i64 x)) J g b gd n ⟨x, q.last, q.jobs⟩ jv ∧ Mods (· = g) w (w.setCell ⟨g, 1, none⟩ (.int .i64 x)) := by
 have hm : Mods (· = g) w (w.setCell ⟨g, 1, none⟩ (.int .i64 x)) := (Mods.refl (· = g) w).setCell (p := ⟨g, 1, none⟩) (fun _ => rfl) _
 exact ⟨⟨h.blk.set_ 1 (.int .i64 x), h.map.mods hm (fun e => h.gb e.symm), h.jobs, fun p hp => (h.is_ p hp).mods hm (fun y hy => by rw [hy]; exact h.ng), h.ng, h.nb⟩, hm⟩
theorem QuIn.setLast (h : QuIn w J g b gd n q jv) (x : Int) : QuIn (w.setCell ⟨g, 3, none⟩ (.int .i64 x)) J g b gd n ⟨q.next, x, q.jobs⟩ jv ∧ Mods (· = g) w (w.setCell ⟨g, 3, none⟩ (.int .i64 x)) := by
 have hm : Mods (· = g) w (w.setCell ⟨g, 3, none⟩ (.int .i64 x)) := (Mods.refl (· = g) w).setCell (p := ⟨g, 3, none⟩) (fun _ => rfl) _
 exact ⟨⟨h.blk.set_ 3 (.int .i64 x), h.map.mods hm (fun e => h.gb e.symm), h.jobs, fun p hp => (h.is_ p hp).mods hm (fun y hy => by rw [hy]; exact h.ng), h.ng, h.nb⟩, hm⟩
theorem look_job (h : pL jv = q.jobs) (x : Int) : Mp.look q.jobs x = (Mp.look jv x).map (·.p) := by
 rw [← h]
 exact map_at _ _ _
/-- a job is put -/
theorem QuIn.put (h : QuIn w J g b gd n q jv) (hn : n < 1000000) {x : Int} (hx : (Lit.int .i64 x).wf = true) {e : KpX} (he : KpIs w J e) : ∃ w', (Instr.mapUpdate 110 (.map (some b)) (.int .i64 x) (kpV e.v)).run Tryz.prog w = .ok () w' ∧ QuIn w' J g b gd (n + 1) ⟨q.next, q.last, Mp.putL q.jobs x e.p⟩ (Mp.putL jv x e) ∧ Mods (· = b) w w' := by
 obtain ⟨w', h1, h2, h3⟩ := h.map.put hn hx e
 have hJ : ∀ y, y = b → ¬ J y := fun y hy => by rw [hy]; exact h.nb
 refine ⟨w', h1, ⟨h.blk.mods h3 h.gb, h2, ?_, fun p hp => ?_, h.ng, h.nb⟩, h3⟩
 ·show pL _ = Mp.putL q.jobs x e.p
  rw [← h.jobs]
  exact (put_map KpX.p jv x e).symm
 ·unfold Mp.putL at hp
  rcases List.mem_append.1 hp with hp | hp
  ·exact (h.is_ p (List.mem_filter.1 hp).1).mods h3 hJ
  ·rw [List.mem_singleton.1 hp]
   exact he.mods h3 hJ
theorem QuIn.drop (h : QuIn w J g b gd n q jv) {x : Int} (hx : (Lit.int .i64 x).wf = true) (ty : TypeId) : ∃ w', (Builtin.delete_ #[110, 3] ty #[.map (some b), .int .i64 x]).run Tryz.prog w = .ok (.tuple #[]) w' ∧ QuIn w' J g b gd n ⟨q.next, q.last, Mp.del q.jobs x⟩ (Mp.del jv x) ∧ Mods (· = b) w w' := by
 obtain ⟨w', h1, h2, h3⟩ := h.map.drop hx ty
 refine ⟨w', h1, ⟨h.blk.mods h3 h.gb, h2, ?_, fun p hp => ?_, h.ng, h.nb⟩, h3⟩
 ·show pL _ = Mp.del q.jobs x
  rw [← h.jobs]
  exact (del_map KpX.p jv x).symm
 ·exact (h.is_ p (List.mem_filter.1 hp).1).mods h3 (fun y hy => by rw [hy]; exact h.nb)
end
end Que
end Go.Proofs.YtcleakjjefmmbaaGreat

/- queue: a queue beside its disk. -/
namespace Go.Proofs.YtcleakjjefmmbaaGreat
open Go.RowKit
namespace Que
open Mp Go.Maps
open Vd (DiskAt Dsk On Few More)
open Sf (Says Tells Stays)
open Env (JobP StP TgP JobAt JobOwn tgC stC jobA noJob)
open Frm (ownsRow_mods ownsRow_keeps ownsRow_base)
/-- a slice in blocks of J: as long as these stay, it stays -/
def RowJ (w : World) (J : Nat → Prop) (v : Value) (l : List Value) : Prop := ∀ S w', Mods S w w' → (∀ y, S y → ¬ J y) → Row w' v l
/-- the disk, and blocks J that are never written; what was made since w0 and is none of these is free; A: blocks that are set aside -/
structure DX (A S0 : Nat → Prop) (w0 w : World) (gd : Nat) (d : Dsk) (k : Nat) (S J : Nat → Prop) : Prop where
 dsk : DiskAt w S gd d
 sm : ∀ y, S y → S0 y ∨ w0.heap.size ≤ y
 lt : ∀ y, S y → y < w.heap.size ∧ ¬ J y ∧ ¬ A y
 jl : ∀ y, J y → w0.heap.size ≤ y ∧ y < w.heap.size
 al : ∀ y, A y → y < w.heap.size
 mods : Mods S0 w0 w
 few : Few d k
/-- and a queue -/
structure QX (A S0 : Nat → Prop) (w0 w : World) (gd : Nat) (d : Dsk) (k : Nat) (S J : Nat → Prop) (g b n : Nat) (q : QuP) (jv : JL) : Prop where
 dx : DX A S0 w0 w gd d k S J
 qu : QuIn w J g b gd n q jv
 gs : ¬ S g ∧ ¬ S b ∧ ¬ A g ∧ ¬ A b ∧ w0.heap.size ≤ g ∧ w0.heap.size ≤ b
/-- jobs' blocks, and those that were made since -/
def MoreJ (J : Nat → Prop) (w w' : World) (y : Nat) : Prop := J y ∨ (w.heap.size ≤ y ∧ y < w'.heap.size)
def QAt (A S0 : Nat → Prop) (w0 w : World) (gd : Nat) (d : Dsk) (k g n : Nat) (q : QuP) : Prop := ∃ S J b jv, QX A S0 w0 w gd d k S J g b n q jv
/-- what a call leaves: none of the blocks set aside was written -/
def QRest (A S0 : Nat → Prop) (w0 w : World) (gd : Nat) (d : Dsk) (k g n : Nat) (q : QuP) (w' : World) : Prop := QAt A S0 w0 w' gd d k g n q ∧ Mods (fun y => ¬ A y ∧ (S0 y ∨ w0.heap.size ≤ y)) w w'
section
variable {A A' S0 S J T : Nat → Prop} {w0 w w' : World} {gd g b n m k k' : Nat} {d d' : Dsk} {q q' : QuP} {jv jv' : JL}
theorem DX.keeps (h : DX A S0 w0 w gd d k S J) (hk : Keeps w w') : DX A S0 w0 w' gd d k S J :=
 ⟨h.dsk.keeps hk, h.sm, fun y hy => ⟨Nat.lt_of_lt_of_le (h.lt y hy).1 hk.size, (h.lt y hy).2⟩, fun y hy => ⟨(h.jl y hy).1, Nat.lt_of_lt_of_le (h.jl y hy).2 hk.size⟩, fun y hy => Nat.lt_of_lt_of_le (h.al y hy) hk.size, h.mods.then hk, h.few⟩
/-- new blocks are never written again -/
theorem DX.jobs (h : DX A S0 w0 w gd d k S J) (hk : Keeps w w') : DX A S0 w0 w' gd d k S (MoreJ J w w') := by
 have h2 := h.keeps hk
 have h0 := h.mods.size
 refine { h2 with lt := fun y hy => ⟨(h2.lt y hy).1, fun hj => ?_, (h2.lt y hy).2.2⟩, jl := fun y hy => ?_ }
 ·rcases hj with hj | hj
  ·exact (h.lt y hy).2.1 hj
  ·have := (h.lt y hy).1; omega
 ·rcases hy with hy | hy
  ·exact h2.jl y hy
  ·exact ⟨by omega, hy.2⟩
theorem DX.on (h : DX A S0 w0 w gd d k S J) : On S w w gd d k := ⟨h.dsk.wide (fun y hy => .inl hy), Mods.refl _ _, h.few, fun y hy => (h.lt y hy).1⟩
/-- a call on the disk alone -/
theorem DX.call (h : DX A S0 w0 w gd d k S J) (ho : On S w w' gd d' k') : DX A S0 w0 w' gd d' k' (More S w w') J := by
 have hs := ho.mods.size
 have h0 := h.mods.size
 refine ⟨ho.dsk, fun y hy => ?_, fun y hy => ?_, fun y hy => ⟨(h.jl y hy).1, Nat.lt_of_lt_of_le (h.jl y hy).2 hs⟩, fun y hy => Nat.lt_of_lt_of_le (h.al y hy) hs, h.mods.trans ho.mods (fun y hy hlt => (h.sm y hy).elim id (fun h1 => by omega)), ho.few⟩
 ·rcases hy with hy | hy
  ·exact h.sm y hy
  ·exact .inr (by omega)
 ·rcases hy with hy | hy
  ·exact ⟨Nat.lt_of_lt_of_le (h.lt y hy).1 hs, (h.lt y hy).2⟩
  ·exact ⟨hy.2, fun hj => (by have := (h.jl y hj).2; omega), fun ha => (by have := h.al y ha; omega)⟩
/-- blocks that are neither the disk's nor for good were written -/
theorem DX.own (h : DX A S0 w0 w gd d k S J) (hm : Mods T w w') (hT : ∀ y, T y → ¬ S y ∧ w0.heap.size ≤ y) : DX A S0 w0 w' gd d k S J :=
 ⟨h.dsk.apart hm (fun y hy ht => (hT y ht).1 hy), h.sm, fun y hy => ⟨Nat.lt_of_lt_of_le (h.lt y hy).1 hm.size, (h.lt y hy).2⟩, fun y hy => ⟨(h.jl y hy).1, Nat.lt_of_lt_of_le (h.jl y hy).2 hm.size⟩, fun y hy => Nat.lt_of_lt_of_le (h.al y hy) hm.size, h.mods.trans hm (fun y hy hlt => by have := (hT y hy).2; omega), h.few⟩
theorem DX.more (h : DX A S0 w0 w gd d k S J) (hk : k ≤ k') : DX A S0 w0 w gd d k' S J := { h with few := h.few.mono hk }
theorem QX.keeps (h : QX A S0 w0 w gd d k S J g b n q jv) (hk : Keeps w w') : QX A S0 w0 w' gd d k S J g b n q jv := ⟨h.dx.keeps hk, h.qu.keeps hk, h.gs⟩
theorem QX.jobs (h : QX A S0 w0 w gd d k S J g b n q jv) (hk : Keeps w w') : QX A S0 w0 w' gd d k S (MoreJ J w w') g b n q jv := by
 refine ⟨h.dx.jobs hk, (h.qu.keeps hk).wide (fun y hy => .inl hy) ?_ ?_ (Nat.le_refl _), h.gs⟩
 ·rintro (hj | hj)
  ·exact h.qu.ng hj
  ·have := h.qu.blk.lt; omega
 ·rintro (hj | hj)
  ·exact h.qu.nb hj
  ·have := h.qu.map.lt; omega
theorem QX.call (h : QX A S0 w0 w gd d k S J g b n q jv) (ho : On S w w' gd d' k') : QX A S0 w0 w' gd d' k' (More S w w') J g b n q jv := by
 have hg := h.qu.blk.lt
 have hb := h.qu.map.lt
 refine ⟨h.dx.call ho, h.qu.mods ho.mods (fun y hy => (h.dx.lt y hy).2.1) h.gs.1 h.gs.2.1, ?_, ?_, h.gs.2.2⟩
 ·rintro (hy | hy)
  ·exact h.gs.1 hy
  ·omega
 ·rintro (hy | hy)
  ·exact h.gs.2.1 hy
  ·omega
/-- the queue alone was written -/
theorem QX.own (h : QX A S0 w0 w gd d k S J g b n q jv) (hq : QuIn w' J g b gd m q' jv') (hm : Mods T w w') (hT : ∀ y, T y → y = g ∨ y = b) : QX A S0 w0 w' gd d k S J g b m q' jv' :=
 ⟨h.dx.own hm (fun y hy => by rcases hT y hy with rfl | rfl; exact ⟨h.gs.1, h.gs.2.2.2.2.1⟩; exact ⟨h.gs.2.1, h.gs.2.2.2.2.2⟩), hq, h.gs⟩
theorem QX.more (h : QX A S0 w0 w gd d k S J g b n q jv) (hk : k ≤ k') (hn : n ≤ m) : QX A S0 w0 w gd d k' S J g b m q jv := ⟨h.dx.more hk, h.qu.wide (fun _ h => h) h.qu.ng h.qu.nb hn, h.gs⟩
/-- what the disk's call wrote -/
theorem QX.free (h : QX A S0 w0 w gd d k S J g b n q jv) {y : Nat} (hy : S y) : ¬ A y ∧ (S0 y ∨ w0.heap.size ≤ y) := ⟨(h.dx.lt y hy).2.2, h.dx.sm y hy⟩
theorem QX.freeG (h : QX A S0 w0 w gd d k S J g b n q jv) {y : Nat} (hy : y = g ∨ y = b) : ¬ A y ∧ (S0 y ∨ w0.heap.size ≤ y) := by
 rcases hy with rfl | rfl
 ·exact ⟨h.gs.2.2.1, .inr h.gs.2.2.2.2.1⟩
 ·exact ⟨h.gs.2.2.2.1, .inr h.gs.2.2.2.2.2⟩
theorem QAt.more (h : QAt A S0 w0 w gd d k g n q) (hk : k ≤ k') (hn : n ≤ m) : QAt A S0 w0 w gd d k' g m q := let ⟨_, _, _, _, h⟩ := h; ⟨_, _, _, _, h.more hk hn⟩
theorem QAt.keeps (h : QAt A S0 w0 w gd d k g n q) (hk : Keeps w w') : QAt A S0 w0 w' gd d k g n q := let ⟨_, _, _, _, h⟩ := h; ⟨_, _, _, _, h.keeps hk⟩
end
end Que
end Go.Proofs.YtcleakjjefmmbaaGreat

/- queue: the disk's calls beside a queue. -/
namespace Go.Proofs.YtcleakjjefmmbaaGreat
open Go.RowKit
namespace Que
open Vd (DiskAt Dsk On Few More)
open Sf (Says Tells Stays sMake sDrop sAppend sSwap)
theorem nameQ_le (id : Int) : (nameQ id).length ≤ 14 := by
 unfold nameQ
 split
 ·rw [List.length_cons, dig_len]
  exact Nat.le_refl _
 ·simp
theorem stays_keeps {S : Nat → Prop} {w w' : World} {v : Value} {l : List Value} (h : Stays S w v l) (hk : Keeps w w') : Stays S w' v l := fun w2 hm => h w2 ((Mods.of_keeps (S := S) hk).trans hm (fun y hy _ => hy))
section
variable {A S0 S J : Nat → Prop} {w0 w X : World} {gd g b n k : Nat} {d : Dsk} {q : QuP} {jv : JL}
def Did (A S0 : Nat → Prop) (w0 w X : World) (gd g b n : Nat) (q : QuP) (jv : JL) (S J : Nat → Prop) (r : Dsk × Int) (k : Nat) (c : Int) (X' : World) : Prop := c = r.2 ∧ QX A S0 w0 X' gd r.1 k (More S X X') J g b n q jv ∧ Mods S w X'
theorem did_of (h : QX A S0 w0 w gd d k S J g b n q jv) (hkx : Keeps w X) {r : Dsk × Int} {k' : Nat} {f : Nat} {args : Array Value} (hc : Calls Tryz.prog f args X (Says (Tells S X gd r k'))) : Calls Tryz.prog f args X (Says (Did A S0 w0 w X gd g b n q jv S J r k')) :=
 hc.mono (fun _ _ ⟨c, h1, h2, h3⟩ => ⟨c, h1, h2, (h.keeps hkx).call h3, (Mods.of_keeps (S := S) hkx).trans h3.mods (fun y hy _ => hy)⟩)
theorem make_at (h : QX A S0 w0 w gd d k S J g b n q jv) (hk : k ≤ 89970) (hkx : Keeps w X) {l : Str} {p : Option Addr} {c : Nat} (hs : Stays S w (.slice p l.length c) (l.map u8v)) (hl : l.length ≤ 1000000000) (id : Int) :
  Calls Tryz.prog 60 #[.pointer (some ⟨gd, 0, none⟩), .string (bstr (nameQ id)), .slice p l.length c] X (Says (Did A S0 w0 w X gd g b n q jv S J (sMake (nameQ id) l d) (k + 8))) :=
 did_of h hkx (Sf.smake_on (h.keeps hkx).dx.on hk (by have := nameQ_le id; omega) (stays_keeps hs hkx) hl)
theorem append_at (h : QX A S0 w0 w gd d k S J g b n q jv) (hk : k ≤ 89970) (hkx : Keeps w X) {l : Str} {p : Option Addr} {c : Nat} (hs : Stays S w (.slice p l.length c) (l.map u8v)) (hl : l.length ≤ 1000000000) (id : Int) :
  Calls Tryz.prog 62 #[.pointer (some ⟨gd, 0, none⟩), .string (bstr (nameQ id)), .slice p l.length c] X (Says (Did A S0 w0 w X gd g b n q jv S J (sAppend (nameQ id) l d) (k + 3))) :=
 did_of h hkx (Sf.sappend_on (h.keeps hkx).dx.on (by omega) (by have := nameQ_le id; unfold maxLen; omega) (stays_keeps hs hkx) hl)
theorem swap_at (h : QX A S0 w0 w gd d k S J g b n q jv) (hk : k ≤ 89960) (hkx : Keeps w X) {l : Str} {p : Option Addr} {c : Nat} (hs : Stays S w (.slice p l.length c) (l.map u8v)) (hl : l.length ≤ 1000000000) (id : Int) :
  Calls Tryz.prog 63 #[.pointer (some ⟨gd, 0, none⟩), .string (bstr (nameQ id)), .slice p l.length c] X (Says (Did A S0 w0 w X gd g b n q jv S J (sSwap (nameQ id) l d) (k + 10))) :=
 did_of h hkx (Sf.sswap_on (h.keeps hkx).dx.on hk (by have := nameQ_le id; omega) (stays_keeps hs hkx) hl)
theorem drop_at (h : QX A S0 w0 w gd d k S J g b n q jv) (hk : k ≤ 89970) (hkx : Keeps w X) {x : Str} (hx : x.length ≤ 100) :
  Calls Tryz.prog 45 #[.pointer (some ⟨gd, 0, none⟩), .string (bstr x)] X (Says (Did A S0 w0 w X gd g b n q jv S J (sDrop x d) (k + 3))) :=
 did_of h hkx (Sf.sdrop_on (h.keeps hkx).dx.on hk hx)
end
end Que
end Go.Proofs.YtcleakjjefmmbaaGreat

/- Several texts in one: QuOpnM, QuOpen. -/
import Derived.Test.YtcleakjjefmmbaaGreatK45
import Derived.Test.YtcleakjjefmmbaaGreatK43
import Derived.Test.YtcleakjjefmmbaaGreatQuDel
import Derived.Test.YtcleakjjefmmbaaGreatK47
import Derived.Test.YtcleakjjefmmbaaGreatK39
import Derived.Test.YtcleakjjefmmbaaGreatK38
/- queue: a map of kept jobs by names; what Open leaves. -/
namespace Go.Proofs.YtcleakjjefmmbaaGreat
open Go.RowKit
namespace Que
open Mp Go.Maps
open Vd (DiskAt Dsk On Few More strKeyed keyS)
open Env (JobP)
abbrev SL := List (Str × KpX)
def MpS (w : World) (b n : Nat) (av : SL) : Prop := ∃ D, w.ownsMap Tryz.prog 9 kpElem b n D ∧ MapOf (fun s : List UInt8 => Lit.string s) kpD D (av.map fun p => (p.1, p.2.v))
section
variable {w w' : World} {J S : Nat → Prop} {b n : Nat} {av : SL}
theorem MpS.keeps (h : MpS w b n av) (k : Keeps w w') : MpS w' b n av := let ⟨D, h1, h2⟩ := h; ⟨D, Usr.map_keepsS h1 k, h2⟩
theorem MpS.mods (h : MpS w b n av) (k : Mods S w w') (hn : ¬ S b) : MpS w' b n av := let ⟨D, h1, h2⟩ := h; ⟨D, Usr.map_modsS h1 k hn, h2⟩
theorem MpS.lt (h : MpS w b n av) : b < w.heap.size := let ⟨_, h1, _⟩ := h; h1.lt
theorem MpS.new (w : World) : MpS (w.alloc (.map #[] 0)) w.heap.size 0 [] := ⟨_, World.ownsMap_made w Tryz.prog _ _, MapOf.new⟩
theorem MpS.look (h : MpS w b n av) {x : Str} (hx : x.length ≤ maxLen) :
  (Instr.lookup 115 (.map (some b)) (.string (bstr x)) true).run Tryz.prog w = .ok (.tuple #[kpV (((Mp.look av x).map (·.v)).getD zeroK), .bool (Mp.look av x).isSome]) w := by
 obtain ⟨D, h1, h2⟩ := h
 obtain ⟨v, ps, hrun, hv⟩ := h1.look_ok strKeyed Tryz.underlying115 (zeroK_run w) (kpElem_mk zeroK) (keyS hx)
 have hat := h2.at_ strKind x zeroK
 have hh := h2.has strKind x
 rw [show D.atKey (Lit.string x) (kpD zeroK) = _ from hat] at hv
 rw [hrun, kpElem_inv hv, show Maps.has D (Lit.string x) = _ from hh]
 rw [map_at]
 cases Mp.look av x <;> rfl
theorem MpS.put (h : MpS w b n av) (hn : n < 1000000) {x : Str} (hx : x.length ≤ maxLen) (e : KpX) : ∃ w', (Instr.mapUpdate 115 (.map (some b)) (.string (bstr x)) (kpV e.v)).run Tryz.prog w = .ok () w' ∧ MpS w' b (n + 1) (Mp.putL av x e) ∧ Mods (· = b) w w' := by
 obtain ⟨D, h1, h2⟩ := h
 obtain ⟨w', hup, hD, ht⟩ := h1.store strKeyed Tryz.underlying115 (by unfold maxLen; omega) (val := kpV e.v) (d := kpD e.v) (ps := []) (keyS hx) (kpElem_mk _)
 refine ⟨w', hup, ⟨_, hD, ?_⟩, Usr.turnedS ht⟩
 have := h2.put strKind x e.v
 rw [put_map KpX.v av x e] at this
 exact this
end
def pS (av : SL) : List (Str × (JobP × Bool)) := av.map fun p => (p.1, p.2.p)
theorem look_pS (av : SL) (x : Str) : Mp.look (pS av) x = (Mp.look av x).map (·.p) := map_at _ _ _
/-- a map of kept jobs beside a queue -/
structure AllIn (w : World) (A S0 S J : Nat → Prop) (w0 : World) (g b b2 n : Nat) (av : SL) : Prop where
 map : MpS w b2 n av
 is_ : ∀ p ∈ av, KpIs w J p.2
 gd : ∀ p ∈ av, Env.goodJ p.2.j = true
 ns : ¬ S b2 ∧ ¬ J b2 ∧ b2 ≠ g ∧ b2 ≠ b ∧ w0.heap.size ≤ b2
def OpenDid (S : Nat → Prop) (w : World) (gd : Nat) (r : (Option QuP × Int) × Dsk) (k m : Nat) (e : Ending) (w' : World) : Prop :=
 ∃ S' J', DX (fun _ => False) S w w' gd r.2 k S' J' ∧ ((r.1.1 = none ∧ e = .returned (.tuple #[.pointer none, .int .i64 r.1.2])) ∨ ∃ q g b n jv, r.1.1 = some q ∧ n ≤ m ∧ e = .returned (.tuple #[.pointer (some ⟨g, 0, none⟩), .int .i64 r.1.2]) ∧ QX (fun _ => False) S w w' gd r.2 k S' J' g b n q jv)
section
variable {w w' X : World} {A S0 S J T : Nat → Prop} {w0 : World} {g b b2 n m k : Nat} {av : SL} {v : Value} {l : List Value}
theorem AllIn.keeps (h : AllIn w A S0 S J w0 g b b2 n av) (hk : Keeps w w') : AllIn w' A S0 S J w0 g b b2 n av := ⟨h.map.keeps hk, fun p hp => (h.is_ p hp).mods (S := fun _ => False) (Mods.of_keeps hk) (fun _ h => h.elim), h.gd, h.ns⟩
/-- new blocks for good -/
theorem AllIn.jobs (h : AllIn w A S0 S J w0 g b b2 n av) (hk : Keeps w w') : AllIn w' A S0 S (MoreJ J w w') w0 g b b2 n av := by
 have h2 := h.keeps hk
 refine ⟨h2.map, fun p hp => (h2.is_ p hp).wide (fun y hy => .inl hy), h.gd, h.ns.1, ?_, h.ns.2.2⟩
 rintro (hj | hj)
 ·exact h.ns.2.1 hj
 ·have := h.map.lt; omega
/-- the queue was written -/
theorem AllIn.own (h : AllIn w A S0 S J w0 g b b2 n av) (hm : Mods T w w') (hT : ∀ y, T y → (y = g ∨ y = b) ∧ ¬ J y) : AllIn w' A S0 S J w0 g b b2 n av :=
 ⟨h.map.mods hm (fun ht => by rcases (hT _ ht).1 with e | e; exact h.ns.2.2.1 e; exact h.ns.2.2.2.1 e), fun p hp => (h.is_ p hp).mods hm (fun y hy => (hT y hy).2), h.gd, h.ns⟩
/-- the disk was written -/
theorem AllIn.call (h : AllIn w A S0 S J w0 g b b2 n av) (hm : Mods S w w') (hJ : ∀ y, S y → ¬ J y) (hX : w.heap.size ≤ X.heap.size) : AllIn w' A S0 (More S X w') J w0 g b b2 n av := by
 refine ⟨h.map.mods hm h.ns.1, fun p hp => (h.is_ p hp).mods hm hJ, h.gd, ?_, h.ns.2⟩
 rintro (hy | hy)
 ·exact h.ns.1 hy
 ·have := h.map.lt
  omega
theorem RowJ.mods (h : RowJ w J v l) (k : Mods T w w') (hn : ∀ y, T y → ¬ J y) : RowJ w' J v l := fun S' w2 k2 hn2 =>
 h (fun y => T y ∨ S' y) w2 ((k.mono (fun _ h => .inl h)).trans k2 (fun y hy _ => .inr hy)) (fun y hy => hy.elim (hn y) (hn2 y))
theorem RowJ.keeps (h : RowJ w J v l) (k : Keeps w w') : RowJ w' J v l := h.mods (T := fun _ => False) (Mods.of_keeps k) (fun _ h => h.elim)
theorem RowJ.wide {J' : Nat → Prop} (h : RowJ w J v l) (hJ : ∀ y, J y → J' y) : RowJ w J' v l := fun S w' k hn => h S w' k (fun y hy hj => hn y hy (hJ y hj))
theorem RowJ.row (h : RowJ w J v l) : Row w v l := h (fun _ => False) w (Mods.refl _ _) (fun _ h => h.elim)
theorem rowJ_of (hr : Row w v l) (hb : ∀ a n c, v = .slice (some a) n c → J a.block) : RowJ w J v l := fun S w' hm hn => by
 rcases hr with h | ⟨b', off, cap, hv, h1, h2, h3⟩
 ·exact .inl h
 ·exact .inr ⟨b', off, cap, hv, h1, h2, fun i x hx => hm.cell (h3 i x hx) (fun hs => hn b' hs (hb ⟨b', off, none⟩ _ _ hv))⟩
end
end Que
end Go.Proofs.YtcleakjjefmmbaaGreat

/- queue: Open. -/
namespace Go.Proofs.YtcleakjjefmmbaaGreat
open Go.RowKit
namespace Que
open Mp Go.Maps
open Vd (DiskAt Dsk On Few More namesD NamesDid)
open Sf (Says Tells Stays sTidy sDrop)
open Env (JobP jobA jobM doneB goodJ)
open Bds (SlQ)
open Frm (ownsRow_base)
theorem strV_eq (l : Vd.Nms) : Vd.nameV l = (l.map (·.1)).map sV := by
 unfold Vd.nameV
 rw [List.map_map]
 rfl
theorem openQ_tidy {d : Dsk} {least : Int} (h : d.off = false) (he : (sTidy [113] d).2 ≠ 0) : openQ d least = ((none, (sTidy [113] d).2), (sTidy [113] d).1) := by
 unfold openQ
 rw [if_neg (by simp [h]), if_pos he]
/-- Open, behind Tidy -/
def openT (d1 : Dsk) (least : Int) : (Option QuP × Int) × Dsk :=
 if (scanQ d1 (namesQ d1) ⟨nextQ least, 0, []⟩).1 ≠ 0 then ((none, (scanQ d1 (namesQ d1) ⟨nextQ least, 0, []⟩).1), d1)
 else
  let sc := (scanQ d1 (namesQ d1) ⟨nextQ least, 0, []⟩).2
  let sw := sweepQ sc.all sc.last (namesQ d1) ([], d1)
  if sw.1 ≠ 0 then ((none, sw.1), sw.2.2) else ((some ⟨sc.next, sc.last, sw.2.1⟩, 0), sw.2.2)
theorem openQ_then {d : Dsk} {least : Int} (h : d.off = false) (he : (sTidy [113] d).2 = 0) : openQ d least = openT (sTidy [113] d).1 least := by
 unfold openQ openT
 rw [if_neg (by simp [h]), if_neg (by simp [he])]
theorem qx_new {A S0 S J : Nat → Prop} {w0 w : World} {gd k : Nat} {d : Dsk} (h : DX A S0 w0 w gd d k S J) :
  QX A S0 w0 ((w.alloc (.map #[] 0)).alloc (.cells #[.pointer (some ⟨gd, 0, none⟩), .int .i64 1, .map (some w.heap.size), .int .i64 0] 112)) gd d k S J (w.heap.size + 1) w.heap.size 0 ⟨1, 0, []⟩ [] := by
 have hz : (w.alloc (.map #[] 0)).heap.size = w.heap.size + 1 := by simp
 have hk : Keeps w ((w.alloc (.map #[] 0)).alloc (.cells #[.pointer (some ⟨gd, 0, none⟩), .int .i64 1, .map (some w.heap.size), .int .i64 0] 112)) := ((Keeps.refl w).alloc _).alloc _
 have h0 := h.mods.size
 refine ⟨h.keeps hk, ⟨Blk.new _ _ _ hz.symm, (MpI.new w).keeps ((Keeps.refl _).alloc _), rfl, fun p hp => absurd hp List.not_mem_nil, fun hj => ?_, fun hj => ?_⟩, fun hs => ?_, fun hs => ?_, fun ha => ?_, fun ha => ?_, by omega, h0⟩
 ·have := (h.jl _ hj).2; omega
 ·have := (h.jl _ hj).2; omega
 ·have := (h.lt _ hs).1; omega
 ·have := (h.lt _ hs).1; omega
 ·have := h.al _ ha; omega
 ·have := h.al _ ha; omega
/-- a block of another's was written -/
theorem QX.apart {A S0 S J T : Nat → Prop} {w0 w w' : World} {gd g b n k : Nat} {d : Dsk} {q : QuP} {jv : JL} (h : QX A S0 w0 w gd d k S J g b n q jv) (hm : Mods T w w') (hT : ∀ y, T y → ¬ S y ∧ ¬ J y ∧ y ≠ g ∧ y ≠ b ∧ w0.heap.size ≤ y) : QX A S0 w0 w' gd d k S J g b n q jv :=
 ⟨h.dx.own hm (fun y hy => ⟨(hT y hy).1, (hT y hy).2.2.2.2⟩), h.qu.mods hm (fun y hy => (hT y hy).2.1) (fun ht => (hT _ ht).2.2.1 rfl) (fun ht => (hT _ ht).2.2.2.1 rfl), h.gs⟩
/-- the first round's state -/
structure S1 (S : Nat → Prop) (w wr : World) (gd : Nat) (d1 : Dsk) (k : Nat) (S2 : Nat → Prop) (g b b2 : Nat) (v : Value) (ns : List Str) (s0 : ScS) (j : Nat) (sc : ScS) (av : SL) (J : Nat → Prop) : Prop where
 jl : j ≤ ns.length
 qx : QX (fun _ => False) S w wr gd d1 k S2 J g b 0 ⟨sc.next, sc.last, []⟩ []
 al : ∃ n, n ≤ j ∧ AllIn wr (fun _ => False) S S2 J w g b b2 n av
 ps : pS av = sc.all
 row : RowJ wr J v (ns.map sV)
 run : scanQ d1 ns s0 = scanQ d1 (ns.drop j) sc
 nx : 1 ≤ sc.next ∧ sc.next ≤ 1099511627777
theorem S1.keeps {S S2 J : Nat → Prop} {w wr wr' : World} {gd k g b b2 j : Nat} {d1 : Dsk} {v : Value} {ns : List Str} {s0 sc : ScS} {av : SL} (h : S1 S w wr gd d1 k S2 g b b2 v ns s0 j sc av J) (hk : Keeps wr wr') : S1 S w wr' gd d1 k S2 g b b2 v ns s0 j sc av J :=
 ⟨h.jl, h.qx.keeps hk, let ⟨n, h1, h2⟩ := h.al; ⟨n, h1, h2.keeps hk⟩, h.ps, h.row.keeps hk, h.run, h.nx⟩
/-- the second round's state -/
structure S3 (S : Nat → Prop) (w wr : World) (gd : Nat) (d1 : Dsk) (k : Nat) (g b b2 : Nat) (v : Value) (ns : List Str) (sc : ScS) (av : SL) (J : Nat → Prop) (j : Nat) (d : Dsk) (jv : JL) (S2 : Nat → Prop) (n : Nat) : Prop where
 jl : j ≤ ns.length
 qx : QX (fun _ => False) S w wr gd d (k + 3 * j) S2 J g b n ⟨sc.next, sc.last, pL jv⟩ jv
 nj : n ≤ j
 al : ∃ n, AllIn wr (fun _ => False) S S2 J w g b b2 n av
 row : RowJ wr J v (ns.map sV)
 run : sweepQ sc.all sc.last ns ([], d1) = sweepQ sc.all sc.last (ns.drop j) (pL jv, d)
theorem S3.keeps {S S2 J : Nat → Prop} {w wr wr' : World} {gd k g b b2 j n : Nat} {d1 d : Dsk} {v : Value} {ns : List Str} {sc : ScS} {av : SL} {jv : JL} (h : S3 S w wr gd d1 k g b b2 v ns sc av J j d jv S2 n) (hk : Keeps wr wr') : S3 S w wr' gd d1 k g b b2 v ns sc av J j d jv S2 n :=
 ⟨h.jl, h.qx.keeps hk, h.nj, let ⟨n, h2⟩ := h.al; ⟨n, h2.keeps hk⟩, h.row.keeps hk, h.run⟩
/-- a file was dropped -/
theorem S3.drop {S S2 J : Nat → Prop} {w wr wr' : World} {gd k g b b2 j n : Nat} {d1 d d' : Dsk} {v : Value} {ns : List Str} {sc : ScS} {av : SL} {jv : JL} (h : S3 S w wr gd d1 k g b b2 v ns sc av J j d jv S2 n) (hq : QX (fun _ => False) S w wr' gd d' (k + 3 * j + 3) (More S2 wr wr') J g b n ⟨sc.next, sc.last, pL jv⟩ jv) (hm : Mods S2 wr wr') (hl : j < ns.length) (hr : sweepQ sc.all sc.last (ns.drop j) (pL jv, d) = sweepQ sc.all sc.last (ns.drop (j + 1)) (pL jv, d')) :
  S3 S w wr' gd d1 k g b b2 v ns sc av J (j + 1) d' jv (More S2 wr wr') n :=
 ⟨hl, hq.more (by omega) (Nat.le_refl _), Nat.le_succ_of_le h.nj, let ⟨n, h2⟩ := h.al; ⟨n, h2.call hm (fun y hy => (h.qx.dx.lt y hy).2.1) (Nat.le_refl _)⟩, h.row.mods hm (fun y hy => (h.qx.dx.lt y hy).2.1), h.run.trans hr⟩
theorem S3.same {S S2 J : Nat → Prop} {w wr : World} {gd k g b b2 j n : Nat} {d1 d : Dsk} {v : Value} {ns : List Str} {sc : ScS} {av : SL} {jv : JL} (h : S3 S w wr gd d1 k g b b2 v ns sc av J j d jv S2 n) (hl : j < ns.length) (hr : sweepQ sc.all sc.last (ns.drop j) (pL jv, d) = sweepQ sc.all sc.last (ns.drop (j + 1)) (pL jv, d)) :
  S3 S w wr gd d1 k g b b2 v ns sc av J (j + 1) d jv S2 n :=
 ⟨hl, h.qx.more (by omega) (Nat.le_refl _), Nat.le_succ_of_le h.nj, h.al, h.row, h.run.trans hr⟩
theorem S3.put {S S2 J : Nat → Prop} {w wr wr' : World} {gd k g b b2 j n : Nat} {d1 d : Dsk} {v : Value} {ns : List Str} {sc : ScS} {av : SL} {jv : JL} (h : S3 S w wr gd d1 k g b b2 v ns sc av J j d jv S2 n) {e : KpX} (hq : QuIn wr' J g b gd (n + 1) ⟨sc.next, sc.last, Mp.putL (pL jv) e.j.id e.p⟩ (Mp.putL jv e.j.id e)) (hm : Mods (· = b) wr wr') (hl : j < ns.length) (hr : sweepQ sc.all sc.last (ns.drop j) (pL jv, d) = sweepQ sc.all sc.last (ns.drop (j + 1)) (pL (Mp.putL jv e.j.id e), d)) :
  S3 S w wr' gd d1 k g b b2 v ns sc av J (j + 1) d (Mp.putL jv e.j.id e) S2 (n + 1) := by
 have hp : Mp.putL (pL jv) e.j.id e.p = pL (Mp.putL jv e.j.id e) := put_map KpX.p jv e.j.id e
 rw [hp] at hq
 exact ⟨hl, (h.qx.own hq hm (fun y hy => .inr hy)).more (by omega) (Nat.le_refl _), Nat.succ_le_succ h.nj, let ⟨n, h2⟩ := h.al; ⟨n, h2.own hm (fun y hy => ⟨.inr hy, by rw [hy]; exact h.qx.qu.nb⟩)⟩, h.row.mods hm (fun y hy => by rw [hy]; exact h.qx.qu.nb), h.run.trans hr⟩
theorem sweep_cons {all : List (Str × (JobP × Bool))} {last : Int} {x : Str} {l : List Str} {s : List (Int × (JobP × Bool)) × Dsk} : sweepQ all last (x :: l) s = if dropsB last (Mp.look all x) then (if (sDrop x s.2).2 ≠ 0 then ((sDrop x s.2).2, (s.1, (sDrop x s.2).1)) else sweepQ all last l (s.1, (sDrop x s.2).1))
  else match Mp.look all x with
   |none => sweepQ all last l s
   |some k => if doneB k.1 then sweepQ all last l s else sweepQ all last l (putL s.1 k.1.id k, s.2) := rfl
theorem scan_cons {d : Dsk} {x : Str} {l : List Str} {s : ScS} : scanQ d (x :: l) s = if numQ x = 0 then (12, s) else if (loadQ d x (numQ x)).2.2 ≠ 0 then ((loadQ d x (numQ x)).2.2, ⟨max s.next ((numQ x : Int) + 1), s.last, s.all⟩) else scanQ d l (scanStep d s x) := rfl
section
variable {S J : Nat → Prop} {w : World} {gd k N : Nat} {d : Dsk}
set_option maxRecDepth 100000 in
set_option maxHeartbeats 16000000 in
theorem open_any (h : DX (fun _ => False) S w w gd d k S (fun _ => False)) (hk : k + 4 * N ≤ 80000) (hN : d.seen.length ≤ N) (hN2 : (sTidy [113] d).1.seen.length ≤ N) (hx : ∀ y ∈ d.seen, y.1.length ≤ 100) (hx2 : ∀ y ∈ (sTidy [113] d).1.seen, y.1.length ≤ 100) (least : Int) (hls : (Lit.int .i64 least).wf = true) :
  Calls Tryz.prog 10 #[.pointer (some ⟨gd, 0, none⟩), .int .i64 least] w (OpenDid S w gd (openQ d least) (k + 4 * N) N) := by
 have HD := Lib.hid h
 have HK := Lib.hid (And.intro hk (And.intro hN hN2))
 have HXL := Lib.hid (And.intro hx hx2)
 have HDN := Lib.hid (Vd.down_any w h.dsk)
 have HTD := Lib.hid (Sf.stidy_on h.on [113] (by decide) (fun y hy => Nat.le_trans (hx y hy) (by decide)) hN (by omega))
 clear h hk hN hN2 hx hx2
 go_enter Tryz.func10, Tryz.ntmps10
 go_wp2_with fail
 refine HDN.out.mono ?_
 rintro e w1 ⟨rfl, rfl⟩
 by_cases hoff : d.off = true
 ·have HR := Lib.hid (show openQ d least = ((none, 11), d) from by unfold openQ; rw [if_pos hoff])
  rw [hoff]
  clear hoff
  go_wp2_with fail
  go_ret2
  rw [HR.out]
  exact ⟨S, fun _ => False, HD.out.more (by omega), .inl ⟨rfl, rfl⟩⟩
 have hoff : d.off = false := by simpa using hoff
 have HOFF := Lib.hid hoff
 rw [hoff]
 clear hoff HDN
 go_wp2_with fail
 refine HTD.out.mono ?_
 rintro e w2 ⟨c, rfl, hc, hon⟩
 have HX2 := Lib.hid (HD.out.call hon)
 clear hon HTD HD
 have HQ1 := Lib.hid (fun he => openQ_tidy (d := d) (least := least) HOFF.out he)
 have HQ2 := Lib.hid (fun he => openQ_then (d := d) (least := least) HOFF.out he)
 have HOF2 := Lib.hid (fun he => tidy_on (d := d) HOFF.out he)
 generalize hT : sTidy [113] d = T at *
 obtain ⟨d1, e1⟩ := T
 have HT := Lib.hid hT
 simp only at HX2 HQ1 HQ2 hc HXL HK HOF2
 obtain rfl : c = e1 := hc
 clear hT
 obtain ⟨S2, hS2⟩ : ∃ z, More S w w2 = z := ⟨_, rfl⟩
 rw [hS2] at HX2
 clear hS2
 by_cases he : c = 0
 ·subst he
  have HQ := Lib.hid (HQ2.out rfl)
  have HO1 := Lib.hid (HOF2.out rfl)
  clear HQ1 HQ2 HOF2
  have HWS := Lib.hid (show w.heap.size ≤ w2.heap.size ∧ (∀ y, S2 y → y < w2.heap.size) from ⟨HX2.out.mods.size, fun y hy => (HX2.out.lt y hy).1⟩)
  have hmk1 : ∀ w, (Instr.makeMap 110 none).run Tryz.prog w = .ok (.map (some w.heap.size)) (w.alloc (.map #[] 0)) := fun w => run_makeMap _ w
  have hmk2 : ∀ w, (Instr.makeMap 115 none).run Tryz.prog w = .ok (.map (some w.heap.size)) (w.alloc (.map #[] 0)) := fun w => run_makeMap _ w
  go_upto_region 7 with fail
  have HX3 := Lib.hid (qx_new HX2.out)
  generalize hW : World.alloc (World.alloc w2 _) _ = w3
  rw [hW] at HX3
  have HK3 := Lib.hid (show Keeps w2 w3 from by rw [← hW]; exact ((Keeps.refl w2).alloc _).alloc _)
  clear hW
  obtain ⟨b, hb⟩ : ∃ z, w2.heap.size = z := ⟨_, rfl⟩
  rw [hb] at HX3 ⊢
  obtain ⟨g, hg⟩ : ∃ z, b + 1 = z := ⟨_, rfl⟩
  have HGB := Lib.hid (And.intro hb hg)
  first | rw [hg] at HX3 ⊢ | skip
  clear hb hg HX2
  go_upto_if 33 with fail
  go_cut [33] (fun _ wx => Hid (QX (fun _ => False) S w wx gd d1 (k + N) S2 (fun _ => False) g b 0 ⟨nextQ least, 0, []⟩ [] ∧ Keeps w2 wx))
  case first =>
   by_cases hl : least ≤ 1099511627776
   ·have dl1 : decide (least ≤ 1099511627776) = true := decide_eq_true hl
    have HNX := Lib.hid (show nextQ least = max 1 least from by unfold nextQ; rw [if_pos hl])
    have c1 : w3.cell? ⟨g, 1, none⟩ = some (.int .i64 1) := HX3.out.qu.cells.2.1
    have g1 : w3.frozen? ⟨g, 1, none⟩ = false := HX3.out.qu.blk.frozen 1
    have HS := Lib.hid (HX3.out.qu.setNext (max 1 least))
    clear hl
    rw [dl1]
    go_wp2_with fail
    go_meet
    rw [HNX.out]
    exact Lib.hid ⟨HX3.out.own HS.out.1 HS.out.2 (fun y hy => .inl hy), HS.out.2.keeps HK3.out (fun y hy => by rw [hy, ← HGB.out.2, ← HGB.out.1]; exact Nat.le_succ _)⟩
   ·have dl1 : decide (least ≤ 1099511627776) = false := decide_eq_false hl
    have HNX := Lib.hid (show nextQ least = 1 from by unfold nextQ; rw [if_neg hl])
    clear hl
    rw [dl1]
    go_wp2_with fail
    go_meet
    rw [HNX.out]
    exact Lib.hid ⟨HX3.out, HK3.out⟩
  case rest =>
  clear HX3 HK3
  have HX4 := Lib.hid hcut.out.1
  have HK4 := Lib.hid hcut.out.2
  clear hcut
  obtain ⟨w4, rfl⟩ : ∃ z : World, z = wc := ⟨_, rfl⟩
  have HNM := Lib.hid (Vd.names_any w4 HX4.out.dx.dsk)
  unfold NamesDid at HNM
  have HNE := Lib.hid (show Vd.nameV (namesD d1) = (d1.seen.map (·.1)).map sV from by rw [strV_eq]; unfold namesD; rw [HO1.out]; rfl)
  rw [HNE.out] at HNM
  have HLN := Lib.hid (show ∀ x ∈ d1.seen.map (·.1), x.length ≤ 100 from fun x hx => by
   obtain ⟨y, hy, rfl⟩ := List.mem_map.1 hx
   exact HXL.out.2 y hy)
  have HNQ := Lib.hid (show namesQ d1 = (d1.seen.map (·.1)).filter isQ from rfl)
  have HNL := Lib.hid (show (d1.seen.map (·.1)).length ≤ N from by rw [List.length_map]; exact HK.out.2.2)
  clear HNE
  generalize d1.seen.map (·.1) = nl at *
  go_wp2_with fail
  refine HNM.out.mono ?_
  rintro e w5 ⟨v5, rfl, ho5, hk5⟩
  have HDL := Lib.hid (del_any w5 w4.heap.size v5 nl ho5 (fun x hx => Nat.le_trans (HLN.out x hx) (by decide)))
  have HO5 := Lib.hid ho5
  obtain ⟨p5, n5, c5, rfl⟩ := ho5.sl
  have HK5 := Lib.hid hk5
  clear ho5 hk5 HNM
  unfold DelDid at HDL
  go_wp2_with fail
  refine HDL.out.mono ?_
  rintro e w6 ⟨v6, rfl, hr6, hb6, hm6⟩
  have HK6 := Lib.hid (show Keeps w4 w6 from hm6.keeps HK5.out (fun y hy => ownsRow_base HO5.out y hy))
  have HX6 := Lib.hid (HX4.out.jobs HK6.out)
  obtain ⟨J6, hJ6⟩ : ∃ z, MoreJ (fun _ => False) w4 w6 = z := ⟨_, rfl⟩
  have HR6 := Lib.hid (show RowJ w6 J6 v6 ((nl.filter isQ).map sV) from rowJ_of hr6 (fun a n c hv => by
   rw [← hJ6]
   have h1 := hb6 a n c hv
   have h2 := HO5.out
   exact .inr ⟨ownsRow_base h2 _ h1, Nat.lt_of_lt_of_le (own_lt3 h2 h1) hm6.size⟩))
  rw [hJ6] at HX6
  have HK0 := Lib.hid (HK4.out.trans HK6.out)
  obtain ⟨p6, c6, hv6, -, -⟩ := hr6.form
  subst hv6
  have HLQ := Lib.hid (show ∀ x ∈ nl.filter isQ, x.length ≤ 100 from fun x hx => HLN.out x (List.mem_filter.1 hx).1)
  have HNF := Lib.hid (show (nl.filter isQ).length ≤ N from Nat.le_trans (List.length_filter_le _ _) HNL.out)
  rw [List.length_map] at HR6 ⊢
  generalize nl.filter isQ = ns at *
  clear hr6 hb6 hm6 HDL HO5 HK5 HK6 HX4 HK4 hJ6 HLN HNL
  go_upto_region 11 with fail
  have HA7 := Lib.hid (MpS.new w6)
  have HKA := Lib.hid ((Keeps.refl w6).alloc (.map #[] 0))
  generalize World.alloc w6 _ = w7 at *
  obtain ⟨b2, hb2⟩ : ∃ z, w6.heap.size = z := ⟨_, rfl⟩
  have HA := Lib.hid (show AllIn w7 (fun _ => False) S S2 J6 w g b b2 0 [] from by
   refine ⟨by rw [← hb2]; exact HA7.out, fun p hp => absurd hp List.not_mem_nil, fun p hp => absurd hp List.not_mem_nil, fun hs => ?_, fun hj => ?_, ?_, ?_, ?_⟩
   ·have := (HX6.out.dx.lt _ hs).1; omega
   ·have := (HX6.out.dx.jl _ hj).2; omega
   ·have := HX6.out.qu.blk.lt; omega
   ·have := HX6.out.qu.map.lt; omega
   ·have := HX6.out.dx.mods.size; omega)
  rw [hb2]
  have HX7 := Lib.hid (HX6.out.keeps HKA.out)
  have HR7 := Lib.hid (HR6.out.keeps HKA.out)
  clear HA7 HKA hb2 HX6 HR6 hmk1 hmk2
  have HS0 := Lib.hid (show S1 S w w7 gd d1 (k + N) S2 g b b2 (.slice p6 ns.length c6) ns ⟨nextQ least, 0, []⟩ 0 ⟨nextQ least, 0, []⟩ [] J6 from
   ⟨Nat.zero_le _, HX7.out, ⟨0, Nat.le_refl _, HA.out⟩, rfl, HR7.out, rfl, by show 1 ≤ nextQ least ∧ nextQ least ≤ 1099511627777; unfold nextQ; split <;> omega⟩)
  obtain ⟨s0, hs0⟩ : ∃ z : ScS, (⟨nextQ least, 0, []⟩ : ScS) = z := ⟨_, rfl⟩
  have HQO := Lib.hid (show openQ d least = if (scanQ d1 ns s0).1 ≠ 0 then ((none, (scanQ d1 ns s0).1), d1)
   else
    let sc := (scanQ d1 ns s0).2
    let sw := sweepQ sc.all sc.last ns ([], d1)
    if sw.1 ≠ 0 then ((none, sw.1), sw.2.2) else ((some ⟨sc.next, sc.last, sw.2.1⟩, 0), sw.2.2) from by rw [HQ.out, ← hs0, ← HNQ.out]; rfl)
  rw [hs0] at HS0
  clear HX7 HA HR7 hs0 HQ HNQ hls
  have hnf := HNF.out
  have hkk := HK.out.1
  go_wp2_with fail
  go_loopw [49] (fun iv wr => ∃ (j : Nat) (sc : ScS) (av : SL) (J : Nat → Prop), iv = .int .i64 (j : Int) ∧ Hid (S1 S w wr gd d1 (k + N) S2 g b b2 (.slice p6 ns.length c6) ns s0 j sc av J)) (fun iv _ => ns.length - (RowKit.intOf iv).toNat)
  case atStart => exact ⟨0, _, _, _, rfl, HS0⟩
  case round =>
   clear HS0
   obtain ⟨j, sc, av, J, rfl, HH⟩ := hrel
   by_cases hlt : j < ns.length
   ·have hd : decide ((j : Int) < (ns.length : Int)) = true := decide_eq_true (by omega)
    have hw : IntKind.i64.wrap ((j : Int) + 1) = (j : Int) + 1 := IntWalk.i64_in _ (by omega)
    obtain ⟨bb, off, rfl, hcell⟩ := Rs.rowAtV HH.out.row.row (i := j) (by rw [List.length_map]; exact hlt)
    have hcell2 : wr.cell? ⟨bb, off + j, none⟩ = some (.string (bstr ns[j])) := by rw [hcell]; simp [sV]
    have hxl := HLQ.out _ (List.getElem_mem hlt)
    have HSC := Lib.hid (show scanQ d1 ns s0 = scanQ d1 (ns[j] :: ns.drop (j + 1)) sc from by rw [HH.out.run, List.drop_eq_getElem_cons hlt])
    generalize ns[j] = x at *
    have HXX := Lib.hid hxl
    rw [scan_cons] at HSC
    have HNU := Lib.hid (number_any x (by omega) wr)
    clear hcell hxl
    go_wp2_with fail
    refine HNU.out.mono ?_
    rintro e y1 ⟨rfl, hk1⟩
    have H1 := Lib.hid (HH.out.keeps hk1)
    clear hk1 HNU hcell2 HH
    by_cases hz : numQ x = 0
    ·have hz1 : (((numQ x : Nat) : Int) == 0) = true := by simp [hz]
     have HR := Lib.hid (show openQ d least = ((none, 12), d1) from by rw [HQO.out, HSC.out, if_pos hz, if_pos (by show (12 : Int) ≠ 0; decide)])
     rw [hz]
     clear hz hz1
     go_wp2_with fail
     go_ret2
     rw [HR.out]
     exact ⟨S2, J, H1.out.qx.dx.more (by omega), .inl ⟨rfl, rfl⟩⟩
    ·have hz2 := numQ_some hz
     have HZ := Lib.hid hz
     have HMX := Lib.hid (show 1 ≤ numQ x ∧ numQ x ≤ 1099511627776 from ⟨hz2.2.1, hz2.2.2⟩)
     rw [if_neg hz] at HSC
     have HLD := Lib.hid (fun (wx : World) (hx : DiskAt wx S2 gd d1) => load_any wx hx x (by have := HXX.out; omega) (numQ x))
     have HST := Lib.hid (show scanStep d1 sc x = if (loadQ d1 x (numQ x)).2.1 = true then ⟨max sc.next ((numQ x : Int) + 1), numQ x, putL sc.all x (loadQ d1 x (numQ x)).1⟩ else ⟨max sc.next ((numQ x : Int) + 1), sc.last, sc.all⟩ from rfl)
     have HGJ := Lib.hid (show (loadQ d1 x (numQ x)).2.1 = true → goodJ (loadQ d1 x (numQ x)).1.1 = true from fun h => by rw [(load_yes h).2]; exact reads_good (load_yes h).1.2)
     generalize loadQ d1 x (numQ x) = ld at *
     have hid1 : 1 ≤ numQ x ∧ numQ x ≤ 1099511627776 := HMX.out
     obtain ⟨hid1, hid2⟩ := hid1
     generalize numQ x = id at *
     have hz1 : (((id : Nat) : Int) == 0) = false := by simp; omega
     have hz3 : (id == 0) = false := by simp; omega
     have hwi : IntKind.i64.wrap ((id : Int) + 1) = (id : Int) + 1 := IntWalk.i64_in _ (by omega)
     have c1 := H1.out.qx.qu.cells.2.1
     have g1 : y1.frozen? ⟨g, 1, none⟩ = false := H1.out.qx.qu.blk.frozen 1
     have HSN := Lib.hid (H1.out.qx.qu.setNext (max sc.next ((id : Int) + 1)))
     clear hz hz2
     go_upto_region 18 with fail
     generalize World.setCell y1 _ _ = y2 at *
     have HNX := Lib.hid (show 1 ≤ max sc.next ((id : Int) + 1) ∧ max sc.next ((id : Int) + 1) ≤ 1099511627777 from by have := H1.out.nx; omega)
     generalize max sc.next ((id : Int) + 1) = nx at *
     have HQ2 := Lib.hid (show QX (fun _ => False) S w y2 gd d1 (k + N) S2 J g b 0 ⟨nx, sc.last, []⟩ [] from H1.out.qx.own HSN.out.1 HSN.out.2 (fun y hy => .inl hy))
     have HA2 := Lib.hid (show ∃ n, n ≤ j ∧ AllIn y2 (fun _ => False) S S2 J w g b b2 n av from by
      obtain ⟨n, h1, h2⟩ := H1.out.al
      exact ⟨n, h1, h2.own HSN.out.2 (fun y hy => ⟨.inl hy, by rw [hy]; exact H1.out.qx.qu.ng⟩)⟩)
     have HR2 := Lib.hid (H1.out.row.mods HSN.out.2 (fun y hy => by rw [hy]; exact H1.out.qx.qu.ng))
     have HPS := Lib.hid H1.out.ps
     have HJL := Lib.hid hlt
     clear c1 g1 HSN H1
     have HLX := Lib.hid (HLD.out y2 HQ2.out.dx.dsk)
     unfold LoadDid at HLX
     clear HLD
     go_wp2_with fail
     refine HLX.out.mono ?_
     rintro e y3 ⟨kx, rfl, hkp, hkx, hk3⟩
     have HQ3 := Lib.hid (HQ2.out.jobs hk3)
     have HA3 := Lib.hid (show ∃ n, n ≤ j ∧ AllIn y3 (fun _ => False) S S2 (MoreJ J y2 y3) w g b b2 n av from let ⟨n, h1, h2⟩ := HA2.out; ⟨n, h1, h2.jobs hk3⟩)
     have HR3 := Lib.hid ((HR2.out.keeps hk3).wide (J' := MoreJ J y2 y3) (fun y hy => .inl hy))
     have HKX := Lib.hid (hkx.wide (J' := MoreJ J y2 y3) (fun y hy => .inr hy))
     have HKP := Lib.hid hkp
     obtain ⟨J3, hJ3⟩ : ∃ z, MoreJ J y2 y3 = z := ⟨_, rfl⟩
     rw [hJ3] at HQ3 HA3 HR3 HKX
     clear HQ2 HA2 HR2 hk3 hkx hkp hJ3 HLX
     have HKB := Lib.hid (Blk.new y3 118 #[.int .i64 0, .int .i64 0, .string ⟨#[]⟩, .string ⟨#[]⟩, .slice none 0 0, .slice none 0 0, .slice none 0 0, .bool false] rfl)
     have HK4 := Lib.hid ((Keeps.refl y3).alloc (.cells #[.int .i64 0, .int .i64 0, .string ⟨#[]⟩, .string ⟨#[]⟩, .slice none 0 0, .slice none 0 0, .slice none 0 0, .bool false] 118))
     have HEV := Lib.hid (show kpV kx.v = .agg #[.int .i64 kx.v.id, .int .i64 kx.v.arr, .string (bstr kx.v.fl), .string (bstr kx.v.fd), .slice kx.v.s1.p kx.v.s1.n kx.v.s1.c, .slice kx.v.s2.p kx.v.s2.n kx.v.s2.c, .slice kx.v.s3.p kx.v.s3.n kx.v.s3.c, .bool kx.v.wh] from rfl)
     rw [HEV.out]
     obtain ⟨⟨l1, lw⟩, lb, le⟩ := ld
     simp only at HST HKP HGJ ⊢
     go_upto_region 19 with (refine wpList_st (ds := #[.int .i64 kx.v.id, .int .i64 kx.v.arr, .string (bstr kx.v.fl), .string (bstr kx.v.fd), .slice kx.v.s1.p kx.v.s1.n kx.v.s1.c, .slice kx.v.s2.p kx.v.s2.n kx.v.s2.c, .slice kx.v.s3.p kx.v.s3.n kx.v.s3.c, .bool kx.v.wh]) rfl kpM HKB.out rfl (by simp [Value.oneCell']) _ _ rfl rfl rfl rfl ?_; intro y5 hB5 hM5; have HB5 := Lib.hid hB5; have HM5 := Lib.hid hM5; clear hB5 hM5)
     have HK5 := Lib.hid (show Keeps y3 y5 from HM5.out.keeps HK4.out (fun y hy => by rw [hy]; exact Nat.le_refl _))
     have HQ5 := Lib.hid (HQ3.out.keeps HK5.out)
     have HA5 := Lib.hid (show ∃ n, n ≤ j ∧ AllIn y5 (fun _ => False) S S2 J3 w g b b2 n av from let ⟨n, h1, h2⟩ := HA3.out; ⟨n, h1, h2.keeps HK5.out⟩)
     have HR5 := Lib.hid (HR3.out.keeps HK5.out)
     have HX5 := Lib.hid (HKX.out.mods (S := fun _ => False) (Mods.of_keeps HK5.out) (fun _ h => h.elim))
     obtain ⟨qb, hqb⟩ : ∃ z, y3.heap.size = z := ⟨_, rfl⟩
     rw [hqb] at HB5 ⊢
     clear hqb HKB HK4 HM5 HK5 HQ3 HA3 HR3 HKX
     by_cases he : le = 0
     ·subst he
      have HSC2 := Lib.hid (show scanQ d1 ns s0 = scanQ d1 (ns.drop (j + 1)) (scanStep d1 sc x) from by rw [HSC.out, if_neg (by simp)])
      cases lb with
      |false =>
       have HS2 := Lib.hid (show scanStep d1 sc x = ⟨nx, sc.last, sc.all⟩ from HST.out)
       go_wp2_with fail
       go_roundw
       case rel => exact ⟨j + 1, ⟨nx, sc.last, sc.all⟩, av, J3, by simp, Lib.hid ⟨by have := HJL.out; omega, HQ5.out, let ⟨n, h1, h2⟩ := HA5.out; ⟨n, by omega, h2⟩, HPS.out, HR5.out, by rw [HSC2.out, HS2.out], HNX.out⟩⟩
       case measure => simp only [RowKit.intOf]; have := HJL.out; omega
      |true =>
       have HS2 := Lib.hid (show scanStep d1 sc x = ⟨nx, id, putL sc.all x (l1, lw)⟩ from HST.out)
       obtain ⟨na, hna, ha⟩ := HA5.out
       obtain ⟨y6, hup, hA6, hM6⟩ := ha.map.put (by omega) (x := x) (by have := HXX.out; unfold maxLen; omega) kx
       rw [HEV.out] at hup
       have HA6 := Lib.hid (And.intro ha (And.intro hA6 (And.intro hM6 hna)))
       clear ha hA6 hM6 hna
       go_upto_region 23 with (first | refine wpList_ld rfl kpM HB5.out _ rfl rfl ?_ | fail)
       have HQ6 := Lib.hid (HQ5.out.apart HA6.out.2.2.1 (fun y hy => by
        have := HA6.out.1.ns
        rw [hy]
        exact ⟨this.1, this.2.1, this.2.2.1, this.2.2.2.1, this.2.2.2.2⟩))
       have HR6 := Lib.hid (HR5.out.mods HA6.out.2.2.1 (fun y hy => by rw [hy]; exact HA6.out.1.ns.2.1))
       have HAL := Lib.hid (show AllIn y6 (fun _ => False) S S2 J3 w g b b2 (na + 1) (putL av x kx) from ⟨HA6.out.2.1, fun p hp => by
        unfold putL at hp
        rcases List.mem_append.1 hp with hp | hp
        ·exact (HA6.out.1.is_ p (List.mem_filter.1 hp).1).mods HA6.out.2.2.1 (fun y hy => by rw [hy]; exact HA6.out.1.ns.2.1)
        ·rw [List.mem_singleton.1 hp]
         exact HX5.out.mods HA6.out.2.2.1 (fun y hy => by rw [hy]; exact HA6.out.1.ns.2.1), fun p hp => by
        unfold putL at hp
        rcases List.mem_append.1 hp with hp | hp
        ·exact HA6.out.1.gd p (List.mem_filter.1 hp).1
        ·rw [List.mem_singleton.1 hp]
         have h1 := HGJ.out rfl
         have h2 := congrArg Prod.fst HKP.out
         show goodJ kx.j = true
         rw [show kx.j = l1 from h2]
         exact h1, HA6.out.1.ns⟩)
       have HNA := Lib.hid HA6.out.2.2.2
       clear hup HA6 HQ5 HA5 HR5 HX5 HB5
       have c3 := HQ6.out.qu.cells.2.2.2
       have g3 : y6.frozen? ⟨g, 3, none⟩ = false := HQ6.out.qu.blk.frozen 3
       have HSL := Lib.hid (HQ6.out.qu.setLast (id : Int))
       go_wp2_with fail
       go_roundw
       case rel =>
        refine ⟨j + 1, ⟨nx, id, putL sc.all x (l1, lw)⟩, putL av x kx, J3, by simp, Lib.hid ⟨by have := HJL.out; omega, HQ6.out.own HSL.out.1 HSL.out.2 (fun y hy => .inl hy), ⟨na + 1, by have := HNA.out; omega, HAL.out.own HSL.out.2 (fun y hy => ⟨.inl hy, by rw [hy]; exact HQ6.out.qu.ng⟩)⟩, ?_, HR6.out.mods HSL.out.2 (fun y hy => by rw [hy]; exact HQ6.out.qu.ng), by rw [HSC2.out, HS2.out], HNX.out⟩⟩
        show pS (putL av x kx) = putL sc.all x (l1, lw)
        rw [← HPS.out, ← HKP.out]
        exact (put_map KpX.p av x kx).symm
       case measure => simp only [RowKit.intOf]; have := HJL.out; omega
     ·have e1 : (le != 0) = true := by simp [he]
      have HR := Lib.hid (show openQ d least = ((none, le), d1) from by rw [HQO.out, HSC.out, if_pos he, if_pos he])
      clear he
      go_wp2_with fail
      go_ret2
      rw [HR.out]
      exact ⟨S2, J3, HQ5.out.dx.more (by omega), .inl ⟨rfl, rfl⟩⟩
   ·have hd : decide ((j : Int) < (ns.length : Int)) = false := decide_eq_false (by omega)
    have hd2 : decide (j < ns.length) = false := decide_eq_false hlt
    have hjn : j = ns.length := by have := HH.out.jl; omega
    have HSC := Lib.hid (show scanQ d1 ns s0 = (0, sc) from by rw [HH.out.run, List.drop_eq_nil_of_le (by omega)]; rfl)
    have HQS := Lib.hid (show openQ d least = if (sweepQ sc.all sc.last ns ([], d1)).1 ≠ 0 then ((none, (sweepQ sc.all sc.last ns ([], d1)).1), (sweepQ sc.all sc.last ns ([], d1)).2.2) else ((some ⟨sc.next, sc.last, (sweepQ sc.all sc.last ns ([], d1)).2.1⟩, 0), (sweepQ sc.all sc.last ns ([], d1)).2.2) from by rw [HQO.out, HSC.out]; rfl)
    have HS3 := Lib.hid (show S3 S w wr gd d1 (k + N) g b b2 (.slice p6 ns.length c6) ns sc av J 0 d1 [] S2 0 from ⟨Nat.zero_le _, HH.out.qx, Nat.le_refl _, let ⟨n, _, h2⟩ := HH.out.al; ⟨n, h2⟩, HH.out.row, rfl⟩)
    have HPS := Lib.hid HH.out.ps
    clear HQO HSC HH hlt hjn
    go_wp2_with fail
    go_loopw [89] (fun iv wz => ∃ (j : Nat) (dj : Dsk) (jv : JL) (Sj : Nat → Prop) (n : Nat), iv = .int .i64 (j : Int) ∧ Hid (S3 S w wz gd d1 (k + N) g b b2 (.slice p6 ns.length c6) ns sc av J j dj jv Sj n)) (fun iv _ => ns.length - (RowKit.intOf iv).toNat)
    case atStart => exact ⟨0, _, _, _, _, rfl, HS3⟩
    case round =>
     clear HS3 hd hd2
     obtain ⟨i, dj, jv, Sj, n, rfl, HH⟩ := hrel
     by_cases hlt : i < ns.length
     ·have hd : decide ((i : Int) < (ns.length : Int)) = true := decide_eq_true (by omega)
      have hw : IntKind.i64.wrap ((i : Int) + 1) = (i : Int) + 1 := IntWalk.i64_in _ (by omega)
      obtain ⟨bb, off, rfl, hcell⟩ := Rs.rowAtV HH.out.row.row (i := i) (by rw [List.length_map]; exact hlt)
      obtain ⟨wz, rfl⟩ : ∃ z : World, z = wr := ⟨_, rfl⟩
      have hcell2 : wz.cell? ⟨bb, off + i, none⟩ = some (.string (bstr ns[i])) := by rw [hcell]; simp [sV]
      have HXX := Lib.hid (HLQ.out _ (List.getElem_mem hlt))
      have HSW := Lib.hid (show sweepQ sc.all sc.last (ns.drop i) (pL jv, dj) = sweepQ sc.all sc.last (ns[i] :: ns.drop (i + 1)) (pL jv, dj) from by rw [List.drop_eq_getElem_cons hlt])
      generalize ns[i] = x at *
      have HLT := Lib.hid hlt
      have hiN : i ≤ N := by omega
      rw [sweep_cons, show Mp.look sc.all x = (Mp.look av x).map (·.p) from by rw [← HPS.out]; exact look_pS _ _] at HSW
      obtain ⟨na, ha⟩ := HH.out.al
      have HAL := Lib.hid (And.intro ha.is_ ha.gd)
      have hlk := ha.map.look (x := x) (by have := HXX.out; unfold maxLen; omega)
      have HKB := Lib.hid (Blk.new wz 118 #[.int .i64 0, .int .i64 0, .string ⟨#[]⟩, .string ⟨#[]⟩, .slice none 0 0, .slice none 0 0, .slice none 0 0, .bool false] rfl)
      have HK4 := Lib.hid ((Keeps.refl wz).alloc (.cells #[.int .i64 0, .int .i64 0, .string ⟨#[]⟩, .string ⟨#[]⟩, .slice none 0 0, .slice none 0 0, .slice none 0 0, .bool false] 118))
      clear ha hcell hlt
      cases hlx : Mp.look av x with
      |none =>
       rw [hlx] at hlk HSW
       replace hlk : (Instr.lookup 115 (.map (some b2)) (.string (bstr x)) true).run Tryz.prog wz = .ok (.tuple #[.agg #[.int .i64 0, .int .i64 0, .string ⟨#[]⟩, .string ⟨#[]⟩, .slice none 0 0, .slice none 0 0, .slice none 0 0, .bool false], .bool false]) wz := hlk
       clear hlx
       go_upto_region 29 with (refine wpList_st (ds := #[.int .i64 0, .int .i64 0, .string ⟨#[]⟩, .string ⟨#[]⟩, .slice none 0 0, .slice none 0 0, .slice none 0 0, .bool false]) rfl kpM HKB.out rfl (by simp [Value.oneCell']) _ _ rfl rfl rfl rfl ?_; intro y5 hB5 hM5; have HM5 := Lib.hid hM5; clear hB5 hM5)
       have H5 := Lib.hid (HH.out.keeps (HM5.out.keeps HK4.out (fun y hy => by rw [hy]; exact Nat.le_refl _)))
       have HSW := Lib.hid (show sweepQ sc.all sc.last (ns.drop i) (pL jv, dj) = if (sDrop x dj).2 ≠ 0 then ((sDrop x dj).2, (pL jv, (sDrop x dj).1)) else sweepQ sc.all sc.last (ns.drop (i + 1)) (pL jv, (sDrop x dj).1) from HSW.out)
       clear HM5 HK4 HKB hlk HH hcell2 HAL
       go_wp2_with fail
       refine wp_region_noPanic ?_
       refine wp_region_held_drew (S := fun w' => Keeps y5 w') (by kernel_rfl) ((Keeps.refl y5).drew) (fun _ => ?_)
       have hHeld : Keeps y5 (y5).drew := (Keeps.refl y5).drew
       generalize World.drew y5 = xs at *
       refine tq 0 116 ?_
       refine tq 1 117 ?_
       refine tq 2 118 ?_
       refine wpAnyH_take (i := 3) (by rfl) (by kernel_rfl) (by kernel_rfl) (by kernel_rfl) (by intro _ _ _ h; exact h) (Or.inr ⟨by kernel_rfl, rfl⟩) (by assumption) ?rest4
       change wpAnyH _ _ _ _ _ _ _ (Act.put _ (some 119) _) _
       try simp only [Act.put, List.setIfInBounds_toArray, List.set_cons_zero, List.set_cons_succ]
       refine wpAnyH_take (i := 4) (by rfl) (by kernel_rfl) (by kernel_rfl) (by kernel_rfl) (by intro _ _ _ h; exact h) (Or.inr ⟨by kernel_rfl, rfl⟩) (by assumption) ?rest5
       change wpAnyH _ _ _ _ _ _ _ (Act.put _ (some 120) _) _
       try simp only [Act.put, List.setIfInBounds_toArray, List.set_cons_zero, List.set_cons_succ]
       refine wpAnyH_take (i := 5) (by rfl) (by kernel_rfl) (by kernel_rfl) (by kernel_rfl) (by intro _ _ _ h; exact h) (Or.inr ⟨by kernel_rfl, rfl⟩) (by assumption) ?rest6
       change wpAnyH _ _ _ _ _ _ _ (Act.put _ (some 121) _) _
       try simp only [Act.put, List.setIfInBounds_toArray, List.set_cons_zero, List.set_cons_succ]
       refine wpAnyH_take (i := 6) (by rfl) (by kernel_rfl) (by kernel_rfl) (by kernel_rfl) (by intro _ _ _ h; exact h) (Or.inr ⟨by kernel_rfl, rfl⟩) (by assumption) ?rest7
       change wpAnyH _ _ _ _ _ _ _ (Act.put _ (some 122) _) _
       try simp only [Act.put, List.setIfInBounds_toArray, List.set_cons_zero, List.set_cons_succ]
       refine wpAnyH_take (i := 7) (by rfl) (by kernel_rfl) (by kernel_rfl) (by kernel_rfl) (by intro _ _ _ h; exact h) (Or.inr ⟨by kernel_rfl, rfl⟩) (by assumption) ?rest8
       change wpAnyH _ _ _ _ _ _ _ (Act.put _ (some 123) _) _
       try simp only [Act.put, List.setIfInBounds_toArray, List.set_cons_zero, List.set_cons_succ]
       refine wpAnyH_take (i := 8) (by rfl) (by kernel_rfl) (by kernel_rfl) (by kernel_rfl) (by intro _ _ _ h; exact h) (Or.inr ⟨by kernel_rfl, rfl⟩) (by assumption) ?rest9
       change wpAnyH _ _ _ _ _ _ _ (Act.put _ (some 124) _) _
       try simp only [Act.put, List.setIfInBounds_toArray, List.set_cons_zero, List.set_cons_succ]
       refine wpAnyH_take (i := 9) (by rfl) (by kernel_rfl) (by kernel_rfl) (by kernel_rfl) (by intro _ _ _ h; exact h) (Or.inr ⟨by kernel_rfl, rfl⟩) (by assumption) ?rest10
       change wpAnyH _ _ _ _ _ _ _ (Act.put _ (some 125) _) _
       try simp only [Act.put, List.setIfInBounds_toArray, List.set_cons_zero, List.set_cons_succ]
       refine wpAnyH_take (i := 10) (by rfl) (by kernel_rfl) (by kernel_rfl) (by kernel_rfl) (by intro _ _ _ h; exact h) (Or.inr ⟨by kernel_rfl, rfl⟩) (by assumption) ?rest11
       change wpAnyH _ _ _ _ _ _ _ (Act.put _ (some 126) _) _
       try simp only [Act.put, List.setIfInBounds_toArray, List.set_cons_zero, List.set_cons_succ]
       refine tq 11 127 ?_
       refine tq 12 115 ?_
       refine wpAnyH_done (by kernel_rfl) ?_ _
       refine NoPanic.normal ?_
       have H6 := Lib.hid (H5.out.keeps hHeld)
       clear H5 hHeld
       go_wp2_with fail
       refine (drop_at H6.out.qx (by omega) (Keeps.refl _) (x := x) HXX.out).mono ?_
       rintro e y8 ⟨cd, rfl, hcd, hq8, hm8⟩
       obtain ⟨⟨dn, en⟩, hsd⟩ : ∃ z, sDrop x dj = z := ⟨_, rfl⟩
       rw [hsd] at hcd hq8 HSW
       obtain rfl : cd = en := hcd
       have HQ8 := Lib.hid hq8
       have HM8 := Lib.hid hm8
       clear hq8 hm8 hsd
       by_cases hc : cd = 0
       ·subst hc
        have HRN := Lib.hid (show sweepQ sc.all sc.last (ns.drop i) (pL jv, dj) = sweepQ sc.all sc.last (ns.drop (i + 1)) (pL jv, dn) from by have h := HSW.out; rw [if_neg (show ¬ ((dn, (0 : Int)).2 ≠ 0) from fun h => h rfl)] at h; exact h)
        go_wp2_with fail
        go_roundw
        case rel => exact ⟨i + 1, dn, jv, _, n, by simp, Lib.hid (H6.out.drop HQ8.out HM8.out HLT.out HRN.out)⟩
        case measure => simp only [RowKit.intOf]; have := HLT.out; omega
       ·have e1 : (cd != 0) = true := by simp [hc]
        have HSR := Lib.hid (show sweepQ sc.all sc.last (ns.drop i) (pL jv, dj) = (cd, (pL jv, dn)) from HSW.out.trans (if_pos hc))
        have HR := Lib.hid (show openQ d least = ((none, cd), dn) from by rw [HQS.out, H6.out.run, HSR.out, if_pos hc])
        clear hc
        go_wp2_with fail
        go_ret2
        rw [HR.out]
        exact ⟨_, J, HQ8.out.dx.more (by omega), .inl ⟨rfl, rfl⟩⟩
      |some y =>
       rw [hlx] at hlk HSW
       have hym : (x, y) ∈ av := lookup_mem hlx
       have HY := Lib.hid (And.intro (HAL.out.1 _ hym) (HAL.out.2 _ hym))
       clear hlx hym HAL
       replace hlk : (Instr.lookup 115 (.map (some b2)) (.string (bstr x)) true).run Tryz.prog wz = .ok (.tuple #[.agg #[.int .i64 y.j.id, .int .i64 y.j.arr, .string (bstr y.j.fl), .string (bstr y.j.fd), .slice y.v.s1.p y.v.s1.n y.v.s1.c, .slice y.v.s2.p y.v.s2.n y.v.s2.c, .slice y.v.s3.p y.v.s3.n y.v.s3.c, .bool y.v.wh], .bool true]) wz := by
        rw [hlk]
        show Result.ok (Value.tuple #[kpV y.v, .bool true]) wz = _
        rw [HY.out.1.cells]
        rfl
       go_upto_region 29 with (refine wpList_st (ds := #[.int .i64 y.j.id, .int .i64 y.j.arr, .string (bstr y.j.fl), .string (bstr y.j.fd), .slice y.v.s1.p y.v.s1.n y.v.s1.c, .slice y.v.s2.p y.v.s2.n y.v.s2.c, .slice y.v.s3.p y.v.s3.n y.v.s3.c, .bool y.v.wh]) rfl kpM HKB.out rfl (by simp [Value.oneCell']) _ _ rfl rfl rfl rfl ?_; intro y5 hB5 hM5; have HB5 := Lib.hid hB5; have HM5 := Lib.hid hM5; clear hB5 hM5)
       have HK5 := Lib.hid (HM5.out.keeps HK4.out (fun y hy => by rw [hy]; exact Nat.le_refl _))
       have H5 := Lib.hid (HH.out.keeps HK5.out)
       have HY5 := Lib.hid (And.intro (HY.out.1.mods (S := fun _ => False) (Mods.of_keeps HK5.out) (fun _ h => h.elim)) HY.out.2)
       obtain ⟨qb, hqb⟩ : ∃ z, wz.heap.size = z := ⟨_, rfl⟩
       rw [hqb] at HB5 ⊢
       have HQB := Lib.hid (show qb ≠ b from by have := HH.out.qx.qu.map.lt; omega)
       clear HM5 HK4 HKB hlk HH hcell2 HY HK5 hqb
       have HDN := Lib.hid (Env.done_any y5 y.j y.v.s1.v y.v.s2.v y.v.s3.v HY5.out.1.job.at_ (by
        have h := HY5.out.2
        unfold goodJ at h
        simp only [Bool.and_eq_true, decide_eq_true_eq] at h
        have h2 := Env.envB_len h.1.1.1
        rw [h.1.1.2]
        omega))
       unfold SlQ.v at HDN
       have k0 : y5.cell? ⟨qb, 0, none⟩ = some (.int .i64 y.j.id) := by rw [HB5.out.cell]; rfl
       have k1 : y5.cell? ⟨qb, 1, none⟩ = some (.int .i64 y.j.arr) := by rw [HB5.out.cell]; rfl
       have k2 : y5.cell? ⟨qb, 2, none⟩ = some (.string (bstr y.j.fl)) := by rw [HB5.out.cell]; rfl
       have k3 : y5.cell? ⟨qb, 3, none⟩ = some (.string (bstr y.j.fd)) := by rw [HB5.out.cell]; rfl
       have k4 : y5.cell? ⟨qb, 4, none⟩ = some (.slice y.v.s1.p y.v.s1.n y.v.s1.c) := by rw [HB5.out.cell]; rfl
       have k5 : y5.cell? ⟨qb, 5, none⟩ = some (.slice y.v.s2.p y.v.s2.n y.v.s2.c) := by rw [HB5.out.cell]; rfl
       have k6 : y5.cell? ⟨qb, 6, none⟩ = some (.slice y.v.s3.p y.v.s3.n y.v.s3.c) := by rw [HB5.out.cell]; rfl
       go_wp2_with fail
       refine HDN.out.mono ?_
       rintro e y6 ⟨rfl, hk6⟩
       have H6 := Lib.hid (H5.out.keeps hk6)
       have HB6 := Lib.hid (HB5.out.keeps hk6)
       have HY6 := Lib.hid (And.intro (HY5.out.1.mods (S := fun _ => False) (Mods.of_keeps hk6) (fun _ h => h.elim)) HY5.out.2)
       have HWF := Lib.hid (show (Lit.int .i64 y.j.id).wf = true from by
        have := good_range HY6.out.2
        simp [Lit.wf, IntKind.min, IntKind.max, IntKind.signed, IntKind.bits]
        omega)
       have b0 : y6.cell? ⟨qb, 0, none⟩ = some (.int .i64 y.j.id) := by rw [HB6.out.cell]; rfl
       clear k0 k1 k2 k3 k4 k5 k6 H5 HB5 HY5 HDN hk6
       have HDB := Lib.hid (show dropsB sc.last ((some y).map (·.p)) = (doneB y.j && decide (y.j.id < sc.last)) from rfl)
       cases hdb : doneB y.j with
       |false =>
        have HSN := Lib.hid (show sweepQ sc.all sc.last (ns.drop i) (pL jv, dj) = sweepQ sc.all sc.last (ns.drop (i + 1)) (pL (Mp.putL jv y.j.id y), dj) from by
         rw [HSW.out, if_neg (by rw [HDB.out, hdb]; simp)]
         show (if doneB y.j = true then _ else _) = _
         rw [if_neg (by rw [hdb]; simp)]
         show sweepQ _ _ _ (Mp.putL (pL jv) y.j.id y.p, dj) = _
         rw [show Mp.putL (pL jv) y.j.id y.p = pL (Mp.putL jv y.j.id y) from put_map KpX.p jv y.j.id y])
        have HGB := Lib.hid H6.out.qx.qu.gb
        have c2 := H6.out.qx.qu.cells.2.2.1
        have HQ6 := Lib.hid (H6.out.qx.qu.keeps (Keeps.refl y6).drew)
        have HE6 := Lib.hid (HY6.out.1.mods (S := fun _ => False) (Mods.of_keeps (Keeps.refl y6).drew) (fun _ h => h.elim))
        have HNN := Lib.hid (show n < 1000000 from by have := H6.out.nj; omega)
        have HEV := Lib.hid (show kpV y.v = .agg #[.int .i64 y.j.id, .int .i64 y.j.arr, .string (bstr y.j.fl), .string (bstr y.j.fd), .slice y.v.s1.p y.v.s1.n y.v.s1.c, .slice y.v.s2.p y.v.s2.n y.v.s2.c, .slice y.v.s3.p y.v.s3.n y.v.s3.c, .bool y.v.wh] from HY6.out.1.cells)
        clear hdb HSW HDB
        go_wp2_with fail
        refine wp_region_noPanic ?_
        refine wp_region_held_drew (S := fun w' => Mods (· = b) y6 w') (by kernel_rfl) ((Mods.refl (· = b) y6).drew) (fun _ => ?_)
        have hHeld : Mods (· = b) y6 (y6).drew := (Mods.refl (· = b) y6).drew
        generalize World.drew y6 = xs at *
        refine tq 0 107 ?_
        refine tq 1 108 ?_
        refine tq 2 109 ?_
        refine tq 3 110 ?_ (hy := fun w' hSw => by
         have hSw : Mods (· = b) y6 w' := hSw
         have hx := hSw.cell c2 (fun e => HGB.out e)
         clear hSw
         go_simp
         try with_reducible rfl)
        refine tq 4 111 ?_
        refine tq 5 112 ?_
        refine tq 6 113 ?_ (hy := fun w' hSw => by
         have hSw : Mods (· = b) y6 w' := hSw
         have hx := hSw.cell b0 (fun e => HQB.out e)
         clear hSw
         go_simp
         try with_reducible rfl)
        refine wpAnyH_take (i := 7) (by rfl) (by kernel_rfl) (by kernel_rfl) (by kernel_rfl) (by intro _ _ _ h; exact h) (yieldsIf_ld (by kernel_rfl) kpM (fun w' hS => HB6.out.mods hS HQB.out) _ rfl rfl) (by assumption) ?rest21
        change wpAnyH _ _ _ _ _ _ _ (Act.put _ (some 114) _) _
        try simp only [Act.put, List.setIfInBounds_toArray, List.set_cons_zero, List.set_cons_succ]
        refine rd1 8 (fun K hK => ?_)
        obtain ⟨xm, hup, hqm, hmm⟩ := HQ6.out.put HNN.out HWF.out HE6.out
        rw [HEV.out] at hup
        go_simp
        have hb := hHeld.trans hmm (fun y hy _ => hy)
        have HQM := Lib.hid hqm
        clear hup hqm hmm
        refine bkm hK hb ?_
        clear hK K hHeld
        have hHeld : Mods (· = b) y6 xm := hb
        clear hb
        refine wpAnyH_done (by kernel_rfl) ?_ _
        refine NoPanic.normal ?_
        go_wp2_with fail
        go_roundw
        case rel => exact ⟨i + 1, dj, Mp.putL jv y.j.id y, _, n + 1, by simp, Lib.hid (H6.out.put HQM.out hHeld HLT.out HSN.out)⟩
        case measure => simp only [RowKit.intOf]; have := HLT.out; omega
       |true =>
        by_cases hil : y.j.id < sc.last
        ·have hil1 : decide (y.j.id < sc.last) = true := decide_eq_true hil
         have HSW := Lib.hid (show sweepQ sc.all sc.last (ns.drop i) (pL jv, dj) = if (sDrop x dj).2 ≠ 0 then ((sDrop x dj).2, (pL jv, (sDrop x dj).1)) else sweepQ sc.all sc.last (ns.drop (i + 1)) (pL jv, (sDrop x dj).1) from by
          rw [HSW.out, if_pos (by rw [HDB.out, hdb, hil1]; rfl)])
         have c3 := H6.out.qx.qu.cells.2.2.2
         clear hil hdb HDB
         go_wp2_with fail
         refine wp_region_noPanic ?_
         refine wp_region_held_drew (S := fun w' => Keeps y6 w') (by kernel_rfl) ((Keeps.refl y6).drew) (fun _ => ?_)
         have hHeld : Keeps y6 (y6).drew := (Keeps.refl y6).drew
         generalize World.drew y6 = xs at *
         refine tq 0 116 ?_
         refine tq 1 117 ?_
         refine tq 2 118 ?_
         refine tq 3 119 ?_
         refine tq 4 120 ?_
         refine tq 5 121 ?_ (hy := fun w' hSw => by
          have hSw : Keeps y6 w' := hSw
          have hx := keep1 hSw b0
          clear hSw
          go_simp
          try with_reducible rfl)
         refine tq 6 122 ?_
         refine tq 7 123 ?_
         refine tq 8 124 ?_
         refine tq 9 125 ?_ (hy := fun w' hSw => by
          have hSw : Keeps y6 w' := hSw
          have hx := keep1 hSw c3
          clear hSw
          go_simp
          try with_reducible rfl)
         refine tq 10 126 ?_
         refine tq 11 127 ?_
         refine tq 12 115 ?_
         refine wpAnyH_done (by kernel_rfl) ?_ _
         refine NoPanic.normal ?_
         have H8 := Lib.hid (H6.out.keeps hHeld)
         clear H6 hHeld
         go_wp2_with fail
         refine (drop_at H8.out.qx (by omega) (Keeps.refl _) (x := x) HXX.out).mono ?_
         rintro e y8 ⟨cd, rfl, hcd, hq8, hm8⟩
         obtain ⟨⟨dn, en⟩, hsd⟩ : ∃ z, sDrop x dj = z := ⟨_, rfl⟩
         rw [hsd] at hcd hq8 HSW
         obtain rfl : cd = en := hcd
         have HQ8 := Lib.hid hq8
         have HM8 := Lib.hid hm8
         clear hq8 hm8 hsd
         by_cases hc : cd = 0
         ·subst hc
          have HRN := Lib.hid (show sweepQ sc.all sc.last (ns.drop i) (pL jv, dj) = sweepQ sc.all sc.last (ns.drop (i + 1)) (pL jv, dn) from by have h := HSW.out; rw [if_neg (show ¬ ((dn, (0 : Int)).2 ≠ 0) from fun h => h rfl)] at h; exact h)
          go_wp2_with fail
          go_roundw
          case rel => exact ⟨i + 1, dn, jv, _, n, by simp, Lib.hid (H8.out.drop HQ8.out HM8.out HLT.out HRN.out)⟩
          case measure => simp only [RowKit.intOf]; have := HLT.out; omega
         ·have e1 : (cd != 0) = true := by simp [hc]
          have HSR := Lib.hid (show sweepQ sc.all sc.last (ns.drop i) (pL jv, dj) = (cd, (pL jv, dn)) from HSW.out.trans (if_pos hc))
          have HR := Lib.hid (show openQ d least = ((none, cd), dn) from by rw [HQS.out, H8.out.run, HSR.out, if_pos hc])
          clear hc
          go_wp2_with fail
          go_ret2
          rw [HR.out]
          exact ⟨_, J, HQ8.out.dx.more (by omega), .inl ⟨rfl, rfl⟩⟩
        ·have hil1 : decide (y.j.id < sc.last) = false := decide_eq_false hil
         have HSN := Lib.hid (show sweepQ sc.all sc.last (ns.drop i) (pL jv, dj) = sweepQ sc.all sc.last (ns.drop (i + 1)) (pL jv, dj) from by
          rw [HSW.out, if_neg (by rw [HDB.out, hil1]; simp)]
          show (if doneB y.j = true then _ else _) = _
          rw [if_pos hdb])
         have c3 := H6.out.qx.qu.cells.2.2.2
         clear hil hdb HDB HSW
         go_wp2_with fail
         refine wp_region_noPanic ?_
         refine wp_region_held_drew (S := fun w' => Keeps y6 w') (by kernel_rfl) ((Keeps.refl y6).drew) (fun _ => ?_)
         have hHeld : Keeps y6 (y6).drew := (Keeps.refl y6).drew
         generalize World.drew y6 = xs at *
         refine tq 0 116 ?_
         refine tq 1 117 ?_
         refine tq 2 118 ?_
         refine tq 3 119 ?_
         refine tq 4 120 ?_
         refine tq 5 121 ?_ (hy := fun w' hSw => by
          have hSw : Keeps y6 w' := hSw
          have hx := keep1 hSw b0
          clear hSw
          go_simp
          try with_reducible rfl)
         refine tq 6 122 ?_
         refine tq 7 123 ?_
         refine tq 8 124 ?_
         refine tq 9 125 ?_ (hy := fun w' hSw => by
          have hSw : Keeps y6 w' := hSw
          have hx := keep1 hSw c3
          clear hSw
          go_simp
          try with_reducible rfl)
         refine tq 10 126 ?_
         refine tq 11 127 ?_
         refine tq 12 115 ?_
         refine wpAnyH_done (by kernel_rfl) ?_ _
         refine NoPanic.normal ?_
         have H8 := Lib.hid (H6.out.keeps hHeld)
         clear H6 hHeld
         go_wp2_with fail
         go_roundw
         case rel => exact ⟨i + 1, dj, jv, _, n, by simp, Lib.hid (H8.out.same HLT.out HSN.out)⟩
         case measure => simp only [RowKit.intOf]; have := HLT.out; omega
     ·have hd : decide ((i : Int) < (ns.length : Int)) = false := decide_eq_false (by omega)
      have hd2 : decide (i < ns.length) = false := decide_eq_false hlt
      have HSE := Lib.hid (show sweepQ sc.all sc.last ns ([], d1) = (0, (pL jv, dj)) from by rw [HH.out.run, List.drop_eq_nil_of_le (by omega)]; rfl)
      have HR := Lib.hid (show openQ d least = ((some ⟨sc.next, sc.last, pL jv⟩, 0), dj) from by rw [HQS.out, HSE.out]; rfl)
      have HIN := Lib.hid (show i ≤ ns.length from HH.out.jl)
      clear hlt
      go_wp2_with fail
      go_ret2
      rw [HR.out]
      have hjl := HIN.out
      exact ⟨_, J, HH.out.qx.dx.more (by omega), .inr ⟨_, g, b, n, jv, rfl, by have := HH.out.nj; omega, rfl, HH.out.qx.more (by omega) (Nat.le_refl _)⟩⟩
 ·have e1 : (c != 0) = true := by simp [he]
  have HR := Lib.hid (HQ1.out he)
  clear he
  go_wp2_with fail
  go_ret2
  rw [HR.out]
  exact ⟨S2, _, HX2.out.more (by omega), .inl ⟨rfl, rfl⟩⟩
end
end Que
end Go.Proofs.YtcleakjjefmmbaaGreat

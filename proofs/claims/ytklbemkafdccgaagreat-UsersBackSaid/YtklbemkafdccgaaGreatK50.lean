/- Several texts in one: UsRead, UsAwake. -/
import Derived.Test.YtklbemkafdccgaaGreatK46
import Derived.Test.YtklbemkafdccgaaGreatK41
/- users: Read. -/
namespace Go.Proofs.YtklbemkafdccgaaGreat
open Go.RowKit
namespace Usr
open Adr (Str domainB)
open Oct (SrcAt SrcDid uE uA uV tE tA tL sgnV srcU_any srcI_any srcText_any newSource_any left_any)
open Frm (str_at')
open Mp Go.Maps
/-- what Read answers -/
def ReadDid (W : World) (r : Option TabP × Int) (e : Ending) (w' : World) : Prop :=
 Keeps W w' ∧ ((∃ t g b1 b2, r.1 = some t ∧ e = .returned (.tuple #[.pointer (some ⟨g, 0, none⟩), .int .i64 r.2]) ∧ (W.heap.size ≤ g ∧ W.heap.size ≤ b1 ∧ W.heap.size ≤ b2) ∧ TabAt w' g b1 b2 1000 t) ∨ (r.1 = none ∧ e = .returned (.tuple #[.pointer none, .int .i64 r.2])))
theorem hmkf : ∀ (fn : Fn) (first cap : Array Value) (w : World), (Instr.makeFunc fn first cap).run Tryz.prog w = .ok (.func fn first cap) w := fun _ _ _ _ => rfl
/-- the boxes of Read, and its source -/
structure RdSt (W w : World) (q2 q3 q4 gs : Nat) (v : Value) (l : Str) (a : Nat) (er : Int) (tv : Value) (ev : Int) : Prop where
 k4 : Blk w q4 110 #[.pointer (some ⟨gs, 0, none⟩)]
 k2 : Blk w q2 25 #[tv]
 k3 : Blk w q3 54 #[.int .i64 ev]
 src : SrcAt w gs v l a er
 kp : Keeps W w
 h2 : W.heap.size ≤ q2
 h3 : W.heap.size ≤ q3
 hg : W.heap.size ≤ gs
section
variable {W w w' : World} {q2 q3 q4 gs : Nat} {v : Value} {l : Str} {a : Nat} {er : Int} {tv : Value} {ev : Int}
theorem RdSt.keeps (h : RdSt W w q2 q3 q4 gs v l a er tv ev) (k : Keeps w w') : RdSt W w' q2 q3 q4 gs v l a er tv ev := ⟨h.k4.keeps k, h.k2.keeps k, h.k3.keeps k, h.src.keeps k, h.kp.trans k, h.h2, h.h3, h.hg⟩
theorem RdSt.did (h : RdSt W w q2 q3 q4 gs v l a er tv ev) {a' : Nat} {er' : Int} (k : SrcAt w' gs v l a' er') (m : Mods (· = gs) w w') : RdSt W w' q2 q3 q4 gs v l a' er' tv ev :=
 ⟨h.k4.mods m (fun e => Frm.blk_tyne h.k4 h.src.blk (by decide) e), h.k2.mods m (fun e => Frm.blk_tyne h.k2 h.src.blk (by decide) e), h.k3.mods m (fun e => Frm.blk_tyne h.k3 h.src.blk (by decide) e), k, m.keeps h.kp (fun x hx => by rw [hx]; exact h.hg), h.h2, h.h3, h.hg⟩
theorem RdSt.ran (h : RdSt W w q2 q3 q4 gs v l a er tv ev) {g b1 b2 n : Nat} {t : TabP} (hT : TabAt w g b1 b2 n t) (hb : W.heap.size ≤ g ∧ W.heap.size ≤ b1 ∧ W.heap.size ≤ b2) {a' : Nat} {er' : Int} (k : SrcAt w' gs v l a' er') (m : Mods (RFr gs g b1 b2) w w') : RdSt W w' q2 q3 q4 gs v l a' er' tv ev := by
 have hn : ∀ x t cs, Blk w x t cs → t ≠ 84 → t ≠ 186 → ¬ RFr gs g b1 b2 x := by
  rintro x t cs hB h1 h2 (rfl | hx)
  ·exact Frm.blk_tyne hB h.src.blk h2 rfl
  ·exact hT.objs x hx _ _ _ h1 hB
 refine ⟨h.k4.mods m (hn _ _ _ h.k4 (by decide) (by decide)), h.k2.mods m (hn _ _ _ h.k2 (by decide) (by decide)), h.k3.mods m (hn _ _ _ h.k3 (by decide) (by decide)), k, m.keeps h.kp ?_, h.h2, h.h3, h.hg⟩
 rintro x (rfl | rfl | rfl | rfl)
 ·exact h.hg
 ·exact hb.1
 ·exact hb.2.1
 ·exact hb.2.2
theorem RdSt.setT (h : RdSt W w q2 q3 q4 gs v l a er tv ev) (u : Value) : RdSt W (w.setCell ⟨q2, 0, none⟩ u) q2 q3 q4 gs v l a er u ev := by
 have hm : Mods (· = q2) w (w.setCell ⟨q2, 0, none⟩ u) := (Mods.refl (· = q2) w).setCell (p := ⟨q2, 0, none⟩) (fun _ => rfl) _
 refine ⟨h.k4.mods hm (fun e => Frm.blk_tyne h.k4 h.k2 (by decide) e), by simpa using h.k2.set_ 0 u, h.k3.mods hm (fun e => Frm.blk_tyne h.k3 h.k2 (by decide) e), h.src.mods hm ?_, hm.keeps h.kp (fun x hx => by rw [hx]; exact h.h2), h.h2, h.h3, h.hg⟩
 rintro x (rfl | hx) e
 ·exact Frm.blk_tyne h.src.blk h.k2 (by decide) e
 ·obtain ⟨cs, fr, hc⟩ := SrcAt.own_ty h.src x hx
  have hb := h.k2
  unfold Blk at hb
  rw [← e, hc] at hb
  simp only [Option.some.injEq, Obj.cells.injEq] at hb
  exact absurd hb.2.1 (by decide)
end
theorem tab_set {w : World} {g b1 b2 n q : Nat} {t : TabP} {ty : TypeId} {cs : Array Value} (hT : TabAt w g b1 b2 n t) (hB : Blk w q ty cs) (h1 : ty ≠ 84) (h2 : ty ≠ 9) (u : Value) : TabAt (w.setCell ⟨q, 0, none⟩ u) g b1 b2 n t := by
 have hm : Mods (· = q) w (w.setCell ⟨q, 0, none⟩ u) := (Mods.refl (· = q) w).setCell (p := ⟨q, 0, none⟩) (fun _ => rfl) _
 refine hT.mods hm (fun e => hT.objs g (.inl rfl) _ _ _ h1 (by rw [e]; exact hB)) (fun e => hT.objs b1 (.inr (.inl rfl)) _ _ _ h1 (by rw [e]; exact hB)) (fun e => hT.objs b2 (.inr (.inr rfl)) _ _ _ h1 (by rw [e]; exact hB)) ?_
 rintro x rfl cs' fr hh
 unfold Blk at hB
 rw [hB] at hh
 simp only [Option.some.injEq, Obj.cells.injEq] at hh
 exact h2 hh.2.1
/-! ### the door -/
def rdDefer (q2 q3 q4 : Nat) : Deferred := { target := .fn (.func 59) #[.pointer (some ⟨q4, 0, none⟩), .pointer (some ⟨q2, 0, none⟩), .pointer (some ⟨q3, 0, none⟩)], args := #[] }
theorem door_panic {W w : World} {q2 q3 q4 gs : Nat} {v : Value} {l : Str} {a : Nat} {er : Int} {tv : Value} {ev : Int} (h : RdSt W w q2 q3 q4 gs v l a er tv ev) {r : Option TabP × Int} (hr : r = (none, if er = 2 then 2 else 3)) (u : TypeId) (pv : Value) (tm : Array Value) (ht2 : tm[2]? = some (.pointer (some ⟨q2, 0, none⟩))) (ht3 : tm[3]? = some (.pointer (some ⟨q3, 0, none⟩))) :
  bodyPostD Tryz.prog Tryz.f19 (ReadDid W r) (.panic [{ v := .iface u pv, recovered := false }]) { tmps := tm, defers := [rdDefer q2 q3 q4] } w := by
 refine leaves_cons (f := 59) (args := #[.pointer (some ⟨q4, 0, none⟩), .pointer (some ⟨q2, 0, none⟩), .pointer (some ⟨q3, 0, none⟩)]) (by simp) (by simp [rdDefer, go_sem]) ?_
 refine (catch_panic q4 q2 q3 gs v l a er u pv tv ev [] w h.k4 h.k2 h.k3 h.src).mono ?_
 rintro e u' w'' ⟨rfl, rfl, rfl⟩
 have hne : q3 ≠ q2 := Frm.blk_tyne h.k3 h.k2 (by decide)
 have hb2 : Blk ((w.setCell ⟨q2, 0, none⟩ (.pointer none)).setCell ⟨q3, 0, none⟩ (.int .i64 (if er = 2 then 2 else 3))) q2 25 #[.pointer none] := (h.k2.set_ 0 _).far (Ne.symm hne) _
 have hb3 : Blk ((w.setCell ⟨q2, 0, none⟩ (.pointer none)).setCell ⟨q3, 0, none⟩ (.int .i64 (if er = 2 then 2 else 3))) q3 54 #[.int .i64 (if er = 2 then 2 else 3)] := (h.k3.far hne _).set_ 0 _
 have hk : Keeps W ((w.setCell ⟨q2, 0, none⟩ (.pointer none)).setCell ⟨q3, 0, none⟩ (.int .i64 (if er = 2 then 2 else 3))) := (h.kp.setCell h.h2 _).setCell h.h3 _
 have c2 := hb2.cell 0
 have c3 := hb3.cell 0
 generalize (w.setCell ⟨q2, 0, none⟩ (.pointer none)).setCell ⟨q3, 0, none⟩ (.int .i64 (if er = 2 then 2 else 3)) = w9 at *
 have c2' : w9.cell? ⟨q2, 0, none⟩ = some (.pointer none) := c2
 have c3' : w9.cell? ⟨q3, 0, none⟩ = some (.int .i64 (if er = 2 then 2 else 3)) := c3
 clear c2 c3
 subst hr
 simp [Leaves, settle, results, Tryz.results19, go_sem, ht2, ht3, c2', c3']
 exact ⟨hk, .inr ⟨rfl, rfl⟩⟩
theorem door_ret {w : World} {q2 q3 q4 : Nat} {tv : Value} {ev : Int} (h2 : Blk w q2 25 #[tv]) (h3 : Blk w q3 54 #[.int .i64 ev]) {R : Ending → World → Prop} (hR : R (.returned (.tuple #[tv, .int .i64 ev])) w) (tm : Array Value) (ht2 : tm[2]? = some (.pointer (some ⟨q2, 0, none⟩))) (ht3 : tm[3]? = some (.pointer (some ⟨q3, 0, none⟩))) :
  bodyPostD Tryz.prog Tryz.f19 R .ret { tmps := tm, defers := [rdDefer q2 q3 q4] } w := by
 refine leaves_cons (f := 59) (args := #[.pointer (some ⟨q4, 0, none⟩), .pointer (some ⟨q2, 0, none⟩), .pointer (some ⟨q3, 0, none⟩)]) (by simp) (by simp [rdDefer, go_sem]) ?_
 refine (catch_idle _ _ _ w).mono ?_
 rintro e u' w'' ⟨rfl, rfl, rfl⟩
 have c2' : w''.cell? ⟨q2, 0, none⟩ = some tv := by rw [h2.cell]; rfl
 have c3' : w''.cell? ⟨q3, 0, none⟩ = some (.int .i64 ev) := by rw [h3.cell]; rfl
 simp [Leaves, settle, results, Tryz.results19, go_sem, ht2, ht3, c2', c3']
 exact hR
/-! ### the reading, step by step -/
theorem rdAll_head {l dom : Str} {a1 nx a2 : Nat} {e1 e2 : Int} (h1 : tL l 0 0 65536 = dom) (h2 : tA l 0 0 65536 = a1) (h3 : tE l 0 0 65536 = e1) (h4 : uV l a1 e1 2 = nx) (h5 : uA l.length a1 e1 2 = a2) (h6 : uE l.length a1 e1 2 = e2) :
  rdAll.run l 0 0 = if e2 = 0 then ((rdUsers (tab0 dom)).bind fun s => (rdAliases s.1).bind fun q => .must (.ret (q.1, q.2 && (s.2 && domainB dom), s.1.next, (nx : Int)))).run l a2 e2 else (none, a2, e2) := by
 subst h1 h2 h3 h4 h5 h6
 unfold rdAll
 simp only [Rd.run]
 rfl
theorem rdAll_us0 {l dom : Str} {nx a2 a' : Nat} {er : Int} (h : rdAll.run l 0 0 = ((rdUsers (tab0 dom)).bind fun s => (rdAliases s.1).bind fun q => .must (.ret (q.1, q.2 && (s.2 && domainB dom), s.1.next, (nx : Int)))).run l a2 0) (k : (rdUsers (tab0 dom)).run l a2 0 = (none, a', er)) : rdAll.run l 0 0 = (none, a', er) := by
 rw [h, Rd.run_bind, k]
theorem rdAll_us1 {l dom : Str} {nx a2 a3 : Nat} {e3 : Int} {t1 : TabP} {g1 : Bool} (h : rdAll.run l 0 0 = ((rdUsers (tab0 dom)).bind fun s => (rdAliases s.1).bind fun q => .must (.ret (q.1, q.2 && (s.2 && domainB dom), s.1.next, (nx : Int)))).run l a2 0) (k : (rdUsers (tab0 dom)).run l a2 0 = (some (t1, g1), a3, e3)) :
  rdAll.run l 0 0 = ((rdAliases t1).bind fun q => .must (.ret (q.1, q.2 && (g1 && domainB dom), t1.next, (nx : Int)))).run l a3 e3 := by
 rw [h, Rd.run_bind, k]
theorem rdAll_al0 {l dom : Str} {nx a3 a' : Nat} {e3 er : Int} {t1 : TabP} {g1 : Bool} (h : rdAll.run l 0 0 = ((rdAliases t1).bind fun q => .must (.ret (q.1, q.2 && (g1 && domainB dom), t1.next, (nx : Int)))).run l a3 e3) (k : (rdAliases t1).run l a3 e3 = (none, a', er)) : rdAll.run l 0 0 = (none, a', er) := by
 rw [h, Rd.run_bind, k]
theorem rdAll_al1 {l dom : Str} {nx a3 a4 : Nat} {e3 e4 : Int} {t1 t2 : TabP} {g1 g2 : Bool} (h : rdAll.run l 0 0 = ((rdAliases t1).bind fun q => .must (.ret (q.1, q.2 && (g1 && domainB dom), t1.next, (nx : Int)))).run l a3 e3) (k : (rdAliases t1).run l a3 e3 = (some (t2, g2), a4, e4)) :
  rdAll.run l 0 0 = if e4 = 0 then (some (t2, g2 && (g1 && domainB dom), t1.next, (nx : Int)), a4, e4) else (none, a4, e4) := by
 rw [h, Rd.run_bind, k]
 rfl
theorem readT_none {l : Str} {a : Nat} {er : Int} (h : rdAll.run l 0 0 = (none, a, er)) : readT l = (none, if er = 2 then 2 else 3) := by
 unfold readT
 rw [h]
theorem readT_end {l : Str} {a : Nat} {er : Int} {t : TabP} {good : Bool} {least nx : Int} (h : rdAll.run l 0 0 = (some (t, good, least, nx), a, er)) : readT l = if good = true ∧ leastT t least ≤ nx ∧ nx ≤ 1000 ∧ a = l.length ∧ bytesT { t with next := nx } = l then (some { t with next := nx }, 0) else (none, 3) := by
 unfold readT
 rw [h]
set_option maxRecDepth 100000 in
set_option maxHeartbeats 4000000 in
theorem read_any (w : World) (bv : Value) (l : Str) (hr : Row w bv (l.map u8v)) (hl : l.length ≤ 1000000) : Calls Tryz.prog 19 #[bv] w (ReadDid w (readT l)) := by
 have hmf := hmkf
 have HR := Lib.hid hr
 obtain ⟨pb, cb, rfl, -, -⟩ := hr.formB
 clear hr
 have HN := Lib.hid (fun w' (k : Keeps w w') => newSource_any (.slice pb l.length cb) l w' (HR.out.keeps k) (by omega))
 go_enter_defers Tryz.func19, Tryz.ntmps19
 go_wp2_with fail
 have HK0 := Lib.hid (show Keeps w ((w.alloc (.cells #[.pointer none] 25)).alloc (.cells #[.int .i64 0] 54)) from ((Keeps.refl _).alloc _).alloc _)
 have HB2 := Lib.hid (show Blk ((w.alloc (.cells #[.pointer none] 25)).alloc (.cells #[.int .i64 0] 54)) w.heap.size 25 #[.pointer none] from (Blk.new _ _ _ rfl).alloc _)
 have HB3 := Lib.hid (show Blk ((w.alloc (.cells #[.pointer none] 25)).alloc (.cells #[.int .i64 0] 54)) (w.heap.size + 1) 54 #[.int .i64 0] from Blk.new _ _ _ (by simp))
 have hsz : w.heap.size ≤ w.heap.size + 1 := by omega
 have HSZ := Lib.hid (And.intro (Nat.le_refl w.heap.size) hsz)
 refine (HN.out _ HK0.out).mono ?_
 rintro e w1 ⟨gs, v, rfl, hgs, hs, hvb, hk⟩
 have HS1 := Lib.hid hs
 have HK1 := Lib.hid (HK0.out.trans hk)
 have HB2 := Lib.hid (HB2.out.keeps hk)
 have HB3 := Lib.hid (HB3.out.keeps hk)
 have HG := Lib.hid (Nat.le_trans HK0.out.size hgs)
 clear hs hk hgs hvb hsz HK0 HN
 generalize hq3 : w.heap.size + 1 = q3 at *
 generalize hq2 : w.heap.size = q2 at *
 have HQ := Lib.hid hq2
 clear hq2 hq3
 go_upto_region 3 with fail
 obtain ⟨q4, hq4⟩ : ∃ q4, w1.heap.size = q4 := ⟨_, rfl⟩
 obtain ⟨w2, hw2⟩ : ∃ w2, w1.alloc (.cells #[.pointer (some ⟨gs, 0, none⟩)] 110) = w2 := ⟨_, rfl⟩
 rw [hw2, hq4]
 have hk2 : Keeps w1 w2 := by rw [← hw2]; exact (Keeps.refl _).alloc _
 have HST := Lib.hid (show RdSt w w2 q2 q3 q4 gs v l 0 0 (.pointer none) 0 from ⟨by rw [← hw2]; exact Blk.new _ _ _ hq4.symm, HB2.out.keeps hk2, HB3.out.keeps hk2, HS1.out.keeps hk2, HK1.out.trans hk2, by rw [HQ.out]; exact HSZ.out.1, by rw [HQ.out]; exact HSZ.out.2, by rw [HQ.out]; exact HG.out⟩)
 clear hw2 hq4 hk2 HB2 HB3 HS1 HK1 HG HSZ
 have HRA := Lib.hid (rdAll_head (l := l) rfl rfl rfl rfl rfl rfl)
 have CT := Lib.hid (fun w' (h : SrcAt w' gs v l 0 0) => srcText_any gs v l 0 0 65536 w' h (by decide) (by decide))
 have hdl := tL_len (l := l) (a := 0) (er := 0) (m := 65536)
 rw [show ((65536 : Nat) : Int) = 65536 from rfl] at hdl
 generalize tL l 0 0 65536 = dom at *
 generalize tA l 0 0 65536 = a1 at *
 generalize tE l 0 0 65536 = e1 at *
 have CU := Lib.hid (fun w' (h : SrcAt w' gs v l a1 e1) => srcU_any gs v l a1 e1 2 w' h)
 have hnx := uV_2 (l := l) (a := a1) (er := e1) (k := 2) (by omega)
 rw [show ((2 : Nat) : Int) = 2 from rfl, show 256 ^ 2 = 65536 from rfl] at hnx
 generalize uV l a1 e1 2 = nx at *
 generalize uA l.length a1 e1 2 = a2 at *
 generalize uE l.length a1 e1 2 = e2 at *
 have hwn : IntKind.i64.wrap (nx : Int) = (nx : Int) := IntWalk.i64_in _ (by omega)
 go_cut [5, 6] from 12 to 16 (fun dv nv wx => dv = .string (bstr dom) ∧ nv = .int .i64 (nx : Int) ∧ Hid (RdSt w wx q2 q3 q4 gs v l a2 e2 (.pointer none) 0))
 case first =>
  have HSd := Lib.hid (HST.out.src.keeps (Keeps.refl w2).drew)
  have b4 : w2.cell? ⟨q4, 0, none⟩ = some (.pointer (some ⟨gs, 0, none⟩)) := by rw [HST.out.k4.cell]; rfl
  have hq4 : ¬ q4 = gs := Frm.blk_tyne HST.out.k4 HST.out.src.blk (by decide)
  refine wp_region_noPanic ?_
  refine wp_region_held_drew (S := fun w' => Mods (· = gs) w2 w') (by kernel_rfl) ((Mods.refl (· = gs) w2).drew) (fun _ => ?_)
  have hHeld : Mods (· = gs) w2 (w2).drew := (Mods.refl (· = gs) w2).drew
  generalize World.drew w2 = xs at *
  refine tq 0 12 ?_ (hy := fun w' hSw => by
   have hSw : Mods (· = gs) w2 w' := hSw
   have h0 := hSw.cell b4 hq4
   clear hSw
   go_simp
   try with_reducible rfl)
  refine tq 2 14 ?_ (hy := fun w' hSw => by
   have hSw : Mods (· = gs) w2 w' := hSw
   have h0 := hSw.cell b4 hq4
   clear hSw
   go_simp
   try with_reducible rfl)
  refine rd1 1 (fun K hK => ?_)
  go_simp
  refine (CT.out xs HSd.out).mono ?_
  rintro e yA ⟨rfl, hs, hm⟩
  have hb := hHeld.trans hm (fun x h _ => h)
  have HSd := Lib.hid hs
  clear hs hm
  go_wp2_with fail
  refine bkm hK hb ?_
  clear hK K hHeld
  have hHeld : Mods (· = gs) w2 yA := hb
  clear hb
  refine rd1 3 (fun K hK => ?_)
  go_simp
  refine (CU.out yA HSd.out).mono ?_
  rintro e yB ⟨rfl, hs, hm⟩
  have hb := hHeld.trans hm (fun x h _ => h)
  have HSd := Lib.hid hs
  clear hs hm
  go_wp2_with fail
  refine bkm hK hb ?_
  clear hK K hHeld
  have hHeld : Mods (· = gs) w2 yB := hb
  clear hb
  refine tq 4 16 ?_
  refine tq 5 5 ?_
  refine tq 6 6 ?_
  refine wpAnyH_done (by kernel_rfl) ?_ _
  refine NoPanic.normal ?_
  go_wp2_with fail
  go_meet
  exact ⟨rfl, rfl, Lib.hid (HST.out.did HSd.out hHeld)⟩
 case rest =>
 obtain ⟨rfl, rfl, HC⟩ := hcut
 obtain ⟨w3, rfl⟩ : ∃ z : World, z = wc := ⟨_, rfl⟩
 clear HST CT CU hwn
 have b4 : w3.cell? ⟨q4, 0, none⟩ = some (.pointer (some ⟨gs, 0, none⟩)) := by rw [HC.out.k4.cell]; rfl
 go_wp2_with fail
 refine (must_any w3 gs v l a2 e2 HC.out.src).mono ?_
 rintro e w4 ⟨rfl, ⟨rfl, rfl⟩ | ⟨hne, rfl⟩⟩
 ·have HRB := Lib.hid (HRA.out.trans (if_pos rfl))
  have CD := Lib.hid (fun w' => Adr.domainB_any w' dom (by omega))
  have CN := Lib.hid (fun w' => new_any w' [120] (by decide))
  have CM := Lib.hid (fun w' => new_any w' dom (by omega))
  obtain ⟨dg, hdg⟩ : ∃ z, domainB dom = z := ⟨_, rfl⟩
  have HDG := Lib.hid hdg
  rw [hdg] at CD
  clear hdg
  go_wp2_with fail
  refine (CD.out _).mono ?_
  rintro e w4 ⟨rfl, hk⟩
  have HC := Lib.hid (HC.out.keeps hk)
  have HC0 := Lib.hid HC.out.kp
  clear hk b4
  go_wp2_with fail
  refine (CN.out _).mono ?_
  rintro e w5 (⟨-, g0, x1, x2, rfl, hb, hT, hk⟩ | ⟨hx, -, -⟩)
  ·have HC := Lib.hid (HC.out.keeps hk)
   have HT := Lib.hid hT
   have HBB := Lib.hid (show w.heap.size ≤ g0 ∧ w.heap.size ≤ x1 ∧ w.heap.size ≤ x2 from by have := HC.out.kp.size; have := (show Keeps w w4 from HC0.out).size; omega)
   have c2 : w5.cell? ⟨q2, 0, none⟩ = some (.pointer none) := by rw [HC.out.k2.cell]; rfl
   have f2 : w5.frozen? ⟨q2, 0, none⟩ = false := HC.out.k2.frozen 0
   clear hb hT hk
   go_upto_if 22 with fail
   have HCs := Lib.hid (HC.out.setT (.pointer (some ⟨g0, 0, none⟩)))
   have HTs := Lib.hid (tab_set HT.out HC.out.k2 (by decide) (by decide) (.pointer (some ⟨g0, 0, none⟩)))
   generalize w5.setCell ⟨q2, 0, none⟩ (.pointer (some ⟨g0, 0, none⟩)) = w6 at *
   clear HT c2 f2
   go_cut [] from 23 to 24 (fun wx => Hid (∃ g b1 b2, RdSt w wx q2 q3 q4 gs v l a2 0 (.pointer (some ⟨g, 0, none⟩)) 0 ∧ TabAt wx g b1 b2 0 (tab0 dom) ∧ w.heap.size ≤ g ∧ w.heap.size ≤ b1 ∧ w.heap.size ≤ b2))
   case first =>
    cases dg with
    |false =>
     go_wp2_with fail
     go_meet
     exact Lib.hid ⟨g0, x1, x2, HCs.out, by unfold tab0; rw [if_neg (by rw [HDG.out]; decide)]; exact HTs.out, HBB.out⟩
    |true =>
     have HK6 := Lib.hid HCs.out.kp
     go_wp2_with fail
     refine (CM.out _).mono ?_
     rintro e w7 (⟨-, g1, y1, y2, rfl, hb, hT, hk⟩ | ⟨hx, -, -⟩)
     ·have HC7 := Lib.hid (HCs.out.keeps hk)
      have HT7 := Lib.hid hT
      have HB7 := Lib.hid (show w.heap.size ≤ g1 ∧ w.heap.size ≤ y1 ∧ w.heap.size ≤ y2 from by have := HK6.out.size; omega)
      have c2 : w7.cell? ⟨q2, 0, none⟩ = some (.pointer (some ⟨g0, 0, none⟩)) := by rw [HC7.out.k2.cell]; rfl
      have f2 : w7.frozen? ⟨q2, 0, none⟩ = false := HC7.out.k2.frozen 0
      clear hb hT hk
      go_wp2_with fail
      go_meet
      exact Lib.hid ⟨g1, y1, y2, HC7.out.setT _, by unfold tab0; rw [if_pos HDG.out]; exact tab_set HT7.out HC7.out.k2 (by decide) (by decide) _, HB7.out⟩
     ·rw [HDG.out] at hx; cases hx
   case rest =>
   obtain ⟨g, b1, b2, HR0⟩ : ∃ g b1 b2, Hid (RdSt w wc q2 q3 q4 gs v l a2 0 (.pointer (some ⟨g, 0, none⟩)) 0 ∧ TabAt wc g b1 b2 0 (tab0 dom) ∧ w.heap.size ≤ g ∧ w.heap.size ≤ b1 ∧ w.heap.size ≤ b2) := by
    obtain ⟨g, b1, b2, h⟩ := hcut.out
    exact ⟨g, b1, b2, Lib.hid h⟩
   obtain ⟨wx, rfl⟩ : ∃ z : World, z = wc := ⟨_, rfl⟩
   have HGB := Lib.hid HR0.out.2.2
   have HC := Lib.hid HR0.out.1
   have CRU := Lib.hid (readUsers_any wx gs v l a2 0 g b1 b2 0 (tab0 dom) ⟨HC.out.src, HR0.out.2.1⟩ (by omega))
   have HT0 := Lib.hid HR0.out.2.1
   clear hcut HCs HTs HBB CN CM HR0
   have b4 : wx.cell? ⟨q4, 0, none⟩ = some (.pointer (some ⟨gs, 0, none⟩)) := by rw [HC.out.k4.cell]; rfl
   have c2 : wx.cell? ⟨q2, 0, none⟩ = some (.pointer (some ⟨g, 0, none⟩)) := by rw [HC.out.k2.cell]; rfl
   obtain ⟨R1, hR1⟩ : ∃ R, (rdUsers (tab0 dom)).run l a2 0 = R := ⟨_, rfl⟩
   rw [hR1] at CRU
   have HR1 := Lib.hid hR1
   clear hR1
   go_upto_region 9 with fail
   go_cut [7] from 25 to 30 (fun gv wx => ∃ (gd : Bool) (t1 : TabP) (a3 : Nat) (e3 : Int) (n1 : Nat), gv = .bool gd ∧ n1 ≤ 300 ∧ Hid (RdSt w wx q2 q3 q4 gs v l a3 e3 (.pointer (some ⟨g, 0, none⟩)) 0 ∧ TabAt wx g b1 b2 n1 t1 ∧ (∃ g1, (rdUsers (tab0 dom)).run l a2 0 = (some (t1, g1), a3, e3) ∧ gd = (g1 && dg))))
   case first =>
    go_wp2_with fail
    refine CRU.out.mono ?_
    rintro e w8 ⟨hm, hs, ⟨t1, g1, n1, hr, rfl, hn1, hT1⟩ | ⟨hr, hne, rfl⟩⟩
    ·obtain ⟨o1, a3, e3⟩ := R1
     simp only at hr hs
     subst hr
     have HC8 := Lib.hid (HC.out.ran HT0.out HGB.out hs hm)
     have HTT := Lib.hid hT1
     clear hm hs hT1
     cases g1 with
     |false =>
      go_wp2_with fail
      go_meet
      exact ⟨false, t1, a3, e3, n1, rfl, by omega, Lib.hid ⟨HC8.out, HTT.out, false, HR1.out, by simp⟩⟩
     |true =>
      go_wp2_with fail
      go_meet
      exact ⟨dg, t1, a3, e3, n1, rfl, by omega, Lib.hid ⟨HC8.out, HTT.out, true, HR1.out, by simp⟩⟩
    ·obtain ⟨o1, a3, e3⟩ := R1
     simp only at hr hne hs
     subst hr
     have HC8 := Lib.hid (HC.out.ran HT0.out HGB.out hs hm)
     have HX := Lib.hid (readT_none (rdAll_us0 HRB.out HR1.out))
     unfold panicE
     go_wp2_with fail
     exact door_panic HC8.out HX.out _ _ _ rfl rfl
   case rest =>
   obtain ⟨gd, t1, a3, e3, n1, rfl, hn1, HD⟩ := hcut
   obtain ⟨wy, rfl⟩ : ∃ z : World, z = wc := ⟨_, rfl⟩
   clear b4 c2 CRU HC HT0 HR1 R1
   have HC := Lib.hid HD.out.1
   have HT1 := Lib.hid HD.out.2.1
   obtain ⟨g1, HRu, hgd⟩ : ∃ g1, Hid ((rdUsers (tab0 dom)).run l a2 0 = (some (t1, g1), a3, e3)) ∧ gd = (g1 && dg) := by
    obtain ⟨g1, h1, h2⟩ := HD.out.2.2
    exact ⟨g1, Lib.hid h1, h2⟩
   have HGD := Lib.hid hgd
   have HRC := Lib.hid (rdAll_us1 HRB.out HRu.out)
   have HRR := Lib.hid (rdUsers_right HRu.out (tab0_right _) rfl)
   clear hgd HD
   have c2 : wy.cell? ⟨q2, 0, none⟩ = some (.pointer (some ⟨g, 0, none⟩)) := by rw [HC.out.k2.cell]; rfl
   obtain ⟨-, c1, -, -⟩ := HT1.out.cells
   go_upto_region 11 with fail
   clear c1 c2
   have CRA := Lib.hid (readAliases_any wy gs v l a3 e3 g b1 b2 n1 t1 ⟨HC.out.src, HT1.out⟩ (by omega))
   obtain ⟨R2, hR2⟩ : ∃ R, (rdAliases t1).run l a3 e3 = R := ⟨_, rfl⟩
   rw [hR2] at CRA
   have HR2 := Lib.hid hR2
   clear hR2
   have b4 : wy.cell? ⟨q4, 0, none⟩ = some (.pointer (some ⟨gs, 0, none⟩)) := by rw [HC.out.k4.cell]; rfl
   have c2 : wy.cell? ⟨q2, 0, none⟩ = some (.pointer (some ⟨g, 0, none⟩)) := by rw [HC.out.k2.cell]; rfl
   go_cut [7] from 35 to 40 (fun gv wx => ∃ (ge : Bool) (t2 : TabP) (a4 : Nat) (e4 : Int) (n2 : Nat), gv = .bool ge ∧ n2 ≤ 600 ∧ Hid (RdSt w wx q2 q3 q4 gs v l a4 e4 (.pointer (some ⟨g, 0, none⟩)) 0 ∧ TabAt wx g b1 b2 n2 t2 ∧ (∃ g2, (rdAliases t1).run l a3 e3 = (some (t2, g2), a4, e4) ∧ ge = (g2 && gd))))
   case first =>
    go_wp2_with fail
    refine CRA.out.mono ?_
    rintro e w8 ⟨hm, hs, ⟨t2, g2, n2, hr, rfl, hn2, hT2⟩ | ⟨hr, hne, rfl⟩⟩
    ·obtain ⟨o1, a4, e4⟩ := R2
     simp only at hr hs
     subst hr
     have HC8 := Lib.hid (HC.out.ran HT1.out HGB.out hs hm)
     have HTT := Lib.hid hT2
     clear hm hs hT2
     cases g2 with
     |false =>
      go_wp2_with fail
      go_meet
      exact ⟨false, t2, a4, e4, n2, rfl, by omega, Lib.hid ⟨HC8.out, HTT.out, false, HR2.out, by simp⟩⟩
     |true =>
      go_wp2_with fail
      go_meet
      exact ⟨gd, t2, a4, e4, n2, rfl, by omega, Lib.hid ⟨HC8.out, HTT.out, true, HR2.out, by simp⟩⟩
    ·obtain ⟨o1, a4, e4⟩ := R2
     simp only at hr hne hs
     subst hr
     have HC8 := Lib.hid (HC.out.ran HT1.out HGB.out hs hm)
     have HX := Lib.hid (readT_none (rdAll_al0 HRC.out HR2.out))
     unfold panicE
     go_wp2_with fail
     exact door_panic HC8.out HX.out _ _ _ rfl rfl
   case rest =>
   obtain ⟨ge, t2, a4, e4, n2, rfl, hn2, HE⟩ := hcut
   obtain ⟨wz, rfl⟩ : ∃ z : World, z = wc := ⟨_, rfl⟩
   clear b4 c2 CRA HC HT1 HR2 R2
   have HC := Lib.hid HE.out.1
   have HT2 := Lib.hid HE.out.2.1
   obtain ⟨g2, HRa, hge⟩ : ∃ g2, Hid ((rdAliases t1).run l a3 e3 = (some (t2, g2), a4, e4)) ∧ ge = (g2 && gd) := by
    obtain ⟨g2, h1, h2⟩ := HE.out.2.2
    exact ⟨g2, Lib.hid h1, h2⟩
   have HGE := Lib.hid hge
   have HRE := Lib.hid (rdAll_al1 HRC.out HRa.out)
   have HIA := Lib.hid (rdAliases_right HRa.out HRR.out.1)
   clear hge HE
   have b4 : wz.cell? ⟨q4, 0, none⟩ = some (.pointer (some ⟨gs, 0, none⟩)) := by rw [HC.out.k4.cell]; rfl
   go_wp2_with fail
   refine (must_any wz gs v l a4 e4 HC.out.src).mono ?_
   rintro e w8 ⟨rfl, ⟨rfl, rfl⟩ | ⟨hne, rfl⟩⟩
   ·have HRF := Lib.hid (readT_end (HRE.out.trans (if_pos rfl)))
    have HRN := Lib.hid (fun (nx0 : Int) => right_end (nx := nx0) HIA.out HRR.out.1)
    have hal4 := HC.out.src.le
    have HDL := Lib.hid (show t2.dom.length ≤ 1000000 from by
     rw [HIA.out.2.2.1, HRR.out.2]
     unfold tab0
     simp only
     split
     ·rw [lowL_len]; omega
     ·decide)
    have hul := HIA.out.1.ul
    have c2 : wz.cell? ⟨q2, 0, none⟩ = some (.pointer (some ⟨g, 0, none⟩)) := by rw [HC.out.k2.cell]; rfl
    obtain ⟨-, -, cu, -⟩ := HT2.out.cells
    have hlnU := HT2.out.lenU
    obtain ⟨ls, hls⟩ : ∃ ls, leastT t2 t1.next = ls := ⟨_, rfl⟩
    have HLS := Lib.hid hls
    rw [hls] at HRF
    clear hls b4
    obtain ⟨eb, heb⟩ : ∃ z, ((t2.us.length : Int) == 0) = z := ⟨_, rfl⟩
    have HLX := Lib.hid (show ls = if eb = true then 1 else t1.next from by
     rw [← HLS.out, ← heb]
     unfold leastT
     by_cases h0 : t2.us.length = 0
     ·rw [if_pos h0, if_pos (by simp [h0])]
     ·rw [if_neg h0, if_neg (by simp only [beq_iff_eq]; omega)])
    go_upto_if 48 with fail
    clear heb
    go_cut [8] from 48 to 48 (fun lv wx => lv = .int .i64 ls ∧ wx = wz)
    case first =>
     cases eb with
     |true =>
      have HL1 := Lib.hid (show ls = 1 from HLX.out)
      go_wp2_with fail
      go_meet
      exact ⟨by rw [HL1.out], rfl⟩
     |false =>
      have HL1 := Lib.hid (show ls = t1.next from HLX.out)
      go_wp2_with fail
      go_meet
      exact ⟨by rw [HL1.out], rfl⟩
    case rest =>
    obtain ⟨rfl, rfl⟩ := hcut
    clear hlnU cu
    obtain ⟨wp, rfl⟩ : ∃ z : World, z = wc := ⟨_, rfl⟩
    obtain ⟨ni, hni⟩ : ∃ ni : Int, (nx : Int) = ni := ⟨_, rfl⟩
    rw [hni] at HRF ⊢
    have HNI := Lib.hid (show 0 ≤ ni ∧ ni < 65536 from by omega)
    clear hni
    obtain ⟨-, cn, -, -⟩ := HT2.out.cells
    have fn1 : wp.frozen? ⟨g, 1, none⟩ = false := HT2.out.blk.frozen 1
    go_upto_region 16 with fail
    obtain ⟨hTn, hMn⟩ := HT2.out.setNext ni
    have HTN := Lib.hid hTn
    have HC9 := Lib.hid (HC.out.ran HT2.out HGB.out ((RdAt.act ⟨HC.out.src, HT2.out⟩ hTn (hMn.mono (fun x hx => .inl hx))).src) (hMn.mono (fun x hx => .inr (.inl hx))))
    generalize wp.setCell ⟨g, 1, none⟩ (.int .i64 ni) = w9 at *
    clear hTn hMn cn fn1 c2
    have b4 : w9.cell? ⟨q4, 0, none⟩ = some (.pointer (some ⟨gs, 0, none⟩)) := by rw [HC9.out.k4.cell]; rfl
    have c2 : w9.cell? ⟨q2, 0, none⟩ = some (.pointer (some ⟨g, 0, none⟩)) := by rw [HC9.out.k2.cell]; rfl
    obtain ⟨bad, hbad⟩ : ∃ z : Bool, (!decide (ge = true ∧ ls ≤ ni ∧ ni ≤ 1000 ∧ a4 = l.length ∧ bytesT { t2 with next := ni } = l)) = z := ⟨_, rfl⟩
    have HBAD := Lib.hid hbad
    have HGE2 := Lib.hid (show (g2 && (g1 && domainB dom)) = ge from by rw [HGE.out, HGD.out, HDG.out])
    rw [HGE2.out] at HRF
    have HCB := Lib.hid HC9.out.kp
    clear hbad
    go_cut [76] from 53 to 75 (fun bv wx => bv = .bool bad ∧ Hid (Keeps w9 wx))
    case first =>
     cases ge with
     |false =>
      have HB : Hid (true = bad) := Lib.hid (by rw [← HBAD.out]; simp)
      refine wp_region_noPanic ?_
      refine wp_region_held_drew (S := fun w' => Keeps (w9) w') (by kernel_rfl) ((Keeps.refl _).drew) (fun _ => ?_)
      have hHeld : Keeps (w9) (w9).drew := (Keeps.refl _).drew
      refine tq 0 53 ?_
      refine tq 1 54 ?_
      refine tq 2 55 ?_
      refine wpAnyH_take (i := 3) (v := undef) (by rfl) (by kernel_rfl) (by kernel_rfl) (by kernel_rfl) (by intro _ _ _ h; exact h) (Or.inr ⟨by kernel_rfl, rfl⟩) (by assumption) ?rest9
      change wpAnyH _ _ _ _ _ _ _ (Act.put _ (some 56) _) _
      try simp only [Act.put, List.setIfInBounds_toArray, List.set_cons_zero, List.set_cons_succ]
      refine wpAnyH_take (i := 4) (v := undef) (by rfl) (by kernel_rfl) (by kernel_rfl) (by kernel_rfl) (by intro _ _ _ h; exact h) (Or.inr ⟨by kernel_rfl, rfl⟩) (by assumption) ?rest10
      change wpAnyH _ _ _ _ _ _ _ (Act.put _ (some 57) _) _
      try simp only [Act.put, List.setIfInBounds_toArray, List.set_cons_zero, List.set_cons_succ]
      refine wpAnyH_take (i := 5) (v := undef) (by rfl) (by kernel_rfl) (by kernel_rfl) (by kernel_rfl) (by intro _ _ _ h; exact h) (Or.inr ⟨by kernel_rfl, rfl⟩) (by assumption) ?rest11
      change wpAnyH _ _ _ _ _ _ _ (Act.put _ (some 58) _) _
      try simp only [Act.put, List.setIfInBounds_toArray, List.set_cons_zero, List.set_cons_succ]
      refine tq 6 59 ?_
      refine tq 7 60 ?_
      refine wpAnyH_take (i := 8) (v := undef) (by rfl) (by kernel_rfl) (by kernel_rfl) (by kernel_rfl) (by intro _ _ _ h; exact h) (Or.inr ⟨by kernel_rfl, rfl⟩) (by assumption) ?rest14
      change wpAnyH _ _ _ _ _ _ _ (Act.put _ (some 61) _) _
      try simp only [Act.put, List.setIfInBounds_toArray, List.set_cons_zero, List.set_cons_succ]
      refine wpAnyH_take (i := 9) (v := undef) (by rfl) (by kernel_rfl) (by kernel_rfl) (by kernel_rfl) (by intro _ _ _ h; exact h) (Or.inr ⟨by kernel_rfl, rfl⟩) (by assumption) ?rest15
      change wpAnyH _ _ _ _ _ _ _ (Act.put _ (some 62) _) _
      try simp only [Act.put, List.setIfInBounds_toArray, List.set_cons_zero, List.set_cons_succ]
      refine tq 10 63 ?_
      refine tq 11 64 ?_
      refine wpAnyH_take (i := 12) (v := undef) (by rfl) (by kernel_rfl) (by kernel_rfl) (by kernel_rfl) (by intro _ _ _ h; exact h) (Or.inr ⟨by kernel_rfl, rfl⟩) (by assumption) ?rest18
      change wpAnyH _ _ _ _ _ _ _ (Act.put _ (some 65) _) _
      try simp only [Act.put, List.setIfInBounds_toArray, List.set_cons_zero, List.set_cons_succ]
      refine wpAnyH_take (i := 13) (v := undef) (by rfl) (by kernel_rfl) (by kernel_rfl) (by kernel_rfl) (by intro _ _ _ h; exact h) (Or.inr ⟨by kernel_rfl, rfl⟩) (by assumption) ?rest19
      change wpAnyH _ _ _ _ _ _ _ (Act.put _ (some 66) _) _
      try simp only [Act.put, List.setIfInBounds_toArray, List.set_cons_zero, List.set_cons_succ]
      refine wpAnyH_take (i := 14) (v := undef) (by rfl) (by kernel_rfl) (by kernel_rfl) (by kernel_rfl) (by intro _ _ _ h; exact h) (Or.inr ⟨by kernel_rfl, rfl⟩) (by assumption) ?rest20
      change wpAnyH _ _ _ _ _ _ _ (Act.put _ (some 67) _) _
      try simp only [Act.put, List.setIfInBounds_toArray, List.set_cons_zero, List.set_cons_succ]
      refine tq 15 68 ?_
      refine tq 16 69 ?_
      refine wpAnyH_take (i := 17) (v := undef) (by rfl) (by kernel_rfl) (by kernel_rfl) (by kernel_rfl) (by intro _ _ _ h; exact h) (Or.inr ⟨by kernel_rfl, rfl⟩) (by assumption) ?rest23
      change wpAnyH _ _ _ _ _ _ _ (Act.put _ (some 70) _) _
      try simp only [Act.put, List.setIfInBounds_toArray, List.set_cons_zero, List.set_cons_succ]
      refine wpAnyH_take (i := 18) (v := undef) (by rfl) (by kernel_rfl) (by kernel_rfl) (by kernel_rfl) (by intro _ _ _ h; exact h) (Or.inr ⟨by kernel_rfl, rfl⟩) (by assumption) ?rest24
      change wpAnyH _ _ _ _ _ _ _ (Act.put _ (some 71) _) _
      try simp only [Act.put, List.setIfInBounds_toArray, List.set_cons_zero, List.set_cons_succ]
      refine wpAnyH_take (i := 19) (v := undef) (by rfl) (by kernel_rfl) (by kernel_rfl) (by kernel_rfl) (by intro _ _ _ h; exact h) (Or.inr ⟨by kernel_rfl, rfl⟩) (by assumption) ?rest25
      change wpAnyH _ _ _ _ _ _ _ (Act.put _ (some 72) _) _
      try simp only [Act.put, List.setIfInBounds_toArray, List.set_cons_zero, List.set_cons_succ]
      refine wpAnyH_take (i := 20) (v := undef) (by rfl) (by kernel_rfl) (by kernel_rfl) (by kernel_rfl) (by intro _ _ _ h; exact h) (Or.inr ⟨by kernel_rfl, rfl⟩) (by assumption) ?rest26
      change wpAnyH _ _ _ _ _ _ _ (Act.put _ (some 73) _) _
      try simp only [Act.put, List.setIfInBounds_toArray, List.set_cons_zero, List.set_cons_succ]
      refine wpAnyH_take (i := 21) (v := undef) (by rfl) (by kernel_rfl) (by kernel_rfl) (by kernel_rfl) (by intro _ _ _ h; exact h) (Or.inr ⟨by kernel_rfl, rfl⟩) (by assumption) ?rest27
      change wpAnyH _ _ _ _ _ _ _ (Act.put _ (some 74) _) _
      try simp only [Act.put, List.setIfInBounds_toArray, List.set_cons_zero, List.set_cons_succ]
      refine wpAnyH_take (i := 22) (v := undef) (by rfl) (by kernel_rfl) (by kernel_rfl) (by kernel_rfl) (by intro _ _ _ h; exact h) (Or.inr ⟨by kernel_rfl, rfl⟩) (by assumption) ?rest28
      change wpAnyH _ _ _ _ _ _ _ (Act.put _ (some 75) _) _
      try simp only [Act.put, List.setIfInBounds_toArray, List.set_cons_zero, List.set_cons_succ]
      refine tq 23 76 ?_
      refine wpAnyH_done (by kernel_rfl) ?_ _
      refine NoPanic.normal ?_
      go_wp2_with fail
      go_meet
      exact ⟨by rw [← HB.out], Lib.hid hHeld⟩
     |true =>
     by_cases k1 : ni < ls
     ·have HB : Hid (true = bad) := Lib.hid (by rw [← HBAD.out]; simp; omega)
      have e1 : decide (ni < ls) = true := decide_eq_true k1
      clear k1
      refine wp_region_noPanic ?_
      refine wp_region_held_drew (S := fun w' => Keeps (w9) w') (by kernel_rfl) ((Keeps.refl _).drew) (fun _ => ?_)
      have hHeld : Keeps (w9) (w9).drew := (Keeps.refl _).drew
      refine tq 0 53 ?_
      refine tq 1 54 ?_
      refine tq 2 55 ?_
      refine tq 3 56 ?_
      refine tq 4 57 ?_
      refine tq 5 58 ?_
      refine tq 6 59 ?_
      refine tq 7 60 ?_
      refine wpAnyH_take (i := 8) (v := undef) (by rfl) (by kernel_rfl) (by kernel_rfl) (by kernel_rfl) (by intro _ _ _ h; exact h) (Or.inr ⟨by kernel_rfl, rfl⟩) (by assumption) ?rest38
      change wpAnyH _ _ _ _ _ _ _ (Act.put _ (some 61) _) _
      try simp only [Act.put, List.setIfInBounds_toArray, List.set_cons_zero, List.set_cons_succ]
      refine wpAnyH_take (i := 9) (v := undef) (by rfl) (by kernel_rfl) (by kernel_rfl) (by kernel_rfl) (by intro _ _ _ h; exact h) (Or.inr ⟨by kernel_rfl, rfl⟩) (by assumption) ?rest39
      change wpAnyH _ _ _ _ _ _ _ (Act.put _ (some 62) _) _
      try simp only [Act.put, List.setIfInBounds_toArray, List.set_cons_zero, List.set_cons_succ]
      refine tq 10 63 ?_
      refine tq 11 64 ?_
      refine wpAnyH_take (i := 12) (v := undef) (by rfl) (by kernel_rfl) (by kernel_rfl) (by kernel_rfl) (by intro _ _ _ h; exact h) (Or.inr ⟨by kernel_rfl, rfl⟩) (by assumption) ?rest42
      change wpAnyH _ _ _ _ _ _ _ (Act.put _ (some 65) _) _
      try simp only [Act.put, List.setIfInBounds_toArray, List.set_cons_zero, List.set_cons_succ]
      refine wpAnyH_take (i := 13) (v := undef) (by rfl) (by kernel_rfl) (by kernel_rfl) (by kernel_rfl) (by intro _ _ _ h; exact h) (Or.inr ⟨by kernel_rfl, rfl⟩) (by assumption) ?rest43
      change wpAnyH _ _ _ _ _ _ _ (Act.put _ (some 66) _) _
      try simp only [Act.put, List.setIfInBounds_toArray, List.set_cons_zero, List.set_cons_succ]
      refine wpAnyH_take (i := 14) (v := undef) (by rfl) (by kernel_rfl) (by kernel_rfl) (by kernel_rfl) (by intro _ _ _ h; exact h) (Or.inr ⟨by kernel_rfl, rfl⟩) (by assumption) ?rest44
      change wpAnyH _ _ _ _ _ _ _ (Act.put _ (some 67) _) _
      try simp only [Act.put, List.setIfInBounds_toArray, List.set_cons_zero, List.set_cons_succ]
      refine tq 15 68 ?_
      refine tq 16 69 ?_
      refine wpAnyH_take (i := 17) (v := undef) (by rfl) (by kernel_rfl) (by kernel_rfl) (by kernel_rfl) (by intro _ _ _ h; exact h) (Or.inr ⟨by kernel_rfl, rfl⟩) (by assumption) ?rest47
      change wpAnyH _ _ _ _ _ _ _ (Act.put _ (some 70) _) _
      try simp only [Act.put, List.setIfInBounds_toArray, List.set_cons_zero, List.set_cons_succ]
      refine wpAnyH_take (i := 18) (v := undef) (by rfl) (by kernel_rfl) (by kernel_rfl) (by kernel_rfl) (by intro _ _ _ h; exact h) (Or.inr ⟨by kernel_rfl, rfl⟩) (by assumption) ?rest48
      change wpAnyH _ _ _ _ _ _ _ (Act.put _ (some 71) _) _
      try simp only [Act.put, List.setIfInBounds_toArray, List.set_cons_zero, List.set_cons_succ]
      refine wpAnyH_take (i := 19) (v := undef) (by rfl) (by kernel_rfl) (by kernel_rfl) (by kernel_rfl) (by intro _ _ _ h; exact h) (Or.inr ⟨by kernel_rfl, rfl⟩) (by assumption) ?rest49
      change wpAnyH _ _ _ _ _ _ _ (Act.put _ (some 72) _) _
      try simp only [Act.put, List.setIfInBounds_toArray, List.set_cons_zero, List.set_cons_succ]
      refine wpAnyH_take (i := 20) (v := undef) (by rfl) (by kernel_rfl) (by kernel_rfl) (by kernel_rfl) (by intro _ _ _ h; exact h) (Or.inr ⟨by kernel_rfl, rfl⟩) (by assumption) ?rest50
      change wpAnyH _ _ _ _ _ _ _ (Act.put _ (some 73) _) _
      try simp only [Act.put, List.setIfInBounds_toArray, List.set_cons_zero, List.set_cons_succ]
      refine wpAnyH_take (i := 21) (v := undef) (by rfl) (by kernel_rfl) (by kernel_rfl) (by kernel_rfl) (by intro _ _ _ h; exact h) (Or.inr ⟨by kernel_rfl, rfl⟩) (by assumption) ?rest51
      change wpAnyH _ _ _ _ _ _ _ (Act.put _ (some 74) _) _
      try simp only [Act.put, List.setIfInBounds_toArray, List.set_cons_zero, List.set_cons_succ]
      refine wpAnyH_take (i := 22) (v := undef) (by rfl) (by kernel_rfl) (by kernel_rfl) (by kernel_rfl) (by intro _ _ _ h; exact h) (Or.inr ⟨by kernel_rfl, rfl⟩) (by assumption) ?rest52
      change wpAnyH _ _ _ _ _ _ _ (Act.put _ (some 75) _) _
      try simp only [Act.put, List.setIfInBounds_toArray, List.set_cons_zero, List.set_cons_succ]
      refine tq 23 76 ?_
      refine wpAnyH_done (by kernel_rfl) ?_ _
      refine NoPanic.normal ?_
      go_wp2_with fail
      go_meet
      exact ⟨by rw [← HB.out], Lib.hid hHeld⟩
     have e1 : decide (ni < ls) = false := decide_eq_false k1
     have K1 := Lib.hid k1
     clear k1
     by_cases k2 : 1000 < ni
     ·have HB : Hid (true = bad) := Lib.hid (by rw [← HBAD.out]; simp; omega)
      have e2 : decide (1000 < ni) = true := decide_eq_true k2
      clear k2
      refine wp_region_noPanic ?_
      refine wp_region_held_drew (S := fun w' => Keeps (w9) w') (by kernel_rfl) ((Keeps.refl _).drew) (fun _ => ?_)
      have hHeld : Keeps (w9) (w9).drew := (Keeps.refl _).drew
      refine tq 0 53 ?_
      refine tq 1 54 ?_
      refine tq 2 55 ?_
      refine tq 3 56 ?_
      refine tq 4 57 ?_
      refine tq 5 58 ?_
      refine tq 6 59 ?_
      refine tq 7 60 ?_
      refine tq 8 61 ?_
      refine tq 9 62 ?_
      refine tq 10 63 ?_
      refine tq 11 64 ?_
      refine wpAnyH_take (i := 12) (v := undef) (by rfl) (by kernel_rfl) (by kernel_rfl) (by kernel_rfl) (by intro _ _ _ h; exact h) (Or.inr ⟨by kernel_rfl, rfl⟩) (by assumption) ?rest66
      change wpAnyH _ _ _ _ _ _ _ (Act.put _ (some 65) _) _
      try simp only [Act.put, List.setIfInBounds_toArray, List.set_cons_zero, List.set_cons_succ]
      refine wpAnyH_take (i := 13) (v := undef) (by rfl) (by kernel_rfl) (by kernel_rfl) (by kernel_rfl) (by intro _ _ _ h; exact h) (Or.inr ⟨by kernel_rfl, rfl⟩) (by assumption) ?rest67
      change wpAnyH _ _ _ _ _ _ _ (Act.put _ (some 66) _) _
      try simp only [Act.put, List.setIfInBounds_toArray, List.set_cons_zero, List.set_cons_succ]
      refine wpAnyH_take (i := 14) (v := undef) (by rfl) (by kernel_rfl) (by kernel_rfl) (by kernel_rfl) (by intro _ _ _ h; exact h) (Or.inr ⟨by kernel_rfl, rfl⟩) (by assumption) ?rest68
      change wpAnyH _ _ _ _ _ _ _ (Act.put _ (some 67) _) _
      try simp only [Act.put, List.setIfInBounds_toArray, List.set_cons_zero, List.set_cons_succ]
      refine tq 15 68 ?_
      refine tq 16 69 ?_
      refine wpAnyH_take (i := 17) (v := undef) (by rfl) (by kernel_rfl) (by kernel_rfl) (by kernel_rfl) (by intro _ _ _ h; exact h) (Or.inr ⟨by kernel_rfl, rfl⟩) (by assumption) ?rest71
      change wpAnyH _ _ _ _ _ _ _ (Act.put _ (some 70) _) _
      try simp only [Act.put, List.setIfInBounds_toArray, List.set_cons_zero, List.set_cons_succ]
      refine wpAnyH_take (i := 18) (v := undef) (by rfl) (by kernel_rfl) (by kernel_rfl) (by kernel_rfl) (by intro _ _ _ h; exact h) (Or.inr ⟨by kernel_rfl, rfl⟩) (by assumption) ?rest72
      change wpAnyH _ _ _ _ _ _ _ (Act.put _ (some 71) _) _
      try simp only [Act.put, List.setIfInBounds_toArray, List.set_cons_zero, List.set_cons_succ]
      refine wpAnyH_take (i := 19) (v := undef) (by rfl) (by kernel_rfl) (by kernel_rfl) (by kernel_rfl) (by intro _ _ _ h; exact h) (Or.inr ⟨by kernel_rfl, rfl⟩) (by assumption) ?rest73
      change wpAnyH _ _ _ _ _ _ _ (Act.put _ (some 72) _) _
      try simp only [Act.put, List.setIfInBounds_toArray, List.set_cons_zero, List.set_cons_succ]
      refine wpAnyH_take (i := 20) (v := undef) (by rfl) (by kernel_rfl) (by kernel_rfl) (by kernel_rfl) (by intro _ _ _ h; exact h) (Or.inr ⟨by kernel_rfl, rfl⟩) (by assumption) ?rest74
      change wpAnyH _ _ _ _ _ _ _ (Act.put _ (some 73) _) _
      try simp only [Act.put, List.setIfInBounds_toArray, List.set_cons_zero, List.set_cons_succ]
      refine wpAnyH_take (i := 21) (v := undef) (by rfl) (by kernel_rfl) (by kernel_rfl) (by kernel_rfl) (by intro _ _ _ h; exact h) (Or.inr ⟨by kernel_rfl, rfl⟩) (by assumption) ?rest75
      change wpAnyH _ _ _ _ _ _ _ (Act.put _ (some 74) _) _
      try simp only [Act.put, List.setIfInBounds_toArray, List.set_cons_zero, List.set_cons_succ]
      refine wpAnyH_take (i := 22) (v := undef) (by rfl) (by kernel_rfl) (by kernel_rfl) (by kernel_rfl) (by intro _ _ _ h; exact h) (Or.inr ⟨by kernel_rfl, rfl⟩) (by assumption) ?rest76
      change wpAnyH _ _ _ _ _ _ _ (Act.put _ (some 75) _) _
      try simp only [Act.put, List.setIfInBounds_toArray, List.set_cons_zero, List.set_cons_succ]
      refine tq 23 76 ?_
      refine wpAnyH_done (by kernel_rfl) ?_ _
      refine NoPanic.normal ?_
      go_wp2_with fail
      go_meet
      exact ⟨by rw [← HB.out], Lib.hid hHeld⟩
     have e2 : decide (1000 < ni) = false := decide_eq_false k2
     have K2 := Lib.hid k2
     clear k2
     obtain ⟨lf, hlf⟩ : ∃ lf, (l.length : Int) - a4 = lf := ⟨_, rfl⟩
     have CL := Lib.hid (fun w' (h : SrcAt w' gs v l a4 0) => left_any gs v l a4 0 w' h)
     rw [hlf] at CL
     by_cases k3 : 0 < lf
     ·have HB : Hid (true = bad) := Lib.hid (by rw [← HBAD.out]; simp; omega)
      have e3 : decide (0 < lf) = true := decide_eq_true k3
      clear k3 hlf
      refine wp_region_noPanic ?_
      refine wp_region_held_drew (S := fun w' => Keeps (w9) w') (by kernel_rfl) ((Keeps.refl _).drew) (fun _ => ?_)
      have hHeld : Keeps (w9) (w9).drew := (Keeps.refl _).drew
      refine tq 0 53 ?_
      refine tq 1 54 ?_
      refine tq 2 55 ?_
      refine tq 3 56 ?_
      refine tq 4 57 ?_
      refine tq 5 58 ?_
      refine tq 6 59 ?_
      refine tq 7 60 ?_
      refine tq 8 61 ?_
      refine tq 9 62 ?_
      refine tq 10 63 ?_
      refine tq 11 64 ?_
      refine tq 12 65 ?_ (hy := fun w' hSw => by
       have hSw : Keeps _ w' := hSw
       have h0 := keep1 hSw b4
       clear hSw
       go_simp
       try with_reducible rfl)
      refine rd1 13 (fun K hK => ?_)
      go_simp
      refine (CL.out _ (HC9.out.src.keeps hHeld)).mono ?_
      rintro e yL ⟨rfl, hk⟩
      have hb : Keeps _ yL := hHeld.trans hk
      have HYL := Lib.hid (hHeld.trans hk)
      go_wp2_with fail
      refine bk1 hK hb ?_
      clear hK K hHeld hb hk
      intro hHeld
      refine tq 14 67 ?_
      refine tq 15 68 ?_
      refine tq 16 69 ?_
      refine wpAnyH_take (i := 17) (v := undef) (by rfl) (by kernel_rfl) (by kernel_rfl) (by kernel_rfl) (by intro _ _ _ h; exact h) (Or.inr ⟨by kernel_rfl, rfl⟩) (by assumption) ?rest94
      change wpAnyH _ _ _ _ _ _ _ (Act.put _ (some 70) _) _
      try simp only [Act.put, List.setIfInBounds_toArray, List.set_cons_zero, List.set_cons_succ]
      refine wpAnyH_take (i := 18) (v := undef) (by rfl) (by kernel_rfl) (by kernel_rfl) (by kernel_rfl) (by intro _ _ _ h; exact h) (Or.inr ⟨by kernel_rfl, rfl⟩) (by assumption) ?rest95
      change wpAnyH _ _ _ _ _ _ _ (Act.put _ (some 71) _) _
      try simp only [Act.put, List.setIfInBounds_toArray, List.set_cons_zero, List.set_cons_succ]
      refine wpAnyH_take (i := 19) (v := undef) (by rfl) (by kernel_rfl) (by kernel_rfl) (by kernel_rfl) (by intro _ _ _ h; exact h) (Or.inr ⟨by kernel_rfl, rfl⟩) (by assumption) ?rest96
      change wpAnyH _ _ _ _ _ _ _ (Act.put _ (some 72) _) _
      try simp only [Act.put, List.setIfInBounds_toArray, List.set_cons_zero, List.set_cons_succ]
      refine wpAnyH_take (i := 20) (v := undef) (by rfl) (by kernel_rfl) (by kernel_rfl) (by kernel_rfl) (by intro _ _ _ h; exact h) (Or.inr ⟨by kernel_rfl, rfl⟩) (by assumption) ?rest97
      change wpAnyH _ _ _ _ _ _ _ (Act.put _ (some 73) _) _
      try simp only [Act.put, List.setIfInBounds_toArray, List.set_cons_zero, List.set_cons_succ]
      refine wpAnyH_take (i := 21) (v := undef) (by rfl) (by kernel_rfl) (by kernel_rfl) (by kernel_rfl) (by intro _ _ _ h; exact h) (Or.inr ⟨by kernel_rfl, rfl⟩) (by assumption) ?rest98
      change wpAnyH _ _ _ _ _ _ _ (Act.put _ (some 74) _) _
      try simp only [Act.put, List.setIfInBounds_toArray, List.set_cons_zero, List.set_cons_succ]
      refine wpAnyH_take (i := 22) (v := undef) (by rfl) (by kernel_rfl) (by kernel_rfl) (by kernel_rfl) (by intro _ _ _ h; exact h) (Or.inr ⟨by kernel_rfl, rfl⟩) (by assumption) ?rest99
      change wpAnyH _ _ _ _ _ _ _ (Act.put _ (some 75) _) _
      try simp only [Act.put, List.setIfInBounds_toArray, List.set_cons_zero, List.set_cons_succ]
      refine tq 23 76 ?_
      refine wpAnyH_done (by kernel_rfl) ?_ _
      refine NoPanic.normal ?_
      go_wp2_with fail
      go_meet
      exact ⟨by rw [← HB.out], Lib.hid (HYL.out.trans hHeld)⟩
     have hae : a4 = l.length := by omega
     have HAE := Lib.hid hae
     have e3 : decide (0 < lf) = false := decide_eq_false k3
     clear k3 hlf hae
     have HRT := Lib.hid (HRN.out ni (by rw [HLS.out]; have := K1.out; omega) (by have := K2.out; omega))
     have CB := Lib.hid (fun w' (h : TabAt w' g b1 b2 n2 { t2 with next := ni }) => bytes_any w' g b1 b2 n2 { t2 with next := ni } h HRT.out (by omega) HDL.out)
     obtain ⟨B, hB⟩ : ∃ B, bytesT { t2 with next := ni } = B := ⟨_, rfl⟩
     rw [hB] at CB
     rw [hB] at HBAD
     obtain ⟨be, hbe⟩ : ∃ z, decide (B = l) = z := ⟨_, rfl⟩
     have HB : Hid ((!be) = bad) := Lib.hid (by rw [← HBAD.out, ← hbe]; simp [HAE.out, show ls ≤ ni from by have := K1.out; omega, show ni ≤ 1000 from by have := K2.out; omega])
     have htest : ((bstr B).toList == (bstr l).toList) = be := by rw [bstr_toList, bstr_toList, ← hbe, Bool.eq_iff_iff]; simp
     clear hB hbe
     refine wp_region_noPanic ?_
     refine wp_region_held_drew (S := fun w' => Keeps (w9) w') (by kernel_rfl) ((Keeps.refl _).drew) (fun _ => ?_)
     have hHeld : Keeps (w9) (w9).drew := (Keeps.refl _).drew
     refine tq 0 53 ?_
     refine tq 1 54 ?_
     refine tq 2 55 ?_
     refine tq 3 56 ?_
     refine tq 4 57 ?_
     refine tq 5 58 ?_
     refine tq 6 59 ?_
     refine tq 7 60 ?_
     refine tq 8 61 ?_
     refine tq 9 62 ?_
     refine tq 10 63 ?_
     refine tq 11 64 ?_
     refine tq 12 65 ?_ (hy := fun w' hSw => by
      have hSw : Keeps _ w' := hSw
      have h0 := keep1 hSw b4
      clear hSw
      go_simp
      try with_reducible rfl)
     refine rd1 13 (fun K hK => ?_)
     go_simp
     refine (CL.out _ (HC9.out.src.keeps hHeld)).mono ?_
     rintro e yL ⟨rfl, hk⟩
     have hb : Keeps _ yL := hHeld.trans hk
     have HY1 := Lib.hid (hHeld.trans hk)
     go_wp2_with fail
     refine bk1 hK hb ?_
     clear hK K hHeld hb hk
     intro hHeld
     refine tq 14 67 ?_
     refine tq 15 68 ?_
     refine tq 16 69 ?_
     refine tq 17 70 ?_ (hy := fun w' hSw => by
      have hSw : Keeps _ w' := hSw
      have h0 := keep1 (HY1.out.trans hSw) c2
      clear hSw
      go_simp
      try with_reducible rfl)
     refine tq 20 73 ?_
     refine tq 21 74 ?_ (hy := fun w' hSw => by
      have hSw : Keeps _ w' := hSw
      have hc := str_at' (HR.out.keeps ((HCB.out.trans HY1.out).trans hSw))
      clear hSw
      go_simp
      try with_reducible rfl)
     refine rd1 18 (fun K hK => ?_)
     go_simp
     refine (CB.out _ (HTN.out.keeps (HY1.out.trans hHeld))).mono ?_
     rintro e yB ⟨vb, rfl, hob, hk⟩
     have hb : Keeps _ yB := hHeld.trans hk
     have HRow := Lib.hid hob.row
     have HY2 := Lib.hid ((HY1.out.trans hHeld).trans hk)
     obtain ⟨pB, nB, cB, rfl⟩ := hob.sl
     clear hob
     go_wp2_with fail
     refine bk1 hK hb ?_
     clear hK K hHeld hb hk
     intro hHeld
     refine tq 19 72 ?_ (hy := fun w' hSw => by
      have hSw : Keeps _ w' := hSw
      have hc := str_at' (HRow.out.keeps hSw)
      clear hSw
      go_simp
      try with_reducible rfl)
     refine tq 22 75 ?_
     refine tq 23 76 ?_
     refine wpAnyH_done (by kernel_rfl) ?_ _
     refine NoPanic.normal ?_
     go_wp2_with fail
     go_meet
     exact ⟨by rw [← HB.out], Lib.hid (HY2.out.trans hHeld)⟩
    case rest =>
    obtain ⟨rfl, HK9⟩ := hcut
    obtain ⟨wr, rfl⟩ : ∃ z : World, z = wc := ⟨_, rfl⟩
    have HCr := Lib.hid (HC9.out.keeps HK9.out)
    have HTr := Lib.hid (HTN.out.keeps HK9.out)
    have hne : q3 ≠ q2 := Frm.blk_tyne HCr.out.k3 HCr.out.k2 (by decide)
    have HNE := Lib.hid hne
    have c2 : wr.cell? ⟨q2, 0, none⟩ = some (.pointer (some ⟨g, 0, none⟩)) := by rw [HCr.out.k2.cell]; rfl
    have c3 : wr.cell? ⟨q3, 0, none⟩ = some (.int .i64 0) := by rw [HCr.out.k3.cell]; rfl
    have f2 : wr.frozen? ⟨q2, 0, none⟩ = false := HCr.out.k2.frozen 0
    have f3 : wr.frozen? ⟨q3, 0, none⟩ = false := HCr.out.k3.frozen 0
    clear b4 hul hal4
    cases bad with
    |true =>
     have HX := Lib.hid (show readT l = (none, 3) from by
      rw [HRF.out, if_neg]
      intro hc
      have := HBAD.out
      rw [decide_eq_true hc] at this
      cases this)
     go_wp2_with fail
     refine door_ret (tv := .pointer none) (ev := 3) ((HCr.out.k2.set_ 0 _).far (Ne.symm HNE.out) _) ((HCr.out.k3.far HNE.out _).set_ 0 _) ?_ _ rfl rfl
     rw [HX.out]
     exact ⟨(HCr.out.kp.setCell HCr.out.h2 _).setCell HCr.out.h3 _, .inr ⟨rfl, rfl⟩⟩
    |false =>
     have HX := Lib.hid (show readT l = (some { t2 with next := ni }, 0) from by
      rw [HRF.out, if_pos]
      have := HBAD.out
      simp only [Bool.not_eq_false', decide_eq_true_eq] at this
      exact this)
     go_wp2_with fail
     refine door_ret (tv := .pointer (some ⟨g, 0, none⟩)) (ev := 0) ((HCr.out.k2.set_ 0 _).far (Ne.symm HNE.out) _) ((HCr.out.k3.far HNE.out _).set_ 0 _) ?_ _ rfl rfl
     rw [HX.out]
     refine ⟨(HCr.out.kp.setCell HCr.out.h2 _).setCell HCr.out.h3 _, .inl ⟨_, g, b1, b2, rfl, rfl, HGB.out, ?_⟩⟩
     exact (tab_set (tab_set HTr.out HCr.out.k2 (by decide) (by decide) _) (HCr.out.k3.far HNE.out _) (by decide) (by decide) _).mono (by omega)
   ·have HX := Lib.hid (readT_none (HRE.out.trans (if_neg hne)))
    unfold panicE
    go_wp2_with fail
    exact door_panic HC.out HX.out _ _ _ rfl rfl
  ·exact absurd hx (by decide)
 ·have HX := Lib.hid (readT_none (HRA.out.trans (if_neg hne)))
  unfold panicE
  go_wp2_with fail
  exact door_panic HC.out HX.out _ _ _ rfl rfl
end Usr
end Go.Proofs.YtklbemkafdccgaaGreat

/- law13: awake. -/
namespace Go.Proofs.YtklbemkafdccgaaGreat
open Go.RowKit
namespace Usr
open Adr (Str domainB goodB)
open Mp Go.Maps
open Go.Sort Go.Shelf
set_option maxRecDepth 100000 in
set_option maxHeartbeats 4000000 in
theorem awake13_any (w : World) : Calls Tryz.prog 7 #[] w fun e w' => e = .returned (.bool true) ∧ Keeps w w' := by
 have C1 := Lib.hid (fun w' => new_any w' dX (by decide))
 have C2 := Lib.hid (fun w' => new_any w' [45] (by decide))
 unfold NewDid at C1
 rw [aw_dom.2.1] at C1
 go_enter Tryz.func7, Tryz.ntmps7
 go_wp2_with fail
 refine (C1.out _).mono ?_
 rintro e w1 (⟨-, g, b1, b2, rfl, hb, hT, hk⟩ | ⟨hx, -, -⟩)
 rotate_left
 ·rw [aw_dom.1] at hx; cases hx
 have HT := Lib.hid (show TabAt w1 g b1 b2 0 aw0 from hT)
 have HK := Lib.hid hk
 have HB := Lib.hid hb
 clear hT hk hb
 go_wp2_with fail
 refine (C2.out _).mono ?_
 rintro e w2 (⟨hx, -⟩ | ⟨-, rfl, hk⟩)
 ·rw [aw_dom.2.2.1] at hx; cases hx
 have HT := Lib.hid (HT.out.keeps hk)
 have HK := Lib.hid (HK.out.trans hk)
 clear hk C1 C2
 go_wp2_with fail
 refine (domain_tab _ g b1 b2 0 aw0 HT.out).mono ?_
 rintro e w3 ⟨rfl, rfl⟩
 have ht : ((bstr aw0.dom).toList == [120, 46, 111, 114, 103]) = true := by rw [bstr_toList]; kernel_rfl
 have HFR := Lib.hid (show ∀ x, TFr g b1 b2 x → w.heap.size ≤ x from by rintro x (rfl | rfl | rfl); exact HB.out.1; exact HB.out.2.1; exact HB.out.2.2)
 have CA := Lib.hid (fun w' (h : TabAt w' g b1 b2 0 aw0) => addUser_any w' g b1 b2 0 aw0 h (by decide) (by decide) sAnn (by decide) 5 (-1))
 have CB := Lib.hid (fun w' (h : TabAt w' g b1 b2 1 aw1) => addUser_any w' g b1 b2 1 aw1 h (by decide) (by decide) sBob (by decide) (-1) (-1))
 unfold Acted at CA CB
 rw [aw_1] at CA
 rw [aw_2] at CB
 go_wp2_with fail
 refine (CA.out _ HT.out).mono ?_
 rintro e w4 ⟨rfl, hT, hm⟩
 have HT := Lib.hid hT
 have HK := Lib.hid (hm.keeps HK.out HFR.out)
 clear hT hm CA
 go_wp2_with fail
 refine (CB.out _ HT.out).mono ?_
 rintro e w5 ⟨rfl, hT, hm⟩
 have HT := Lib.hid hT
 have HK := Lib.hid (hm.keeps HK.out HFR.out)
 clear hT hm CB
 have CC := Lib.hid (fun w' (h : TabAt w' g b1 b2 2 aw2) v (hr : Row w' v ([sAnn, sBob, sAll].map strV)) => addAlias_any w' g b1 b2 2 aw2 h (by decide) sAll (by decide) v [sAnn, sBob, sAll] hr (by decide) (by decide))
 unfold ActedE at CC
 rw [aw_3] at CC
 go_wp2_with fail
 refine (CC.out _ (HT.out.keeps ((Keeps.refl _).alloc _)) _ (row_alloc rfl rfl rfl (by decide))).mono ?_
 rintro e w6 ⟨rfl, hT, hm⟩
 have HT := Lib.hid hT
 have HK := Lib.hid (hm.keeps (HK.out.alloc _) HFR.out)
 clear hT hm CC
 have CR := Lib.hid (resolve_any w6 g b1 b2 3 aw3 HT.out aw_r3 [65, 76, 76] [120, 46, 79, 82, 71] (by decide) (by decide))
 rw [aw_res] at CR
 go_wp2_with fail
 refine CR.out.mono ?_
 rintro e w7 ⟨v7, rfl, ho, hk⟩
 have HT := Lib.hid (HT.out.keeps hk)
 have HK := Lib.hid (HK.out.trans hk)
 have HO := Lib.hid ho
 obtain ⟨q, cap, rfl⟩ : ∃ q cap, v7 = .slice (some ⟨q, 0, none⟩) 2 cap := by
  obtain ⟨q, cap, hv, -⟩ := ho.form (by simp)
  exact ⟨q, cap, hv⟩
 clear ho hk CR
 have CB := Lib.hid (bytes_any w7 g b1 b2 3 aw3 HT.out aw_r3 (by decide) (by decide))
 go_wp2_with fail
 refine CB.out.mono ?_
 rintro e w8 ⟨v8, rfl, ho, hk⟩
 have HO := Lib.hid (HO.out.keeps hk)
 have HK := Lib.hid (HK.out.trans hk)
 have CD := Lib.hid (read_any w8 v8 (bytesT aw3) ho.row (by decide +kernel))
 rw [aw_read] at CD
 obtain ⟨p8, n8, c8, rfl⟩ := ho.sl
 clear ho hk CB
 go_wp2_with fail
 refine CD.out.mono ?_
 rintro e w9 ⟨hk, ⟨t9, g9, x9, y9, h9, rfl, -, -⟩ | ⟨h9, -⟩⟩
 rotate_left
 ·cases h9
 have HO := Lib.hid (HO.out.keeps hk)
 have HK := Lib.hid (HK.out.trans hk)
 clear hk CD h9
 have z0 : w9.cell? ⟨q, 0, none⟩ = some (.int .i64 1) := HO.out.cellAt 0 _ rfl
 have z1 : w9.cell? ⟨q, 1, none⟩ = some (.int .i64 2) := HO.out.cellAt 1 _ rfl
 go_wp2_with fail
 go_ret
 exact ⟨rfl, HK.out⟩
end Usr
end Go.Proofs.YtklbemkafdccgaaGreat

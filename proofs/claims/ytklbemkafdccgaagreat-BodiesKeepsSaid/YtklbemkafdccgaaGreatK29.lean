/- Several texts in one: UsShelf3, UsSort, UsMust, UsRT, BdTrace, BdAdd. -/
import Derived.Shelf.SlSortCmp.WholeK
import Derived.Shelf.SlSortCmp.NoneTotal
import Derived.Test.YtklbemkafdccgaaGreatProg
import Derived.Test.YtklbemkafdccgaaGreatK21
import Derived.Test.YtklbemkafdccgaaGreatUsNew
import Derived.Test.YtklbemkafdccgaaGreatK12
import Derived.Test.YtklbemkafdccgaaGreatK26
import Derived.Test.YtklbemkafdccgaaGreatK28
import Derived.Test.YtklbemkafdccgaaGreatK10
import Derived.Test.YtklbemkafdccgaaGreatK23
import Derived.Test.YtklbemkafdccgaaGreatFrameRef
import Derived.Test.YtklbemkafdccgaaGreatFrameAwake
import Derived.Laws.OwnMore
import Derived.Test.YtklbemkafdccgaaGreatBdMem
import Derived.Maps.AppendAt
import Derived.Test.YtklbemkafdccgaaGreatDrawn
import Derived.Test.YtklbemkafdccgaaGreatK17
/- The shelf's contracts at this seat: slices.SortFunc at users. -/
namespace Go.Proofs
open Go.Shelf
def Tryz.sortUs_ren : Go.Shelf.Ren := ⟨fun | 6 => 158 | 15 => 169 | 14 => 197 | 28 => 210 | 29 => 211 | 20 => 223 | 21 => 224 | 22 => 225 | 23 => 226 | 24 => 227 | 25 => 228 | 26 => 229 | 27 => 230 | 46 => 249 | 47 => 241 | 48 => 242 | 49 => 250 | 50 => 251 | 57 => 258 | n => n, fun | 22 => 29 | 24 => 42 | 25 => 172 | 3 => 3 | 39 => 183 | 0 => 0 | 53 => 196 | 55 => 105 | 4 => 4 | 46 => 260 | 45 => 259 | 50 => 125 | 5 => 5 | 9 => 9 | 66 => 285 | 70 => 245 | 76 => 302 | 77 => 303 | n => n, fun | n => n⟩
end Go.Proofs

/- users: slices.SortFunc by their numbers; Users. -/
namespace Go.Proofs.YtklbemkafdccgaaGreat
open Go.RowKit Go.Maps Go.Sort Go.Shelf
namespace Usr
open Adr (Str)
open Mp
/-- users with small numbers: their difference is one -/
abbrev UsrS : Type := { u : UsrP // 0 ≤ u.n ∧ u.n ≤ 1000000 }
instance : Inhabited UsrS := ⟨⟨zeroU, by decide⟩⟩
def encS (x : UsrS) : List Value := usC x.1
def cfS (x y : UsrS) : Int := x.1.n - y.1.n
def UsersDid (W : World) (us : List UsrP) (e : Ending) (w' : World) : Prop := ∃ v, e = .returned v ∧ w'.ownsRow W.heap.size 42 4 v us.length (us.flatMap usC) ∧ Keeps W w'
end Usr
end Go.Proofs.YtklbemkafdccgaaGreat

/- users: must, cause; a source beside a table. -/
namespace Go.Proofs.YtklbemkafdccgaaGreat
open Go.RowKit
namespace Usr
open Adr (Str)
open Oct (SrcAt SrcDid uE uA uV tE tA tL sgnV srcU_any srcI_any srcText_any)
open Mp Go.Maps
def panicE (er : Int) : Ending := .panicked [{ v := .iface 54 (.int .i64 er), recovered := false }]
/-- a table's blocks, a source's -/
structure RdAt (w : World) (gs : Nat) (v : Value) (l : Str) (a : Nat) (er : Int) (g b1 b2 n : Nat) (t : TabP) : Prop where
 src : SrcAt w gs v l a er
 tab : TabAt w g b1 b2 n t
def RFr (gs g b1 b2 : Nat) (x : Nat) : Prop := x = gs ∨ TFr g b1 b2 x
section
variable {w w' : World} {gs : Nat} {v : Value} {l : Str} {a : Nat} {er : Int} {g b1 b2 n : Nat} {t : TabP}
theorem RdAt.keeps (h : RdAt w gs v l a er g b1 b2 n t) (k : Keeps w w') : RdAt w' gs v l a er g b1 b2 n t := ⟨h.src.keeps k, h.tab.keeps k⟩
theorem TabAt.objs (h : TabAt w g b1 b2 n t) : ∀ x, TFr g b1 b2 x → ∀ cs e fr, e ≠ 84 → w.heap[x]? ≠ some (.cells cs e fr) := by
 obtain ⟨D, k1, -⟩ := h.us
 obtain ⟨E, av, k2, -⟩ := h.al
 obtain ⟨es, cl, e1⟩ := map_obj k1
 obtain ⟨es', cl', e2⟩ := map_obj k2
 rintro x (rfl | rfl | rfl) cs e fr hne hh
 ·have hb := h.blk
  unfold Blk at hb
  rw [hb] at hh
  simp only [Option.some.injEq, Obj.cells.injEq] at hh
  exact hne hh.2.1.symm
 ·rw [e1] at hh; cases hh
 ·rw [e2] at hh; cases hh
theorem SrcAt.own_ty (h : SrcAt w gs v l a er) : ∀ x, v.ownBlock = some x → ∃ cs fr, w.heap[x]? = some (.cells cs 5 fr) := by
 intro x hx
 rcases h.own.2 with ⟨rfl, _⟩ | ⟨q, cap, cur, rfl, _, hq, _⟩
 ·simp [Value.ownBlock] at hx
 ·simp [Value.ownBlock] at hx
  subst hx
  exact ⟨_, _, hq⟩
theorem RdAt.apart (h : RdAt w gs v l a er g b1 b2 n t) : ∀ x, Oct.Fr gs v x → ¬ TFr g b1 b2 x := by
 rintro x (rfl | hx) hT
 ·exact h.tab.objs x hT _ _ _ (by decide) h.src.blk
 ·obtain ⟨cs, fr, hc⟩ := SrcAt.own_ty h.src x hx
  exact h.tab.objs x hT _ _ _ (by decide) hc
theorem RdAt.did (h : RdAt w gs v l a er g b1 b2 n t) {a' : Nat} {er' : Int} (k : SrcAt w' gs v l a' er') (m : Mods (· = gs) w w') : RdAt w' gs v l a' er' g b1 b2 n t := by
 have ha := h.apart gs (.inl rfl)
 refine ⟨k, h.tab.mods m (fun e => ha (.inl e.symm)) (fun e => ha (.inr (.inl e.symm))) (fun e => ha (.inr (.inr e.symm))) ?_⟩
 rintro x rfl cs fr hh
 have hb := h.src.blk
 unfold Blk at hb
 rw [hb] at hh
 simp only [Option.some.injEq, Obj.cells.injEq] at hh
 exact absurd hh.2.1 (by decide)
theorem RdAt.act (h : RdAt w gs v l a er g b1 b2 n t) {n' : Nat} {t' : TabP} (k : TabAt w' g b1 b2 n' t') (m : Mods (TFr g b1 b2) w w') : RdAt w' gs v l a er g b1 b2 n' t' :=
 ⟨h.src.mods m (fun x hx => h.apart x hx), k⟩
end
end Usr
end Go.Proofs.YtklbemkafdccgaaGreat

/- ref13: a table by value, its rows typed; what its acts answer. -/
namespace Go.Proofs.YtklbemkafdccgaaGreat
open Go.RowKit
namespace Usr
theorem owns_obj {w : World} {base C n : Nat} {e : TypeId} {v : Value} {xs : List Value} (h : w.ownsRow base e C v n xs) {y : Nat} (hy : v.ownBlock = some y) : ∃ cs, w.heap[y]? = some (.cells cs e (0, 0)) := by
 rcases h.2 with ⟨rfl, _⟩ | ⟨q, cap, cur, rfl, _, hgg, _⟩
 ·simp [Value.ownBlock] at hy
 ·simp [Value.ownBlock] at hy
  subst hy
  exact ⟨_, hgg⟩
theorem rowS_o {w : World} {base C n : Nat} {e : TypeId} {v : Value} {xs : List Value} (h : w.ownsRow base e C v n xs) : RowS w C v n xs := by
 refine ⟨h.1, ?_⟩
 rcases Nat.eq_zero_or_pos n with rfl | hn
 ·obtain ⟨p, cap, rfl, -, hc⟩ := Frm.ownsRow_form h
  rcases h.2 with ⟨hv, -⟩ | ⟨q, cap', cur, hv, -, -, -, h2, -⟩
  ·simp only [Value.slice.injEq] at hv
   exact .inl ⟨p, cap, rfl, rfl, by simpa [maxLen] using hc, fun _ => hv.2.2⟩
  ·simp only [Value.slice.injEq] at hv
   exact .inl ⟨p, cap, rfl, rfl, by simpa [maxLen] using hc, fun e => by rw [hv.1] at e; cases e⟩
 ·obtain ⟨g, cap, rfl, -, h2, h3, h4⟩ := Frm.ownsRow_at h hn
  exact .inr ⟨g, 0, cap, rfl, h2, by simpa [maxLen] using h3, fun i x hx => by rw [Nat.zero_add]; exact h4 i x hx⟩
theorem ownT {T : Nat → Prop} {w w' : World} {base : Nat} {v : Value} {e : TypeId} {l : List Value} (h : Own w base e v l) (k : Mods T w w') (hn : ∀ x, T x → ∀ cs fr, w.heap[x]? ≠ some (.cells cs e fr)) : Own w' base e v l := by
 refine Frm.ownsRow_mods h k (fun x hx hs => ?_)
 obtain ⟨cs, hh⟩ := owns_obj h hx
 exact hn x hs _ _ hh
open Adr (Str)
open Mp Go.Maps
open Frm (ownsRow_keeps ownsRow_mods ownsRow_ne ownsRow_form ownsRow_base)
/-- a reference table in memory: its rows by their types -/
structure RT (w : World) (uv av : Value) (t : TabP) (L : List (AlP × Value)) : Prop where
 us : w.ownsRow 0 42 4 uv t.us.length (t.us.flatMap usC)
 al : w.ownsRow 0 108 2 av L.length (L.flatMap alC)
 alm : L.map (·.1) = t.al
 pay : ∀ x ∈ L, Own w 0 9 x.2 (x.1.tos.map strV)
theorem RT.tab {w : World} {uv av : Value} {t : TabP} {L : List (AlP × Value)} (h : RT w uv av t L) : RTab w uv av t L := ⟨rowS_o h.us, rowS_o h.al, h.alm, fun x hx => (h.pay x hx).row⟩
theorem RT.keeps {w w' : World} {uv av : Value} {t : TabP} {L : List (AlP × Value)} (h : RT w uv av t L) (k : Keeps w w') : RT w' uv av t L :=
 ⟨ownsRow_keeps h.us k, ownsRow_keeps h.al k, h.alm, fun x hx => (h.pay x hx).keeps k⟩
theorem RT.mods {w w' : World} {uv av : Value} {t : TabP} {L : List (AlP × Value)} {S : Nat → Prop} (h : RT w uv av t L) (k : Mods S w w') (hS : ∀ x, S x → ∀ cs e fr, (e = 42 ∨ e = 108 ∨ e = 9) → w.heap[x]? ≠ some (.cells cs e fr)) : RT w' uv av t L :=
 ⟨ownsRow_mods h.us k (fun x hx hs => by obtain ⟨cs, hh⟩ := owns_obj h.us hx; exact hS x hs _ _ _ (.inl rfl) hh),
  ownsRow_mods h.al k (fun x hx hs => by obtain ⟨cs, hh⟩ := owns_obj h.al hx; exact hS x hs _ _ _ (.inr (.inl rfl)) hh), h.alm,
  fun x hx => ownT (h.pay x hx) k (fun y hy cs fr => hS y hy cs _ fr (.inr (.inr rfl)))⟩
theorem RT.blk {w w' : World} {uv av : Value} {t : TabP} {L : List (AlP × Value)} {q : Nat} {ty : TypeId} {cs : Array Value} (h : RT w uv av t L) (k : Mods (· = q) w w') (hb : Blk w q ty cs) (hn : ty ≠ 42 ∧ ty ≠ 108 ∧ ty ≠ 9) : RT w' uv av t L :=
 h.mods k (fun x hx cs' e fr he hh => by
  subst hx
  rw [show w.heap[x]? = _ from hb] at hh
  simp only [Option.some.injEq, Obj.cells.injEq] at hh
  rcases he with rfl | rfl | rfl
  ·exact hn.1 hh.2.1
  ·exact hn.2.1 hh.2.1
  ·exact hn.2.2 hh.2.1)
theorem RT.forms {w : World} {uv av : Value} {t : TabP} {L : List (AlP × Value)} (h : RT w uv av t L) : ∃ pu cu pa ca, uv = .slice pu t.us.length cu ∧ av = .slice pa L.length ca ∧ t.us.length ≤ cu ∧ L.length ≤ ca := by
 obtain ⟨pu, cu, h1, h2, -⟩ := ownsRow_form h.us
 obtain ⟨pa, ca, h3, h4, -⟩ := ownsRow_form h.al
 exact ⟨pu, cu, pa, ca, h1, h3, h2, h4⟩
/-- what a reference act answers -/
def RGot (W : World) (r : TabP × Int × Int) (e : Ending) (w' : World) : Prop := ∃ uv av L, e = .returned (.agg #[.string (bstr r.1.dom), .int .i64 r.1.next, uv, av, .int .i64 r.2.1, .int .i64 r.2.2]) ∧ RT w' uv av r.1 L ∧ Keeps W w'
end Usr
end Go.Proofs.YtklbemkafdccgaaGreat

/- bodies: traceOf; an append that tells where its answer lies. -/
namespace Go.Proofs.YtklbemkafdccgaaGreat
open Go.RowKit
theorem step_app_at {P : Program} {w : World} {ops : Array Oper} {o : Oper} {a : Act} {K : Act → World → Prop} {Q : Exit → Act → World → Prop} {E : Prop} {t e : TypeId} {size bytes base : Nat} (he : ElemOkS P t e size bytes) (hsz : 0 < size) (hgd : o.guard = none) (s x : Operand)
  (ho : o.op = .call { callee := .builtin .append, args := #[s, x], argTypes := #[t, t] })
  (v : Value) (n m c : Nat) (ad : Addr) (xs news : List Value) (hs : a.eval s = v) (hx : a.eval x = .slice (some ad) m c) (hown : w.ownsRow base e size v n xs) (hl : news.length = m * size) (hn : ∀ j u, news[j]? = some u → w.cell? (ad.add j) = some u) (h1 : ∀ u ∈ news, u.oneCell' = true)
  (hb : (n + m) * bytes ≤ 70368744177664) (hbytes : 0 < bytes) (hbase : base ≤ w.heap.size)
  (h : ∀ v' w', w'.ownsRow base e size v' (n + m) (xs ++ news) → w.grownBy w' v.ownBlock → (v'.ownBlock = v.ownBlock ∨ v'.ownBlock = some w.heap.size) → K (a.put o.dst v') w') :
  if Region.wanted o (yielded ops a.tmps) = true then Oper.wp P o a w K Q else E := by
 have hw : Region.wanted o (yielded ops a.tmps) = true := by simp [Region.wanted, hgd]
 rw [if_pos hw]
 have h63 : n + m ≤ 70368744177664 := Nat.le_trans (Nat.le_mul_of_pos_right _ hbytes) hb
 obtain ⟨i, z, hi, hz, hs', hby, hzs⟩ := he.hi
 obtain ⟨v', w', hr, h2, h3, -, h5⟩ := run_append_own_at (P := P) (w := w) base t o.type e i z size bytes he.ht hi hz hs' hby hzs hsz v n xs hown ad m c news hl hn h1 (by unfold maxLen; omega) (by omega) hbase
 unfold Oper.wp execOp
 simp only [ho, resolve, invoke, builtin, Sem.run_bind, Sem.run_pure, Result.andThen_ok, List.map_toArray, List.map_cons, List.map_nil, hs, hx, hr]
 exact h v' w' h2 h3 h5
namespace Bds
theorem trM : Mids Tryz.prog 198 2 := ⟨⟨_, Tryz.underlying198, rfl⟩, by kernel_rfl⟩
def trA (p : TrK) : Array Value := #[.int .u32 (p.1.1 : Int), .int .i64 (p.1.2 : Int)]
theorem trV_eq (p : TrK) : trV p = .agg (trA p) := rfl
set_option maxRecDepth 100000 in
theorem traceOf_any (w : World) (v : Value) (b : Str) (hr : Row w v (b.map u8v)) (hb : b.length ≤ 10000000) : Calls Tryz.prog 122 #[v] w fun e w' => e = .returned (trV (trP b)) ∧ Keeps w w' := by
 obtain ⟨p, cap, rfl, -, -⟩ := hr.form
 rw [List.length_map] at hr ⊢
 have HR := Lib.hid hr
 have HT := Lib.hid (show trV (trP b) = .agg #[.int .u32 (Crc.more 0 b : Nat), .int .i64 (b.length : Int)] from by
  unfold trV trP
  simp only
  rw [Nat.mod_eq_of_lt (by omega)])
 clear hr hb
 go_enter Tryz.func122, Tryz.ntmps122
 go_upto_region 1 with fail
 generalize hW : World.alloc w _ = w1
 have HK := Lib.hid (show Keeps w w1 from by rw [← hW]; exact (Keeps.refl _).alloc _)
 have HZ := Lib.hid (show Blk w1 w.heap.size 198 #[.int .u32 0, .int .i64 0] from by rw [← hW]; exact Blk.new _ _ _ rfl)
 clear hW
 obtain ⟨q, hq⟩ : ∃ z, w.heap.size = z := ⟨_, rfl⟩
 have HQ := Lib.hid hq
 rw [hq] at HZ ⊢
 clear hq
 have CO := Lib.hid (Crc.of_any _ b w1 (HR.out.keeps HK.out))
 go_wp2_with fail
 refine CO.out.mono ?_
 rintro e w2 ⟨rfl, hk⟩
 have HK2 := Lib.hid (HK.out.trans hk)
 have HZ2 := Lib.hid (HZ.out.keeps hk)
 clear hk CO
 generalize Crc.more 0 b = m at *
 go_wp2_with (refine wpList_st (ds := #[.int .u32 (m : Int), .int .i64 (b.length : Int)]) rfl trM HZ2.out rfl (by simp [Value.oneCell']) _ _ rfl rfl rfl rfl ?_; intro w9 hB9 hM9; have HLd := Lib.hid (ld_run (P := Tryz.prog) trM hB9); have HM9 := Lib.hid hM9; clear hB9 hM9)
 refine bodyPost_ret (v := .agg #[.int .u32 (m : Int), .int .i64 (b.length : Int)]) (by simp [results, Tryz.results122, Sem.run_bind, Sem.run_pure, Result.andThen_ok, Act.put, asAddr, HLd.out]) rfl ?_
 exact ⟨by rw [HT.out], HM9.out.keeps HK2.out (fun x hx => by rw [hx, ← HQ.out]; omega)⟩
end Bds
end Go.Proofs.YtklbemkafdccgaaGreat

/- bodies: add. -/
namespace Go.Proofs.YtklbemkafdccgaaGreat
open Go.RowKit
namespace Bds
open Mp Go.Maps
open Frm (ownsRow_mods ownsRow_keeps ownsRow_ne ownsRow_form ownsRow_base)
/-- the store's blocks, and those that were made since -/
def MoreO (O : Nat → Prop) (w w' : World) (y : Nat) : Prop := O y ∨ (w.heap.size ≤ y ∧ y < w'.heap.size)
/-- a block of the kinds that the store writes: its own, a map, a row of numbers -/
def TyB (w : World) (y : Nat) : Prop := (∃ cs fr, w.heap[y]? = some (.cells cs 151 fr)) ∨ (∃ cs fr, w.heap[y]? = some (.cells cs 3 fr)) ∨ ∃ es cl, w.heap[y]? = some (.map es cl)
def AddDid (W : World) (O : Nat → Prop) (g gd n : Nat) (r : BdP × Bool) (e : Ending) (w' : World) : Prop := e = .returned (.bool r.2) ∧ StAt w' (MoreO O W w') g gd (n + 1) r.1 ∧ Mods (fun y => O y ∧ TyB W y) W w'
section
variable {w w' : World} {O O' : Nat → Prop} {g b1 b2 gd n m : Nat} {s : BdP} {nv : List NumX} {av : List AlkX}
theorem StIn.wide (h : StIn w O g b1 b2 gd n s nv av) (ho : ∀ y, O y → O' y) (hn : n ≤ m) : StIn w O' g b1 b2 gd m s nv av := by
 refine { h with ro := fun x hx hb a ha => ho _ (h.ro x hx hb a ha), ao := fun x hx y hy => ho _ (h.ao x hx y hy), og := ⟨ho _ h.og.1, ho _ h.og.2.1, ho _ h.og.2.2⟩, num := ?_, alk := ?_ }
 ·obtain ⟨D, ⟨es, cl, e1, e2, e3, e4⟩, h2⟩ := h.num
  exact ⟨D, ⟨es, cl, e1, e2, Nat.le_trans e3 hn, e4⟩, h2⟩
 ·obtain ⟨D, ⟨es, cl, e1, e2, e3, e4⟩, h2⟩ := h.alk
  exact ⟨D, ⟨es, cl, e1, e2, Nat.le_trans e3 hn, e4⟩, h2⟩
theorem StIn.ownA (h : StIn w O g b1 b2 gd n s nv av) (k : TrK) : Own w 0 3 ((Mp.look (av.map fun y => (y.k, y.s)) k).getD sq0).v ((nums s.L k).map (.int .i64)) := by
 obtain ⟨D, h1, h2⟩ := h.alk
 by_cases hm : k ∈ av.map (·.k)
 ·obtain ⟨z, hz, rfl⟩ := List.mem_map.1 hm
  rw [(look_some h2.nd).2 (List.mem_map.2 ⟨z, hz, rfl⟩), ← h.al z hz]
  exact h.own z hz
 ·have e : (av.map fun y => (y.k, y.s)).map (·.1) = av.map (·.k) := by rw [List.map_map]; rfl
  rw [look_none.2 (by rw [e]; exact hm)]
  have hn : nums s.L k = [] := by
   unfold nums
   rw [List.map_eq_nil_iff, List.filter_eq_nil_iff]
   intro x hx hk
   simp only [decide_eq_true_eq] at hk
   exact hm (hk ▸ h.cov x hx)
  rw [hn]
  exact Own.nil _ _ _
theorem StIn.aoA (h : StIn w O g b1 b2 gd n s nv av) (k : TrK) {y : Nat} (hy : ((Mp.look (av.map fun y => (y.k, y.s)) k).getD sq0).v.ownBlock = some y) : O y := by
 obtain ⟨D, h1, h2⟩ := h.alk
 by_cases hm : k ∈ av.map (·.k)
 ·obtain ⟨z, hz, rfl⟩ := List.mem_map.1 hm
  rw [(look_some h2.nd).2 (List.mem_map.2 ⟨z, hz, rfl⟩)] at hy
  exact h.ao z hz y hy
 ·have e : (av.map fun y => (y.k, y.s)).map (·.1) = av.map (·.k) := by rw [List.map_map]; rfl
  rw [look_none.2 (by rw [e]; exact hm)] at hy
  cases hy
theorem intOkB : ElemOk Tryz.prog 57 3 8 := elemOk (z := .int .i64 0) Tryz.underlying57 (by kernel_rfl) rfl
/-- a block that is no row of numbers is not the one that a row of numbers owns -/
theorem own_not {w : World} {v : Value} {l : List Value} {y : Nat} {o : Obj} (h : Own w 0 3 v l) (hy : w.heap[y]? = some o) (ho : ∀ cs fr, o ≠ .cells cs 3 fr) : v.ownBlock ≠ some y := fun e => by
 obtain ⟨cs, hh⟩ := Usr.owns_obj h e
 rw [hh] at hy
 simp only [Option.some.injEq] at hy
 exact ho _ _ hy.symm
theorem StIn.obj1 (h : StIn w O g b1 b2 gd n s nv av) : (∃ es cl, w.heap[b1]? = some (.map es cl)) ∧ ∃ es cl, w.heap[b2]? = some (.map es cl) := by
 obtain ⟨D, h1, -⟩ := h.num
 obtain ⟨D2, h2, -⟩ := h.alk
 exact ⟨Usr.map_obj h1, Usr.map_obj h2⟩
theorem StIn.tyg (h : StIn w O g b1 b2 gd n s nv av) : TyB w g := .inl ⟨_, _, h.blk⟩
theorem StIn.neg (h : StIn w O g b1 b2 gd n s nv av) : b1 ≠ g ∧ b2 ≠ g := by
 obtain ⟨⟨e1, c1, h1⟩, ⟨e2, c2, h2⟩⟩ := h.obj1
 have hb := h.blk
 refine ⟨fun e => ?_, fun e => ?_⟩
 ·subst e
  rw [show w.heap[b1]? = _ from hb] at h1
  cases h1
 ·subst e
  rw [show w.heap[b2]? = _ from hb] at h2
  cases h2
/-- the next number is set -/
theorem StIn.setNext (h : StIn w O g b1 b2 gd n s nv av) (x : Int) : StIn (w.setCell ⟨g, 1, none⟩ (.int .i64 x)) O g b1 b2 gd n ⟨x, s.broken, s.L⟩ nv av ∧ Mods (· = g) w (w.setCell ⟨g, 1, none⟩ (.int .i64 x)) := by
 have hm : Mods (· = g) w (w.setCell ⟨g, 1, none⟩ (.int .i64 x)) := (Mods.refl (· = g) w).setCell (p := ⟨g, 1, none⟩) (fun _ => rfl) _
 have hne := h.neg
 have hcell : ∀ cs e fr, e ≠ 151 → w.heap[g]? ≠ some (.cells cs e fr) := fun cs e fr he hh => by
  rw [show w.heap[g]? = _ from h.blk] at hh
  simp only [Option.some.injEq, Obj.cells.injEq] at hh
  exact he hh.2.1.symm
 refine ⟨{ h with blk := h.blk.set_ 1 (.int .i64 x), num := ?_, row := fun y hy => (h.row y hy).modsT hm (fun z hz cs fr => by subst hz; exact hcell cs _ fr (by decide)), alk := ?_, own := fun y hy => ownsRow_mods (h.own y hy) hm (fun z hz e => by
  subst e
  obtain ⟨cs, hh⟩ := Usr.owns_obj (h.own y hy) hz
  exact hcell cs _ _ (by decide) hh) }, hm⟩
 ·obtain ⟨D, h1, h2⟩ := h.num
  exact ⟨D, Usr.map_modsS h1 hm hne.1, h2⟩
 ·obtain ⟨D, h1, h2⟩ := h.alk
  exact ⟨D, Usr.map_modsS h1 hm hne.2, h2⟩
/-- a new body: both maps were written -/
theorem StIn.added {w1 wF : World} {x : Int} {b : Str} {u u' A : SlQ} {Of : Nat → Prop} (h : StIn w1 O g b1 b2 gd n s nv av) (hA : A = (Mp.look (av.map fun y => (y.k, y.s)) (trP b)).getD sq0) (hx : x ∉ keysB s) (hwf : (Lit.int .i64 x).wf = true)
  (hm : Mods (fun y => y = b1 ∨ y = b2 ∨ A.v.ownBlock = some y) w1 wF) (hOf : ∀ y, O y → Of y) (hOn : ∀ y, w1.heap.size ≤ y → y < wF.heap.size → Of y)
  (hB : Blk wF g 151 #[.pointer (some ⟨gd, 0, none⟩), .int .i64 s.next, .int .i64 s.broken, .map (some b1), .map (some b2)])
  (hN : ∃ D, wF.ownsMap Tryz.prog 3 slqElem b1 (n + 1) D ∧ MapOf intL slqD D (Mp.putL (nv.map fun y => (y.n, y.s)) x u))
  (hK : ∃ D, wF.ownsMap Tryz.prog 198 slqElem b2 (n + 1) D ∧ MapOf trL slqD D (Mp.putL (av.map fun y => (y.k, y.s)) (trP b) u'))
  (hu : Piece wF 0 5 u.v (b.map u8v)) (hup : b ≠ [] → ∀ a, u.p = some a → Of a.block)
  (hu' : Own wF 0 3 u'.v ((nums s.L (trP b) ++ [x]).map (.int .i64))) (hloc : u'.v.ownBlock = A.v.ownBlock ∨ ∃ z, u'.v.ownBlock = some z ∧ w1.heap.size ≤ z ∧ z < wF.heap.size) :
  StIn wF Of g b1 b2 gd (n + 1) ⟨s.next, s.broken, s.L ++ [(x, b)]⟩ (nv ++ [⟨x, b, u⟩]) (av.filter (fun y => decide (y.k ≠ trP b)) ++ [⟨trP b, nums s.L (trP b) ++ [x], u'⟩]) := by
 have hAo : ∀ y ∈ av, y.k = trP b → A = y.s := fun y hy hk => by
  obtain ⟨D, -, h2⟩ := h.alk
  rw [hA, (look_some h2.nd).2 (List.mem_map.2 ⟨y, hy, by rw [hk]⟩)]
  rfl
 have hAn : (∀ y ∈ av, y.k ≠ trP b) → A.v.ownBlock = none := fun hno => by
  rw [hA, look_none.2 (fun hh => by
   obtain ⟨z, hz, hz2⟩ := List.mem_map.1 hh
   obtain ⟨y, hy, rfl⟩ := List.mem_map.1 hz
   exact hno y hy hz2)]
  rfl
 have hAb : ∀ z, A.v.ownBlock = some z → ∃ y ∈ av, y.k = trP b ∧ A = y.s := fun z hz => by
  by_cases hno : ∀ y ∈ av, y.k ≠ trP b
  ·rw [hAn hno] at hz; cases hz
  ·obtain ⟨y, hy⟩ := Classical.not_forall.1 hno
   obtain ⟨hy1, hk⟩ := Classical.not_imp.1 hy
   have hk := Classical.not_not.1 hk
   exact ⟨y, hy1, hk, hAo y hy1 hk⟩
 obtain ⟨⟨e1, c1, o1⟩, ⟨e2, c2, o2⟩⟩ := h.obj1
 have hcells : ∀ y, (y = b1 ∨ y = b2 ∨ A.v.ownBlock = some y) → ∀ cs e fr, e ≠ 3 → w1.heap[y]? ≠ some (.cells cs e fr) := fun y hy cs e fr he hh => by
  rcases hy with rfl | rfl | hy
  ·rw [o1] at hh; cases hh
  ·rw [o2] at hh; cases hh
  ·obtain ⟨z, hz, -, rfl⟩ := hAb y hy
   obtain ⟨cs', hh'⟩ := Usr.owns_obj (h.own z hz) hy
   rw [hh'] at hh
   simp only [Option.some.injEq, Obj.cells.injEq] at hh
   exact he hh.2.1.symm
 have hold : ∀ y ∈ av, y.k ≠ trP b → ∀ z, y.s.v.ownBlock = some z → A.v.ownBlock ≠ some z := fun y hy hk z hz hz' => by
  obtain ⟨a, ha, hak, rfl⟩ := hAb z hz'
  have hp := h.ap
  obtain ⟨i, hi, rfl⟩ := List.getElem_of_mem hy
  obtain ⟨j, hj, rfl⟩ := List.getElem_of_mem ha
  have hq := List.pairwise_iff_getElem.1 hp
  rcases Nat.lt_trichotomy i j with hl | hl | hl
  ·exact hq i j hi hj hl z hz hz'
  ·subst hl; exact hk hak
  ·exact hq j i hj hi hl z hz' hz
 refine ⟨hB, ?_, ?_, ?_, ?_, ?_, ?_, ?_, ?_, ?_, ?_, ⟨hOf _ h.og.1, hOf _ h.og.2.1, hOf _ h.og.2.2⟩, h.ne, ?_⟩
 ·obtain ⟨D, h1, h2⟩ := hN
  refine ⟨D, h1, ?_⟩
  unfold Mp.putL at h2
  rw [del_id (l := nv.map fun y => (y.n, y.s)) (by rw [h.nkeys]; exact hx) rfl] at h2
  rw [List.map_append]
  exact h2
 ·rw [List.map_append, h.nl]
  rfl
 ·intro y hy
  rcases List.mem_append.1 hy with hy | hy
  ·exact (h.row y hy).modsT hm (fun z hz cs fr => hcells z hz cs _ fr (by decide))
  ·rw [List.mem_singleton] at hy
   subst hy
   exact hu
 ·intro y hy hb a ha
  rcases List.mem_append.1 hy with hy | hy
  ·exact hOf _ (h.ro y hy hb a ha)
  ·rw [List.mem_singleton] at hy
   subst hy
   exact hup hb a ha
 ·obtain ⟨D, h1, h2⟩ := hK
  refine ⟨D, h1, ?_⟩
  unfold Mp.putL Mp.del at h2
  rw [List.filter_map] at h2
  rw [List.map_append]
  exact h2
 ·intro y hy
  show y.zs = nums (s.L ++ [(x, b)]) y.k
  rw [nums_snoc]
  rcases List.mem_append.1 hy with hy | hy
  ·obtain ⟨hy1, hy2⟩ := List.mem_filter.1 hy
   simp only [decide_eq_true_eq] at hy2
   rw [if_neg (fun e => hy2 e.symm), List.append_nil]
   exact h.al y hy1
  ·rw [List.mem_singleton] at hy
   subst hy
   rw [if_pos rfl]
 ·intro y hy
  have hy : y ∈ s.L ++ [(x, b)] := hy
  rw [List.map_append, List.mem_append]
  rcases List.mem_append.1 hy with hy | hy
  ·by_cases hk : trP y.2 = trP b
   ·exact .inr (by rw [hk]; simp)
   ·obtain ⟨z, hz, hz2⟩ := List.mem_map.1 (h.cov y hy)
    exact .inl (List.mem_map.2 ⟨z, List.mem_filter.2 ⟨hz, by simp only [decide_eq_true_eq]; rw [hz2]; exact hk⟩, hz2⟩)
  ·rw [List.mem_singleton] at hy
   subst hy
   exact .inr (by simp)
 ·intro y hy
  rcases List.mem_append.1 hy with hy | hy
  ·obtain ⟨hy1, hy2⟩ := List.mem_filter.1 hy
   simp only [decide_eq_true_eq] at hy2
   refine ownsRow_mods (h.own y hy1) hm (fun z hz hz' => ?_)
   obtain ⟨cs, hh⟩ := Usr.owns_obj (h.own y hy1) hz
   rcases hz' with rfl | rfl | hz'
   ·rw [o1] at hh; cases hh
   ·rw [o2] at hh; cases hh
   ·exact hold y hy1 hy2 z hz hz'
  ·rw [List.mem_singleton] at hy
   subst hy
   exact hu'
 ·intro y hy z hz
  rcases List.mem_append.1 hy with hy | hy
  ·exact hOf _ (h.ao y (List.mem_filter.1 hy).1 z hz)
  ·rw [List.mem_singleton] at hy
   subst hy
   rcases hloc with e | ⟨z', e, hl, hl'⟩
   ·have hz : u'.v.ownBlock = some z := hz
    rw [e] at hz
    obtain ⟨a, ha, -, rfl⟩ := hAb z hz
    exact hOf _ (h.ao a ha z hz)
   ·have hz : u'.v.ownBlock = some z := hz
    rw [e] at hz
    simp only [Option.some.injEq] at hz
    subst hz
    exact hOn _ hl hl'
 ·refine List.pairwise_append.2 ⟨h.ap.filter _, by simp, fun y hy y' hy' z hz hz' => ?_⟩
  rw [List.mem_singleton] at hy'
  subst hy'
  obtain ⟨hy1, hy2⟩ := List.mem_filter.1 hy
  simp only [decide_eq_true_eq] at hy2
  have hz' : u'.v.ownBlock = some z := hz'
  rcases hloc with e | ⟨z', e, hl, hl'⟩
  ·exact hold y hy1 hy2 z hz (by rw [← e]; exact hz')
  ·rw [e] at hz'
   simp only [Option.some.injEq] at hz'
   subst hz'
   obtain ⟨cs, hh⟩ := Usr.owns_obj (h.own y hy1) hz
   have := (Array.getElem?_eq_some_iff.1 hh).1
   omega
 ·intro y hy
  have hy : y ∈ s.L ++ [(x, b)] := hy
  rcases List.mem_append.1 hy with hy | hy
  ·exact h.wf y hy
  ·rw [List.mem_singleton] at hy
   subst hy
   exact hwf
end
set_option maxRecDepth 100000 in
set_option maxHeartbeats 8000000 in
theorem add_any (W : World) (O : Nat → Prop) (g gd n : Nat) (s : BdP) (h : StAt W O g gd n s) (hO : ∀ y, O y → y < W.heap.size) (hn : n < 900000) (hsl : s.L.length ≤ 900000) (x : Int) (hx : 1 ≤ x ∧ x ≤ 4294967296) (hnx : 0 ≤ s.next ∧ s.next ≤ 9000000000) (p : Option Addr) (cap : Nat) (b : Str) (hb : b.length ≤ 10000000)
  (hp : Piece W 0 5 (.slice p b.length cap) (b.map u8v)) (hpo : b ≠ [] → ∀ a, p = some a → O a.block) :
  Calls Tryz.prog 83 #[.pointer (some ⟨g, 0, none⟩), .int .i64 x, .slice p b.length cap] W (AddDid W O g gd n (addB s x b)) := by
 obtain ⟨b1, b2, nv, av, hin⟩ := h
 have HI := Lib.hid hin
 have HP := Lib.hid hp
 have HPO := Lib.hid hpo
 have HOL := Lib.hid hO
 have HL := Lib.hid hsl
 have c1 := hin.cells.2.1
 have hw1 : IntKind.i64.wrap (x + 1) = x + 1 := IntWalk.i64_in _ (by omega)
 have y1 : W.frozen? ⟨g, 1, none⟩ = false := hin.blk.frozen 1
 have hwx : (Lit.int .i64 x).wf = true := by simp [Lit.wf, IntKind.min, IntKind.max, IntKind.signed, IntKind.bits]; omega
 have HWX := Lib.hid hwx
 have HB := Lib.hid hb
 have HN := Lib.hid hn
 clear hin hp hpo hO hb hn hwx hsl hx hnx
 go_enter Tryz.func83, Tryz.ntmps83
 go_upto_region 2 with fail
 have HAB := Lib.hid (show addB s x b = if x ∈ keysB s then (⟨max s.next (x + 1), s.broken, s.L⟩, false) else (⟨max s.next (x + 1), s.broken, s.L ++ [(x, b)]⟩, true) from rfl)
 have HI1 := Lib.hid (HI.out.setNext (max s.next (x + 1)))
 clear c1 y1 hw1
 generalize W.setCell _ _ = w1 at *
 generalize max s.next (x + 1) = nx at *
 have HSZ := Lib.hid HI1.out.2.size
 obtain ⟨-, -, -, c3, -⟩ := HI1.out.1.cells
 obtain ⟨u0, hlk, -, -⟩ := HI1.out.1.look HWX.out
 have hk0 : keysB ⟨nx, s.broken, s.L⟩ = keysB s := rfl
 rw [hk0] at hlk
 clear hk0
 obtain ⟨q0, n0, k0⟩ := u0
 unfold SlQ.v at hlk
 by_cases hm : x ∈ keysB s
 ·have hdm : decide (x ∈ keysB s) = true := decide_eq_true hm
  have HX := Lib.hid (show addB s x b = (⟨nx, s.broken, s.L⟩, false) from by rw [HAB.out, if_pos hm])
  rw [hdm] at hlk
  generalize addB s x b = r at *
  clear hm hdm
  go_wp2_with fail
  go_ret
  rw [HX.out]
  exact ⟨rfl, ⟨b1, b2, nv, av, HI1.out.1.wide (fun y hy => .inl hy) (Nat.le_succ _)⟩, HI1.out.2.mono (fun y hy => by rw [hy]; exact ⟨HI.out.og.1, HI.out.tyg⟩)⟩
 ·have hdm : decide (x ∈ keysB s) = false := decide_eq_false hm
  have HX := Lib.hid (show addB s x b = (⟨nx, s.broken, s.L ++ [(x, b)]⟩, true) from by rw [HAB.out, if_neg hm])
  have HNM := Lib.hid hm
  rw [hdm] at hlk
  generalize addB s x b = r at *
  clear hm hdm HAB
  obtain ⟨D1, hD1, hM1⟩ := HI1.out.1.num
  obtain ⟨w2, hup, hD2, ht2⟩ := hD1.store intKeyB Tryz.underlying148 (by have := HN.out; unfold maxLen; omega) (val := .slice p b.length cap) (d := slqD ⟨p, b.length, cap⟩) (ps := []) (key_n HWX.out) rfl
  have HN2 := Lib.hid (show ∃ D, w2.ownsMap Tryz.prog 3 slqElem b1 (n + 1) D ∧ MapOf intL slqD D (Mp.putL (nv.map fun y => (y.n, y.s)) x ⟨p, b.length, cap⟩) from ⟨_, hD2, hM1.put intKind x _⟩)
  have HM2 := Lib.hid (Usr.turnedS ht2)
  clear hD1 hM1 hD2 ht2
  go_upto_region 6 with fail
  clear c3 hlk hup
  have HNE := Lib.hid (And.intro HI1.out.1.neg HI1.out.1.ne)
  have HB2 := Lib.hid (HI1.out.1.blk.mods HM2.out (fun e => HNE.out.1.1 e.symm))
  have HP2 := Lib.hid (show Piece w2 0 5 (.slice p b.length cap) (b.map u8v) from by
   have h1 := HP.out.modsT HI1.out.2 (fun y hy cs fr hh => by
    subst hy
    rw [show W.heap[y]? = _ from HI.out.blk] at hh
    simp only [Option.some.injEq, Obj.cells.injEq] at hh
    exact absurd hh.2.1 (by decide))
   exact h1.modsT HM2.out (fun y hy cs fr hh => by
    subst hy
    obtain ⟨⟨e1, c1, o1⟩, -⟩ := HI1.out.1.obj1
    rw [o1] at hh
    cases hh))
  have CT := Lib.hid (traceOf_any w2 _ b HP2.out.row HB.out)
  go_wp2_with fail
  refine CT.out.mono ?_
  rintro e w3 ⟨rfl, hk3⟩
  have HK3 := Lib.hid hk3
  clear hk3 CT
  rw [trV_eq]
  have HTQ := Lib.hid (rfl : trP b = trP b)
  obtain ⟨k, hk⟩ : ∃ z, trP b = z := ⟨_, rfl⟩
  have HTK := Lib.hid hk
  unfold trA
  rw [hk]
  clear hk
  go_upto_region 7 with fail
  generalize hW : World.alloc w3 _ = w4
  have HK4 := Lib.hid (show Keeps w2 w4 from by rw [← hW]; exact HK3.out.alloc _)
  have HQ := Lib.hid (show Blk w4 w3.heap.size 198 #[.int .u32 (k.1.1 : Int), .int .i64 (k.1.2 : Int)] from by rw [← hW]; exact Blk.new _ _ _ rfl)
  clear hW
  obtain ⟨q, hq⟩ : ∃ z, w3.heap.size = z := ⟨_, rfl⟩
  rw [hq] at HQ ⊢
  clear hq HK3
  obtain ⟨D2, hD2, hM2⟩ := HI1.out.1.alk
  have HA4 := Lib.hid (show w4.ownsMap Tryz.prog 198 slqElem b2 n D2 from Usr.map_keepsS (Usr.map_modsS hD2 HM2.out (fun e => HNE.out.2 e.symm)) HK4.out)
  have HMA := Lib.hid hM2
  have HOB := Lib.hid HI1.out.1.obj1
  have hoA := HI1.out.1.ownA k
  obtain ⟨A, hA⟩ : ∃ z, (Mp.look (av.map fun y => (y.k, y.s)) k).getD sq0 = z := ⟨_, rfl⟩
  rw [hA] at hoA
  have HA := Lib.hid hA
  have hoA4 : Own w4 0 3 A.v ((nums s.L k).map (.int .i64)) := Own.keeps (ownsRow_mods hoA HM2.out (fun z hz e => by
   subst e
   obtain ⟨⟨e1, c1, o1⟩, -⟩ := HOB.out
   exact own_not hoA o1 (fun cs fr => by simp) hz)) HK4.out
  obtain ⟨ap, an, ac⟩ := A
  have han : an = (nums s.L k).length := by
   obtain ⟨p', c', hv, -, -⟩ := hoA4.row.form
   unfold SlQ.v at hv
   simp only [Value.slice.injEq, List.length_map] at hv
   exact hv.2.1
  subst han
  have HZL := Lib.hid (show (nums s.L k).length ≤ 900000 from by
   unfold nums
   rw [List.length_map]
   exact Nat.le_trans (List.length_filter_le _ _) HL.out)
  obtain ⟨zs, hzs⟩ : ∃ z, nums s.L k = z := ⟨_, rfl⟩
  have HZE := Lib.hid hzs
  unfold SlQ.v at hoA4
  rw [hzs] at hoA4 HA HZL
  have HO4 := Lib.hid hoA4
  have HB4 := Lib.hid (HB2.out.keeps HK4.out)
  obtain ⟨Pr, hPr⟩ : ∃ P : Nat → Prop, P = fun y => y = b2 ∨ (Value.slice ap zs.length ac).ownBlock = some y := ⟨_, rfl⟩
  have HPR := Lib.hid (show (∀ y, Pr y ↔ (y = b2 ∨ (Value.slice ap zs.length ac).ownBlock = some y)) from fun y => by rw [hPr])
  have HPG := Lib.hid (show ¬ Pr g from fun h => by
   rcases (HPR.out g).1 h with e | e
   ·exact HNE.out.1.2 e.symm
   ·exact own_not HO4.out HB4.out (fun cs fr h => by simp only [Obj.cells.injEq] at h; exact absurd h.2.1 (by decide)) e)
  have HL2 := Lib.hid (show b2 < w2.heap.size ∧ w1.heap.size ≤ w2.heap.size ∧ b2 < w4.heap.size ∧ w2.heap.size ≤ w4.heap.size ∧ g < w4.heap.size from by
   have h1 := hD2.lt
   have h2 := HM2.out.size
   have h3 := HK4.out.size
   have h4 := HB4.out.lt
   omega)
  have HPQ := Lib.hid (show ¬ Pr q from fun h => by
   rcases (HPR.out q).1 h with e | e
   ·obtain ⟨es, cl, hmo⟩ := Usr.map_obj HA4.out
    rw [← e, show w4.heap[q]? = _ from HQ.out] at hmo
    cases hmo
   ·exact own_not HO4.out HQ.out (fun cs fr h => by simp only [Obj.cells.injEq] at h; exact absurd h.2.1 (by decide)) e)
  have HB1O := Lib.hid (show ∃ es cl, w4.heap[b1]? = some (.map es cl) from by
   obtain ⟨D, h1, -⟩ := HN2.out
   exact Usr.map_obj (Usr.map_keepsS h1 HK4.out))
  have HPB := Lib.hid (show ¬ Pr b1 from fun h => by
   rcases (HPR.out b1).1 h with e | e
   ·exact HNE.out.2 e
   ·obtain ⟨es, cl, hmo⟩ := HB1O.out
    exact own_not HO4.out hmo (fun cs fr => by simp) e)
  have c4 : w4.cell? ⟨g, 4, none⟩ = some (.map (some b2)) := by rw [HB4.out.cell]; rfl
  clear hD2 hM2 hoA hoA4 hA hzs hPr
  have HAd := Lib.hid (Usr.map_keepsS HA4.out (Keeps.refl w4).drew)
  have HOd := Lib.hid (HO4.out.keeps (Keeps.refl w4).drew)
  have HN1 := Lib.hid (show n < 1000000 from by have := HN.out; omega)
  refine wp_region_noPanic ?_
  refine wp_region_held_drew (S := fun w' => Mods Pr w4 w') (by kernel_rfl) ((Mods.refl Pr w4).drew) (fun _ => ?_)
  have hHeld : Mods Pr w4 (w4).drew := (Mods.refl Pr w4).drew
  generalize World.drew w4 = xs at *
  refine tq 0 38 ?_
  refine tq 1 39 ?_
  refine tq 2 40 ?_
  refine tq 3 41 ?_ (hy := fun w' hSw => by
   have hSw : Mods Pr w4 w' := hSw
   have h0 := hSw.cell c4 HPG.out
   clear hSw
   go_simp
   try with_reducible rfl)
  refine wpAnyH_take (i := 4) (by rfl) (by kernel_rfl) (by kernel_rfl) (by kernel_rfl) (by intro _ _ _ h; exact h) (yieldsIf_ld (by kernel_rfl) trM (fun w' hS => HQ.out.mods hS HPQ.out) _ rfl rfl) (by assumption) ?rest5
  change wpAnyH _ _ _ _ _ _ _ (Act.put _ (some 42) _) _
  try simp only [Act.put, List.setIfInBounds_toArray, List.set_cons_zero, List.set_cons_succ]
  refine tq 5 44 ?_
  refine rd1 6 (fun K hK => ?_)
  go_simp
  obtain ⟨g6, hg6⟩ : ∃ z, z = (World.heap xs).size := ⟨_, rfl⟩
  have HG6 := Lib.hid (show w4.heap.size ≤ g6 from by rw [hg6]; exact hHeld.size)
  have HN6 := Lib.hid (Blk.new xs 3 #[.int .i64 x] hg6)
  have HAd := Lib.hid (Usr.map_keepsS HAd.out ((Keeps.refl xs).alloc (.cells #[.int .i64 x] 3)))
  have HOd := Lib.hid (HOd.out.keeps ((Keeps.refl xs).alloc (.cells #[.int .i64 x] 3)))
  have hb := hHeld.alloc (.cells #[.int .i64 x] 3)
  rw [← hg6]
  clear hg6
  generalize World.alloc xs (.cells #[.int .i64 x] 3) = x6 at *
  refine bkm hK hb ?_
  clear hK K hHeld
  have hHeld : Mods Pr w4 x6 := hb
  clear hb
  refine rd1 7 (fun K hK => ?_)
  obtain ⟨s', st, x7, o1, hrun, hat, hm7, ho1, hnc, hback⟩ := entry_run HAd.out HN1.out k
  obtain rfl : s' = ⟨ap, zs.length, ac⟩ := slqD_inj (by rw [← hat, HMA.out.at_ trKind k sq0, HA.out])
  unfold SlQ.v trV at hrun
  go_simp
  have HBK := Lib.hid hback
  have HO1 := Lib.hid ho1
  have HNC := Lib.hid hnc
  have HOd := Lib.hid (show Own x7 0 3 (.slice ap zs.length ac) (zs.map (.int .i64)) from ownsRow_mods HOd.out hm7 (fun z hz e => by subst e; obtain ⟨es, cl, hmo⟩ := Usr.map_obj HAd.out; exact own_not HOd.out hmo (fun cs fr => by simp) hz))
  have HN6 := Lib.hid (HN6.out.mods hm7 (fun e => by have := HG6.out; have := HL2.out; omega))
  have hb := hHeld.trans hm7 (fun y hy _ => (HPR.out y).2 (.inl hy))
  clear hrun hat hm7 ho1 hnc hback HAd
  refine bkm hK hb ?_
  clear hK K hHeld
  have hHeld : Mods Pr w4 x7 := hb
  clear hb
  refine tq 8 43 ?_
  refine tq 10 48 ?_
  refine rd1 9 (fun K hK => ?_)
  refine step_app_at (base := 0) intOkB.s (by decide) rfl _ _ rfl (.slice ap zs.length ac) zs.length 1 1 ⟨g6, 0, none⟩ (zs.map (.int .i64)) [.int .i64 x] rfl rfl (by have h := HOd.out; unfold Own at h; rwa [List.length_map] at h) rfl (fun j y hy => by rw [Go.WideShapes.add_plain, HN6.out.cell, Nat.zero_add]; simpa using hy) (by simp [Value.oneCell']) (by have := HZL.out; omega) (by decide) (Nat.zero_le _) ?_
  intro v9 x9 ho9 hg9 hl9
  obtain ⟨p9, c9, rfl, -, -⟩ := ownsRow_form ho9
  have HO1 := Lib.hid (show x9.heap[b2]? = some o1 from by rw [hg9.block b2 (by have h1 := hHeld.size; have h2 := HL2.out; omega) (fun e => own_not HOd.out HO1.out (fun cs fr => HNC.out cs _ fr) e.symm)]; exact HO1.out)
  have hb := hHeld.grown hg9 (fun y hy _ => (HPR.out y).2 (.inr hy))
  have HOW := Lib.hid ho9
  have HLC := Lib.hid (show (Value.slice p9 (zs.length + 1) c9).ownBlock = (Value.slice ap zs.length ac).ownBlock ∨ ∃ z, (Value.slice p9 (zs.length + 1) c9).ownBlock = some z ∧ w4.heap.size ≤ z from hl9.imp id (fun h => ⟨_, h, hHeld.size⟩))
  clear ho9 hg9 hl9 HOd HN6
  show K (Act.put _ (some 47) _) x9
  refine bkm hK hb ?_
  clear hK K hHeld
  have hHeld : Mods Pr w4 x9 := hb
  clear hb
  refine rd1 11 (fun K hK => ?_)
  obtain ⟨xF, hrun, hown, hmF⟩ := HBK.out _ ⟨p9, zs.length + 1, c9⟩ HO1.out
  unfold SlQ.v at hrun
  go_simp
  have HKF := Lib.hid hown
  have HOW := Lib.hid (ownsRow_mods HOW.out hmF (fun z hz e => by subst e; exact own_not (l := zs.map (.int .i64) ++ [.int .i64 x]) (by unfold Own; rw [List.length_append, List.length_map]; exact HOW.out) HO1.out (fun cs fr => HNC.out cs _ fr) hz))
  have hb := hHeld.trans hmF (fun y hy _ => (HPR.out y).2 (.inl hy))
  clear hrun hown hmF HBK
  refine bkm hK hb ?_
  clear hK K hHeld
  have hHeld : Mods Pr w4 xF := hb
  clear hb
  refine wpAnyH_done (by kernel_rfl) ?_ _
  refine NoPanic.normal ?_
  go_wp2_with fail
  go_ret
  rw [HX.out]
  refine ⟨rfl, ?_, ?_⟩
  ·have hk := HTK.out
   subst hk
   have hz := HZE.out
   have hsz := hHeld.size
   have hl2 := HL2.out
   have hsw := HSZ.out
   refine ⟨b1, b2, _, _, StIn.added (u := ⟨p, b.length, cap⟩) (u' := ⟨p9, zs.length + 1, c9⟩) HI1.out.1 HA.out.symm HNM.out HWX.out ?_ (fun y hy => .inl hy) (fun y h1 h2 => .inr ⟨by omega, h2⟩) (HB4.out.mods hHeld HPG.out) ?_ ?_ ?_ (fun hne a ha => .inl (HPO.out hne a ha)) ?_ ?_⟩
   ·exact ((HM2.out.mono (fun y hy => .inl hy)).then HK4.out).trans hHeld (fun y hy _ => .inr ((HPR.out y).1 hy))
   ·obtain ⟨D, h1, h2⟩ := HN2.out
    exact ⟨D, Usr.map_modsS (Usr.map_keepsS h1 HK4.out) hHeld HPB.out, h2⟩
   ·exact ⟨_, HKF.out, HMA.out.put trKind _ _⟩
   ·refine (HP2.out.keeps HK4.out).modsT hHeld (fun y hy cs fr hh => ?_)
    rcases (HPR.out y).1 hy with e | e
    ·obtain ⟨es, cl, hmo⟩ := Usr.map_obj HA4.out
     rw [← e, hh] at hmo
     cases hmo
    ·exact own_not HO4.out hh (fun cs fr h => by simp only [Obj.cells.injEq] at h; exact absurd h.2.1 (by decide)) e
   ·rw [hz]
    unfold Own
    rw [List.map_append, List.length_append, List.length_map]
    exact HOW.out
   ·rcases HLC.out with e | ⟨z, e, hzl⟩
    ·exact .inl e
    ·refine .inr ⟨z, e, by omega, ?_⟩
     obtain ⟨cs, hh⟩ := Usr.owns_obj HOW.out e
     exact (Array.getElem?_eq_some_iff.1 hh).1
  ·refine HI1.out.2.mono (fun y hy => by rw [hy]; exact ⟨HI.out.og.1, HI.out.tyg⟩) |>.trans (((HM2.out.mono (T := fun y => O y ∧ TyB W y) (fun y hy => by rw [hy]; exact ⟨HI.out.og.2.1, .inr (.inr HI.out.obj1.1)⟩)).then HK4.out).trans hHeld (T := Pr) (fun y hy _ => ?_)) (fun y hy _ => hy)
   rcases (HPR.out y).1 hy with e | e
   ·rw [e]; exact ⟨HI.out.og.2.2, .inr (.inr HI.out.obj1.2)⟩
   ·have e2 : ((Mp.look (av.map fun y => (y.k, y.s)) k).getD sq0).v.ownBlock = some y := by rw [HA.out]; exact e
    obtain ⟨cs, hh⟩ := Usr.owns_obj (HI.out.ownA k) e2
    exact ⟨HI.out.aoA k e2, .inr (.inl ⟨cs, _, hh⟩)⟩
end Bds
end Go.Proofs.YtklbemkafdccgaaGreat

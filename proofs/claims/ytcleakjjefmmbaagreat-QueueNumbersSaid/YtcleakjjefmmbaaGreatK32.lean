/- Several texts in one: VdAwake, VdSwPlain, VdOn, SfAgain, SfSmall, SfAppend, SfClo, SfMake, SfDrop, RfUnlink, RfNew0, RfTwo. -/
import Derived.Test.YtcleakjjefmmbaaGreatK31
import Derived.Test.YtcleakjjefmmbaaGreatK24
import Derived.Test.YtcleakjjefmmbaaGreatK28
import Derived.Test.YtcleakjjefmmbaaGreatVdNext
/- law04's awake. -/
namespace Go.Proofs.YtcleakjjefmmbaaGreat
open Go.RowKit
namespace Vd
open Go.Maps
theorem row_modsB {w w' : World} {T : Nat → Prop} {b n c : Nat} {l : List Value} (h : Row w (.slice (some ⟨b, 0, none⟩) n c) l) (hm : Mods T w w') (hn : ¬ T b) : Row w' (.slice (some ⟨b, 0, none⟩) n c) l := by
 rcases h with h | ⟨b', off, cap, hv, h1, h2, h3⟩
 ·exact .inl h
 ·simp only [Value.slice.injEq, Option.some.injEq, Addr.mk.injEq] at hv
  obtain ⟨⟨rfl, rfl, -⟩, rfl, rfl⟩ := hv
  exact .inr ⟨_, _, _, rfl, h1, h2, fun i x hx => hm.cell (h3 i x hx) hn⟩
/-- a row in a block that is none of the disk's -/
theorem At.lit {W w w1 : World} {g : Nat} {d : Dsk} {k : Nat} (_ : At W w g d k) {b n c : Nat} {l : List Value} (hr : Row w1 (.slice (some ⟨b, 0, none⟩) n c) l) (hw : w.heap.size ≤ b) : ∀ w', Mods (Rng W.heap.size w) w1 w' → Row w' (.slice (some ⟨b, 0, none⟩) n c) l := fun _ hm =>
 row_modsB hr hm (fun e => by have := e.2; omega)
end Vd
end Go.Proofs.YtcleakjjefmmbaaGreat

/- A file that is written anew and renamed over the elder one, plain. -/
namespace Go.Proofs.YtcleakjjefmmbaaGreat
open Go.RowKit
namespace Vd
theorem change_off {d : Dsk} (h : d.off = true) : changeD d = (d, 11) := by unfold changeD; rw [if_pos h]
/-- the file s with its bytes, and what comes of a new one -/
def w1 (old : Str) (off : Bool) (n : Int) (k : Int × Int) : Dsk := ⟨1048576, [madeN old], [([115], 0)], [([115], 0)], [], off, n, (-1, 0), k⟩
def w2 (old : Str) (off : Bool) (n : Int) (k : Int × Int) : Dsk := ⟨1048576, [madeN old, newN], [([110], 1), ([115], 0)], [([115], 0)], [⟨1, [110], true⟩], off, n, (-1, 0), k⟩
def w3 (old new : Str) (off : Bool) (n : Int) (k : Int × Int) : Dsk := ⟨1048576, [madeN old, ⟨new, [], [⟨0, new⟩], true⟩], [([110], 1), ([115], 0)], [([115], 0)], [⟨1, [110], true⟩], off, n, (-1, 0), k⟩
def w4 (old new : Str) (off : Bool) (n : Int) (k : Int × Int) : Dsk := ⟨1048576, [madeN old, ⟨new, new, [], true⟩], [([110], 1), ([115], 0)], [([115], 0)], [⟨1, [110], true⟩], off, n, (-1, 0), k⟩
def w5 (old new : Str) (off : Bool) (n : Int) (k : Int × Int) : Dsk := ⟨1048576, [madeN old, ⟨new, new, [], true⟩], [([115], 1)], [([115], 0)], [⟨1, [110], true⟩, ⟨1, [115], false⟩], off, n, (-1, 0), k⟩
def w6 (old new : Str) (off : Bool) (n : Int) (k : Int × Int) : Dsk := ⟨1048576, [madeN old, ⟨new, new, [], false⟩], [([115], 1)], [([115], 1)], [], off, n, (-1, 0), k⟩
section
variable {old new : Str} {n : Int} {k : Int × Int} {k' : Int}
variable {t : Int} {ks : List Int}
end
end Vd
end Go.Proofs.YtcleakjjefmmbaaGreat

/- The disk's contracts beside blocks that are none of the disk's. -/
namespace Go.Proofs.YtcleakjjefmmbaaGreat
open Go.RowKit
namespace Vd
open Go.Maps
/-- from w1 on the disk alone was changed: its blocks (S, and those that were made since) -/
structure On (S : Nat → Prop) (w1 w : World) (g : Nat) (d : Dsk) (k : Nat) : Prop where
 dsk : DiskAt w (More S w1 w) g d
 mods : Mods S w1 w
 few : Few d k
 lt : ∀ y, S y → y < w1.heap.size
section
variable {S : Nat → Prop} {w1 w wb w' : World} {g : Nat} {d d' : Dsk} {k k' : Nat}
theorem On.did (h : On S w1 w g d k) (hk : Keeps w wb) {r : Dsk × Int} {e : Ending} (hd : DskDid wb (More (More S w1 w) wb w') g r e w') (hf : Few r.1 k') : e = .returned (.int .i64 r.2) ∧ On S w1 w' g r.1 k' := by
 obtain ⟨h1, h2, h3⟩ := hd
 have hs := h3.size
 have hs1 := hk.size
 have hs0 := h.mods.size
 refine ⟨h1, h2.wide (fun y hy => ?_), ?_, hf, h.lt⟩
 ·rcases hy with (hy | hy) | hy
  ·exact .inl hy
  ·exact .inr (by omega)
  ·exact .inr (by omega)
 ·refine h.mods.trans ((Mods.of_keeps (S := fun _ => False) hk).mono (fun y hy => hy.elim) |>.trans h3 (T := More (More S w1 w) wb w') (S := fun y => More (More S w1 w) wb w' y) (fun y hy _ => hy)) (fun y hy hlt => ?_)
  rcases hy with (hy | hy) | hy
  ·exact hy
  ·omega
  ·omega
theorem On.did0 (h : On S w1 w g d k) (hd : DiskAt w' (More S w1 w) g d') (hm : Mods (More S w1 w) w w') (hf : Few d' k') : On S w1 w' g d' k' :=
 ⟨hd.wide (fun y hy => hy.imp id (fun hh => ⟨hh.1, Nat.lt_of_lt_of_le hh.2 hm.size⟩)), h.mods.trans hm (fun y hy hlt => hy.elim id (fun hh => by omega)), hf, h.lt⟩
theorem On.keeps (h : On S w1 w g d k) (hk : Keeps w w') : On S w1 w' g d k :=
 h.did0 (h.dsk.keeps hk) (Mods.of_keeps hk) h.few
/-- from here on -/
theorem On.base (h : On S w1 w g d k) (hk : Keeps w wb) : On (More S w1 w) wb wb g d k :=
 ⟨(h.dsk.keeps hk).wide (fun y hy => .inl hy), Mods.refl _ _, h.few, fun y hy => by
  have hs := hk.size
  have hs0 := h.mods.size
  rcases hy with hy | hy
  ·have := h.lt y hy
   omega
  ·omega⟩
theorem On.back (h : On S w1 w g d k) (hk : Keeps w wb) (h2 : On (More S w1 w) wb w' g d' k') : On S w1 w' g d' k' := by
 have hs := h2.mods.size
 have hs1 := hk.size
 have hs0 := h.mods.size
 refine ⟨h2.dsk.wide (fun y hy => ?_), ?_, h2.few, h.lt⟩
 ·rcases hy with (hy | hy) | hy
  ·exact .inl hy
  ·exact .inr (by omega)
  ·exact .inr (by omega)
 ·refine h.mods.trans ((Mods.of_keeps (S := More S w1 w) hk).trans h2.mods (fun y hy _ => hy)) (fun y hy hlt => ?_)
  rcases hy with hy | hy
  ·exact hy
  ·omega
/-- a block that is none of the disk's -/
theorem On.blk (h : On S w1 w g d k) (h2 : On (More S w1 w) wb w' g d' k') {b : Nat} {t : TypeId} {cs : Array Value} (hb : Blk wb b t cs) (hw : w.heap.size ≤ b) : Blk w' b t cs :=
 hb.mods h2.mods (fun hy => by
  have hs0 := h.mods.size
  rcases hy with hy | hy
  ·have := h.lt b hy
   omega
  ·omega)
theorem On.cnt (h : On S w1 w g d k) (hk : k ≤ 90000) : -1 ≤ d.count ∧ d.count ≤ 9000000000000000000 := by
 have h0 := h.few.c0
 have h1 := h.few.c1
 omega
theorem create_on (h : On S w1 w g d k) (hk : k ≤ 90000) (x : Str) (hx : x.length ≤ 9000000000000000000) : Calls Tryz.prog 121 #[.pointer (some ⟨g, 0, none⟩), .string (bstr x)] w fun e w' => e = .returned (.int .i64 (createD d x).2) ∧ On S w1 w' g (createD d x).1 (k + 1) :=
 (create_any w h.dsk (h.cnt hk) x hx (by have := h.few.m; omega) (by have := h.few.n; omega)).mono (fun e w' hd => h.did (Keeps.refl _) hd (few_create h.few x))
theorem append_on (h : On S w1 w g d k) (hk : k ≤ 90000) (x : Str) (hx : x.length ≤ maxLen) {bv : Value} {b : Str} (hb : ∀ w', Mods (More S w1 w) w w' → Row w' bv (b.map u8v)) (hbl : b.length ≤ 1000000000) : Calls Tryz.prog 129 #[.pointer (some ⟨g, 0, none⟩), .string (bstr x), bv] w fun e w' => e = .returned (.int .i64 (appendD d x b).2) ∧ On S w1 w' g (appendD d x b).1 (k + 1) :=
 (append_any w h.dsk (h.cnt hk) x hx hb hbl (fun y hy => by have := h.few.p y hy; omega)).mono (fun e w' hd => h.did (Keeps.refl _) hd (few_append h.few x b))
theorem sync_on (h : On S w1 w g d k) (hk : k ≤ 90000) (x : Str) (hx : x.length ≤ maxLen) : Calls Tryz.prog 190 #[.pointer (some ⟨g, 0, none⟩), .string (bstr x)] w fun e w' => e = .returned (.int .i64 (syncD d x).2) ∧ On S w1 w' g (syncD d x).1 (k + 1) :=
 (sync_any w h.dsk (h.cnt hk) x hx).mono (fun e w' hd => h.did (Keeps.refl _) hd (few_sync h.few x))
theorem rename_on (h : On S w1 w g d k) (hk : k ≤ 90000) (x y : Str) (hx : x.length ≤ 9000000000000000000) (hy : y.length ≤ 9000000000000000000) : Calls Tryz.prog 135 #[.pointer (some ⟨g, 0, none⟩), .string (bstr x), .string (bstr y)] w fun e w' => e = .returned (.int .i64 (renameD d x y).2) ∧ On S w1 w' g (renameD d x y).1 (k + 1) :=
 (rename_any w h.dsk (h.cnt hk) x y hx hy (by have := h.few.m; omega)).mono (fun e w' hd => h.did (Keeps.refl _) hd (few_rename h.few x y))
theorem unlink_on (h : On S w1 w g d k) (hk : k ≤ 90000) (x : Str) (hx : x.length ≤ maxLen) : Calls Tryz.prog 83 #[.pointer (some ⟨g, 0, none⟩), .string (bstr x)] w fun e w' => e = .returned (.int .i64 (unlinkD d x).2) ∧ On S w1 w' g (unlinkD d x).1 (k + 1) :=
 (unlink_any w h.dsk (h.cnt hk) x hx (by have := h.few.m; omega)).mono (fun e w' hd => h.did (Keeps.refl _) hd (few_unlink h.few x))
theorem syncDir_on (h : On S w1 w g d k) (hk : k ≤ 90000) : Calls Tryz.prog 28 #[.pointer (some ⟨g, 0, none⟩)] w fun e w' => e = .returned (.int .i64 (syncDirD d).2) ∧ On S w1 w' g (syncDirD d).1 (k + 1) :=
 (syncDir_any w h.dsk (h.cnt hk) (by have := h.few.n; omega)).mono (fun e w' hd => h.did (Keeps.refl _) hd (few_syncDir h.few))
/-- the law's side -/
theorem At.on {W : World} (h : At W w g d k) : On (fun _ => False) W w g d k :=
 ⟨h.dsk.wide (fun y hy => .inr hy), Mods.of_keeps h.keep, h.few, fun y hy => hy.elim⟩
theorem On.at_ {W : World} (h : On (fun _ => False) W w g d k) : At W w g d k :=
 ⟨h.dsk.wide (fun y hy => hy.elim (fun hh => hh.elim) id), h.mods.keeps (Keeps.refl _) (fun y hy => hy.elim), h.few⟩
theorem size_any (w : World) (h : DiskAt w S g d) (x : Str) (hx : x.length ≤ maxLen) : Calls Tryz.prog 162 #[.pointer (some ⟨g, 0, none⟩), .string (bstr x)] w fun e w' => e = .returned (.tuple #[.int .i64 ((textD d x).1.length : Int), .int .i64 (textD d x).2]) ∧ w = w' := by
 have HT := Lib.hid (text_any w h x hx)
 have hsz := bstr_size (textD d x).1
 clear h
 generalize textD d x = r at *
 obtain ⟨s, er⟩ := r
 simp only at HT hsz
 go_enter Tryz.func162, Tryz.ntmps162
 go_wp2_with fail
 refine HT.out.mono ?_
 rintro e w2 ⟨rfl, rfl⟩
 go_wp2_with fail
 go_ret2
 exact ⟨rfl, rfl⟩
end
end Vd
end Go.Proofs.YtcleakjjefmmbaaGreat

/- safe.again, safe.steps: closures by their contracts. -/
namespace Go.Proofs.YtcleakjjefmmbaaGreat
open Go.RowKit
namespace Sf
/-- what a closure answers, and what holds behind it -/
def Says (Q : Int → World → Prop) (e : Ending) (w' : World) : Prop := ∃ c, e = .returned (.int .i64 c) ∧ Q c w'
/-- a function that has a body is entered -/
def Enters (n : Nat) (args : Array Value) : Prop := ∀ w, (callFunc n args).run Tryz.prog w = .ok (.enter n args) w
set_option maxRecDepth 100000 in
set_option maxHeartbeats 2000000 in
theorem again_any (w : World) (n : Nat) (first caps : Array Value) (he : Enters n (first ++ caps)) (Q Q2 : Int → World → Prop) (h1 : Calls Tryz.prog n (first ++ caps) w (Says Q)) (h2 : ∀ c w', Q c w' → c ≠ 0 → c ≠ 11 → Calls Tryz.prog n (first ++ caps) w' (Says Q2)) (h3 : ∀ c w', Q c w' → c = 0 ∨ c = 11 → Q2 c w') : Calls Tryz.prog 95 #[.func (.func n) first caps] w (Says Q2) := by
 have H1 := Lib.hid h1
 have H2 := Lib.hid h2
 have H3 := Lib.hid h3
 unfold Enters at he
 clear h1 h2 h3
 go_enter Tryz.func95, Tryz.ntmps95
 go_wp2_with fail
 refine H1.out.mono ?_
 rintro e w1 ⟨c, rfl, hq⟩
 have HQ := Lib.hid hq
 clear hq H1
 by_cases h0 : c = 0
 ·subst h0
  go_wp2_with fail
  go_ret
  exact ⟨0, rfl, H3.out _ _ HQ.out (.inl rfl)⟩
 ·by_cases h11 : c = 11
  ·subst h11
   go_wp2_with fail
   go_ret
   exact ⟨11, rfl, H3.out _ _ HQ.out (.inr rfl)⟩
  ·have e1 : (c != 0) = true := by simp [h0]
   have e2 : (c != 11) = true := by simp [h11]
   have HC := Lib.hid (H2.out _ _ HQ.out h0 h11)
   clear h0 h11
   go_wp2_with fail
   refine HC.out.mono ?_
   rintro e w2 ⟨c2, rfl, hq⟩
   have HQ2 := Lib.hid hq
   clear hq HC
   go_wp2_with fail
   go_ret
   exact ⟨c2, rfl, HQ2.out⟩
/-- a closure: its function, what stands ahead of its arguments, what it holds -/
abbrev Clo := Nat × Array Value × Array Value
def cloV (f : Clo) : Value := .func (.func f.1) f.2.1 f.2.2
set_option maxRecDepth 100000 in
set_option maxHeartbeats 2000000 in
theorem steps_any (w : World) (B : Nat) (fs : List Clo) (hn : fs.length ≤ 1000) (P : Nat → Int → World → Prop) (he : ∀ i (h : i < fs.length), Enters fs[i].1 (fs[i].2.1 ++ fs[i].2.2))
  (hc : ∀ i (h : i < fs.length) w', P i 0 w' → w'.cell? ⟨B, i, none⟩ = some (cloV fs[i]))
  (hs : ∀ i (h : i < fs.length) w', P i 0 w' → Calls Tryz.prog fs[i].1 (fs[i].2.1 ++ fs[i].2.2) w' (Says (P (i + 1))))
  (hup : ∀ i c w', i < fs.length → P (i + 1) c w' → c ≠ 0 → P fs.length c w') (h0 : P 0 0 w) :
  Calls Tryz.prog 92 #[.slice (some ⟨B, 0, none⟩) fs.length fs.length] w (Says (P fs.length)) := by
 obtain ⟨n, hnn⟩ : ∃ n, n = fs.length := ⟨_, rfl⟩
 rw [← hnn] at hn ⊢
 have HN := Lib.hid hnn
 have HE := Lib.hid he
 have HC := Lib.hid hc
 have HS := Lib.hid hs
 have HU := Lib.hid hup
 have H0 := Lib.hid h0
 clear he hc hs hup h0 hnn
 go_enter Tryz.func92, Tryz.ntmps92
 go_wp2_with fail
 go_loopw [8] (fun ix wr => ∃ j : Nat, ix = .int .i64 (j : Int) ∧ j ≤ n ∧ Hid (P j 0 wr)) (fun ix _ => n - (RowKit.intOf ix).toNat)
 case atStart => exact ⟨0, rfl, Nat.zero_le _, H0⟩
 case round =>
  obtain ⟨j, rfl, hj, HP⟩ := hrel
  by_cases hlt : j < n
  ·have hjl : j < fs.length := by rw [← HN.out]; exact hlt
   have hcell := HC.out j hjl wr HP.out
   have he := HE.out j hjl
   have HCL := Lib.hid (HS.out j hjl wr HP.out)
   have HUU := Lib.hid (HU.out j)
   have hlt' : (j : Int) < (n : Int) := by omega
   generalize fs[j] = f at *
   obtain ⟨m, first, caps⟩ := f
   unfold Enters at he
   unfold cloV at hcell
   simp only at he hcell
   clear HC HE HS HU
   go_wp2_with fail
   refine HCL.out.mono ?_
   rintro e w1 ⟨c, rfl, hq⟩
   have HQ := Lib.hid hq
   clear hq HCL hcell he
   by_cases h0 : c = 0
   ·subst h0
    go_wp2_with fail
    go_roundw
    case rel => exact ⟨j + 1, by simp, by omega, HQ⟩
    case measure =>
     simp only [RowKit.intOf]
     omega
   ·have HF := Lib.hid (HUU.out c w1 hjl HQ.out h0)
    have e1 : (c != 0) = true := by simp [h0]
    clear h0
    go_wp2_with fail
    go_ret
    exact ⟨c, rfl, by rw [HN.out]; exact HF.out⟩
  ·have hjn : j = n := by omega
   subst hjn
   have hlt' : decide ((j : Int) < (j : Int)) = false := by simp
   go_wp2_with fail
   go_ret
   exact ⟨0, rfl, HP.out⟩
end Sf
end Go.Proofs.YtcleakjjefmmbaaGreat

/- safe: Has, sync, unlink, the closures of Append; Append. -/
namespace Go.Proofs.YtcleakjjefmmbaaGreat
open Go.RowKit
namespace Sf
open Vd
theorem enters_of {n : Nat} {fn : Func} {c : Code} (hf : Tryz.prog.funcs[n]? = some fn) (hname : (fn.name == "runtime.NumGoroutine") = false) (hb : fn.body = some c) (args : Array Value) : Enters n args := fun w => by
 have h1 : fn.name ≠ "runtime.NumGoroutine" := by simpa using hname
 simp [callFunc, hf, h1, hb]
/-- a call and, unless it went well or the power went, once more -/
def twice (f : Dsk → Dsk × Int) (d : Dsk) : Dsk × Int := if (f d).2 = 0 ∨ (f d).2 = 11 then f d else f (f d).1
/-- the next step, unless the last one failed -/
def thenD (r : Dsk × Int) (f : Dsk → Dsk × Int) : Dsk × Int := if r.2 = 0 then f r.1 else r
def hasD (d : Dsk) (x : Str) : Bool := decide ((textD d x).2 = 0)
def sSync (x : Str) : Dsk → Dsk × Int := twice (fun d => syncD d x)
def sDir : Dsk → Dsk × Int := twice syncDirD
def sUnlink (x : Str) : Dsk → Dsk × Int := twice (fun d => unlinkD d x)
def sAppend (x b : Str) (d : Dsk) : Dsk × Int := thenD (appendD d x b) (sSync x)
theorem twice_one {f : Dsk → Dsk × Int} {d : Dsk} (h : (f d).2 = 0 ∨ (f d).2 = 11) : twice f d = f d := if_pos h
theorem twice_two {f : Dsk → Dsk × Int} {d : Dsk} (h : (f d).2 ≠ 0) (h2 : (f d).2 ≠ 11) : twice f d = f (f d).1 := if_neg (by simp [h, h2])
section
variable {S : Nat → Prop} {w1 w : World} {g : Nat} {d : Dsk} {k : Nat}
/-- what a call says of the disk -/
def Tells (S : Nat → Prop) (w1 : World) (g : Nat) (r : Dsk × Int) (k : Nat) (c : Int) (w' : World) : Prop := c = r.2 ∧ On S w1 w' g r.1 k
theorem tells_of {f : Nat} {args : Array Value} {r : Dsk × Int} {k : Nat} (h : Calls Tryz.prog f args w fun e w' => e = .returned (.int .i64 r.2) ∧ On S w1 w' g r.1 k) : Calls Tryz.prog f args w (Says (Tells S w1 g r k)) := h.mono (fun _ _ hh => ⟨_, hh.1, rfl, hh.2⟩)
/-- again, of a closure that does f -/
theorem again_on (h : On S w1 w g d k) (n : Nat) (first caps : Array Value) (he : Enters n (first ++ caps)) (f : Dsk → Dsk × Int) (hf : ∀ w' d' k', k' ≤ k + 1 → On S w1 w' g d' k' → Calls Tryz.prog n (first ++ caps) w' (Says (Tells S w1 g (f d') (k' + 1)))) : Calls Tryz.prog 95 #[.func (.func n) first caps] w (Says (Tells S w1 g (twice f d) (k + 2))) := by
 refine again_any w n first caps he (Tells S w1 g (f d) (k + 1)) _ (hf w d k (by omega) h) (fun c w' hq h0 h11 => ?_) (fun c w' hq hc => ?_)
 ·obtain ⟨rfl, ho⟩ := hq
  rw [twice_two h0 h11]
  exact hf w' _ _ (Nat.le_refl _) ho
 ·obtain ⟨rfl, ho⟩ := hq
  rw [twice_one hc]
  exact ⟨rfl, ⟨ho.dsk, ho.mods, ho.few.mono (by omega), ho.lt⟩⟩
theorem has_on (h : On S w1 w g d k) (x : Str) (hx : x.length ≤ maxLen) : Calls Tryz.prog 91 #[.pointer (some ⟨g, 0, none⟩), .string (bstr x)] w fun e w' => e = .returned (.bool (hasD d x)) ∧ w = w' := by
 have HT := Lib.hid (size_any w h.dsk x hx)
 have HX : Hid (hasD d x = ((textD d x).2 == 0)) := Lib.hid rfl
 clear h
 generalize textD d x = r at *
 obtain ⟨s, er⟩ := r
 simp only at HT HX
 go_enter Tryz.func91, Tryz.ntmps91
 go_wp2_with fail
 refine HT.out.mono ?_
 rintro e w2 ⟨rfl, rfl⟩
 go_wp2_with fail
 go_ret
 exact ⟨by rw [HX.out]; rfl, rfl⟩
/-- the boxes that closures hold: the disk's pointer and a name -/
structure Boxes (w : World) (p q g : Nat) (x : Str) : Prop where
 dp : Blk w p 25 #[.pointer (some ⟨g, 0, none⟩)]
 nm : Blk w q 9 #[.string (bstr x)]
theorem sync1_on (h : On S w1 w g d k) (hk : k ≤ 90000) {p q : Nat} {x : Str} (hx : x.length ≤ maxLen) (hb : Boxes w p q g x) : Calls Tryz.prog 189 #[.pointer (some ⟨p, 0, none⟩), .pointer (some ⟨q, 0, none⟩)] w (Says (Tells S w1 g (syncD d x) (k + 1))) := by
 have HC := Lib.hid (sync_on h hk x hx)
 have c0 : w.cell? ⟨p, 0, none⟩ = some (.pointer (some ⟨g, 0, none⟩)) := by rw [hb.dp.cell]; rfl
 have c1 : w.cell? ⟨q, 0, none⟩ = some (.string (bstr x)) := by rw [hb.nm.cell]; rfl
 clear h hb
 generalize syncD d x = r at *
 obtain ⟨d2, er⟩ := r
 go_enter Tryz.func189, Tryz.ntmps189
 go_wp2_with fail
 refine HC.out.mono ?_
 rintro e w2 ⟨rfl, ho⟩
 have HO := Lib.hid ho
 clear ho HC c0 c1
 go_wp2_with fail
 go_ret
 exact ⟨er, rfl, rfl, HO.out⟩
theorem unlink1_on (h : On S w1 w g d k) (hk : k ≤ 90000) {p q : Nat} {x : Str} (hx : x.length ≤ maxLen) (hb : Boxes w p q g x) : Calls Tryz.prog 187 #[.pointer (some ⟨p, 0, none⟩), .pointer (some ⟨q, 0, none⟩)] w (Says (Tells S w1 g (unlinkD d x) (k + 1))) := by
 have HC := Lib.hid (unlink_on h hk x hx)
 have c0 : w.cell? ⟨p, 0, none⟩ = some (.pointer (some ⟨g, 0, none⟩)) := by rw [hb.dp.cell]; rfl
 have c1 : w.cell? ⟨q, 0, none⟩ = some (.string (bstr x)) := by rw [hb.nm.cell]; rfl
 clear h hb
 generalize unlinkD d x = r at *
 obtain ⟨d2, er⟩ := r
 go_enter Tryz.func187, Tryz.ntmps187
 go_wp2_with fail
 refine HC.out.mono ?_
 rintro e w2 ⟨rfl, ho⟩
 have HO := Lib.hid ho
 clear ho HC c0 c1
 go_wp2_with fail
 go_ret
 exact ⟨er, rfl, rfl, HO.out⟩
theorem ssync_on (h : On S w1 w g d k) (hk : k ≤ 89990) (x : Str) (hx : x.length ≤ maxLen) : Calls Tryz.prog 131 #[.pointer (some ⟨g, 0, none⟩), .string (bstr x)] w (Says (Tells S w1 g (sSync x d) (k + 2))) := by
 have H := Lib.hid h
 clear h
 go_enter Tryz.func131, Tryz.ntmps131
 go_upto_region 1 with fail
 generalize hW : World.alloc (World.alloc w _) _ = wb
 have HB := Lib.hid (show Boxes wb w.heap.size (w.heap.size + 1) g x from by
  rw [← hW]
  exact ⟨(Blk.new _ _ _ rfl).alloc _, Blk.new _ _ _ (by rw [Frm.alloc_size])⟩)
 have HK := Lib.hid (show Keeps w wb from by rw [← hW]; exact ((Keeps.refl _).alloc _).alloc _)
 clear hW
 have HA := Lib.hid (again_on (H.out.base HK.out) 189 #[] #[.pointer (some ⟨w.heap.size, 0, none⟩), .pointer (some ⟨w.heap.size + 1, 0, none⟩)] (enters_of Tryz.func189 (by kernel_rfl) rfl _) (fun d => syncD d x) (fun w' d' k' hk' ho => sync1_on ho (by omega) hx ⟨H.out.blk ho HB.out.dp (Nat.le_refl _), H.out.blk ho HB.out.nm (by omega)⟩))
 go_wp2_with fail
 refine HA.out.mono ?_
 rintro e w2 ⟨c, rfl, rfl, ho⟩
 have HO := Lib.hid (H.out.back HK.out ho)
 clear ho HA
 go_wp2_with fail
 go_ret
 exact ⟨_, rfl, rfl, HO.out⟩
theorem sunlink_on (h : On S w1 w g d k) (hk : k ≤ 89990) (x : Str) (hx : x.length ≤ maxLen) : Calls Tryz.prog 124 #[.pointer (some ⟨g, 0, none⟩), .string (bstr x)] w fun e w' => e = .returned (.tuple #[]) ∧ On S w1 w' g (sUnlink x d).1 (k + 2) := by
 have H := Lib.hid h
 clear h
 go_enter Tryz.func124, Tryz.ntmps124
 go_upto_region 1 with fail
 generalize hW : World.alloc (World.alloc w _) _ = wb
 have HB := Lib.hid (show Boxes wb w.heap.size (w.heap.size + 1) g x from by
  rw [← hW]
  exact ⟨(Blk.new _ _ _ rfl).alloc _, Blk.new _ _ _ (by rw [Frm.alloc_size])⟩)
 have HK := Lib.hid (show Keeps w wb from by rw [← hW]; exact ((Keeps.refl _).alloc _).alloc _)
 clear hW
 have HA := Lib.hid (again_on (H.out.base HK.out) 187 #[] #[.pointer (some ⟨w.heap.size, 0, none⟩), .pointer (some ⟨w.heap.size + 1, 0, none⟩)] (enters_of Tryz.func187 (by kernel_rfl) rfl _) (fun d => unlinkD d x) (fun w' d' k' hk' ho => unlink1_on ho (by omega) hx ⟨H.out.blk ho HB.out.dp (Nat.le_refl _), H.out.blk ho HB.out.nm (by omega)⟩))
 go_wp2_with fail
 refine HA.out.mono ?_
 rintro e w2 ⟨c, rfl, rfl, ho⟩
 have HO := Lib.hid (H.out.back HK.out ho)
 clear ho HA
 go_wp2_with fail
 go_end0
 exact ⟨rfl, HO.out⟩
end
end Sf
end Go.Proofs.YtcleakjjefmmbaaGreat

/- safe: steps of the disk; Append. -/
namespace Go.Proofs.YtcleakjjefmmbaaGreat
open Go.RowKit
namespace Sf
open Vd
/-- a slice that no change of S since w1 reaches -/
def Stays (S : Nat → Prop) (w1 : World) (v : Value) (l : List Value) : Prop := ∀ w2, Mods S w1 w2 → Row w2 v l
section
variable {S : Nat → Prop} {w1 w wb w' : World} {g : Nat} {d : Dsk} {k : Nat}
theorem Stays.base {v : Value} {l : List Value} (h : Stays S w1 v l) (ho : On S w1 w g d k) (hk : Keeps w wb) : Stays (More S w1 w) wb v l := fun w2 hm => h w2 (by
 have hs := hk.size
 have hs0 := ho.mods.size
 refine ho.mods.trans ((Mods.of_keeps (S := More S w1 w) hk).trans hm (fun y hy _ => hy)) (fun y hy hlt => ?_)
 rcases hy with hy | hy
 ·exact hy
 ·omega)
theorem Stays.now {v : Value} {l : List Value} (h : Stays S w1 v l) (ho : On S w1 w g d k) : ∀ w2, Mods (More S w1 w) w w2 → Row w2 v l := fun w2 hm => h w2 (ho.mods.step hm)
theorem On.kept (ho : On S wb w' g d k) {b : Nat} {t : TypeId} {cs : Array Value} (hb : Blk wb b t cs) (hn : ¬ S b) : Blk w' b t cs := hb.mods ho.mods hn
theorem On.more {k' : Nat} (ho : On S w1 w g d k) (h : k ≤ k') : On S w1 w g d k' := ⟨ho.dsk, ho.mods, ho.few.mono h, ho.lt⟩
theorem thenD_ok {r : Dsk × Int} {f : Dsk → Dsk × Int} (h : r.2 = 0) : thenD r f = f r.1 := if_pos h
theorem thenD_no {r : Dsk × Int} {f : Dsk → Dsk × Int} (h : r.2 ≠ 0) : thenD r f = r := if_neg h
/-- where steps stand -/
def Stp (S : Nat → Prop) (wb : World) (g : Nat) (rs : List ((Dsk × Int) × Nat)) (i : Nat) (c : Int) (w' : World) : Prop := ∃ q, rs[i]? = some q ∧ Tells S wb g q.1 q.2 c w'
theorem steps2_on (h : On S wb wb g d k) {B : Nat} {t : TypeId} {c1 c2 : Clo} (hB : Blk wb B t #[cloV c1, cloV c2]) (hn : ¬ S B) (e1 : Enters c1.1 (c1.2.1 ++ c1.2.2)) (e2 : Enters c2.1 (c2.2.1 ++ c2.2.2)) (f1 f2 : Dsk → Dsk × Int) {k1 k2 : Nat} (hk : k1 ≤ k2)
  (h1 : ∀ w', On S wb w' g d k → Calls Tryz.prog c1.1 (c1.2.1 ++ c1.2.2) w' (Says (Tells S wb g (f1 d) k1))) (h2 : ∀ w' d', On S wb w' g d' k1 → Calls Tryz.prog c2.1 (c2.2.1 ++ c2.2.2) w' (Says (Tells S wb g (f2 d') k2))) :
  Calls Tryz.prog 92 #[.slice (some ⟨B, 0, none⟩) 2 2] wb (Says (Tells S wb g (thenD (f1 d) f2) k2)) := by
 have := steps_any wb B [c1, c2] (by simp) (Stp S wb g [((d, 0), k), (f1 d, k1), (thenD (f1 d) f2, k2)])
  (fun i hi => by
   rcases (show i = 0 ∨ i = 1 by simp at hi; omega) with rfl | rfl
   ·exact e1
   ·exact e2)
  (fun i hi w' hP => by
   obtain ⟨q, -, -, ho⟩ := hP
   have hb := On.kept ho hB hn
   rcases (show i = 0 ∨ i = 1 by simp at hi; omega) with rfl | rfl <;> (rw [hb.cell]; rfl))
  (fun i hi w' hP => by
   obtain ⟨q, hq, hc, ho⟩ := hP
   rcases (show i = 0 ∨ i = 1 by simp at hi; omega) with rfl | rfl
   ·simp at hq
    subst hq
    exact (h1 w' ho).mono (fun e w'' ⟨c, he, ht⟩ => ⟨c, he, _, rfl, ht⟩)
   ·simp at hq
    subst hq
    exact (h2 w' _ ho).mono (fun e w'' ⟨c, he, ht⟩ => ⟨c, he, _, rfl, by
     have hc : (0 : Int) = (f1 d).2 := hc
     show Tells S wb g (thenD (f1 d) f2) k2 c w''
     rw [thenD_ok hc.symm]
     exact ht⟩))
  (fun i c w' hi hP hc => by
   obtain ⟨q, hq, hcc, ho⟩ := hP
   rcases (show i = 0 ∨ i = 1 by simp at hi; omega) with rfl | rfl
   ·simp at hq
    subst hq
    have hcc : c = (f1 d).2 := hcc
    refine ⟨_, rfl, ?_⟩
    show Tells S wb g (thenD (f1 d) f2) k2 c w'
    rw [thenD_no (by rw [← hcc]; exact hc)]
    exact ⟨hcc, On.more ho hk⟩
   ·exact ⟨q, hq, hcc, ho⟩)
  ⟨_, rfl, rfl, h⟩
 refine this.mono (fun e w' hs => ?_)
 obtain ⟨c, he, q, hq, ht⟩ := hs
 simp at hq
 subst hq
 exact ⟨c, he, ht⟩
theorem steps4_on (h : On S wb wb g d k) {B : Nat} {t : TypeId} {c1 c2 c3 c4 : Clo} (hB : Blk wb B t #[cloV c1, cloV c2, cloV c3, cloV c4]) (hn : ¬ S B) (e1 : Enters c1.1 (c1.2.1 ++ c1.2.2)) (e2 : Enters c2.1 (c2.2.1 ++ c2.2.2)) (e3 : Enters c3.1 (c3.2.1 ++ c3.2.2)) (e4 : Enters c4.1 (c4.2.1 ++ c4.2.2)) (f1 f2 f3 f4 : Dsk → Dsk × Int) {k1 k2 k3 k4 : Nat} (hk : k1 ≤ k2) (hk' : k2 ≤ k3) (hk'' : k3 ≤ k4)
  (h1 : ∀ w', On S wb w' g d k → Calls Tryz.prog c1.1 (c1.2.1 ++ c1.2.2) w' (Says (Tells S wb g (f1 d) k1))) (h2 : ∀ w' d', On S wb w' g d' k1 → Calls Tryz.prog c2.1 (c2.2.1 ++ c2.2.2) w' (Says (Tells S wb g (f2 d') k2)))
  (h3 : ∀ w' d', On S wb w' g d' k2 → Calls Tryz.prog c3.1 (c3.2.1 ++ c3.2.2) w' (Says (Tells S wb g (f3 d') k3))) (h4 : ∀ w' d', On S wb w' g d' k3 → Calls Tryz.prog c4.1 (c4.2.1 ++ c4.2.2) w' (Says (Tells S wb g (f4 d') k4))) :
  Calls Tryz.prog 92 #[.slice (some ⟨B, 0, none⟩) 4 4] wb (Says (Tells S wb g (thenD (thenD (thenD (f1 d) f2) f3) f4) k4)) := by
 have := steps_any wb B [c1, c2, c3, c4] (by simp) (Stp S wb g [((d, 0), k), (f1 d, k1), (thenD (f1 d) f2, k2), (thenD (thenD (f1 d) f2) f3, k3), (thenD (thenD (thenD (f1 d) f2) f3) f4, k4)])
  (fun i hi => by
   rcases (show i = 0 ∨ i = 1 ∨ i = 2 ∨ i = 3 by simp at hi; omega) with rfl | rfl | rfl | rfl
   ·exact e1
   ·exact e2
   ·exact e3
   ·exact e4)
  (fun i hi w' hP => by
   obtain ⟨q, -, -, ho⟩ := hP
   have hb := On.kept ho hB hn
   rcases (show i = 0 ∨ i = 1 ∨ i = 2 ∨ i = 3 by simp at hi; omega) with rfl | rfl | rfl | rfl <;> (rw [hb.cell]; rfl))
  (fun i hi w' hP => by
   obtain ⟨q, hq, hc, ho⟩ := hP
   rcases (show i = 0 ∨ i = 1 ∨ i = 2 ∨ i = 3 by simp at hi; omega) with rfl | rfl | rfl | rfl
   ·simp at hq
    subst hq
    exact (h1 w' ho).mono (fun e w'' ⟨c, he, ht⟩ => ⟨c, he, _, rfl, ht⟩)
   ·simp at hq
    subst hq
    exact (h2 w' _ ho).mono (fun e w'' ⟨c, he, ht⟩ => ⟨c, he, _, rfl, by
     have hc : (0 : Int) = (f1 d).2 := hc
     show Tells S wb g (thenD (f1 d) f2) k2 c w''
     rw [thenD_ok hc.symm]
     exact ht⟩)
   ·simp at hq
    subst hq
    exact (h3 w' _ ho).mono (fun e w'' ⟨c, he, ht⟩ => ⟨c, he, _, rfl, by
     have hc : (0 : Int) = (thenD (f1 d) f2).2 := hc
     show Tells S wb g (thenD (thenD (f1 d) f2) f3) k3 c w''
     rw [thenD_ok (f := f3) hc.symm]
     exact ht⟩)
   ·simp at hq
    subst hq
    exact (h4 w' _ ho).mono (fun e w'' ⟨c, he, ht⟩ => ⟨c, he, _, rfl, by
     have hc : (0 : Int) = (thenD (thenD (f1 d) f2) f3).2 := hc
     show Tells S wb g (thenD (thenD (thenD (f1 d) f2) f3) f4) k4 c w''
     rw [thenD_ok (f := f4) hc.symm]
     exact ht⟩))
  (fun i c w' hi hP hc => by
   obtain ⟨q, hq, hcc, ho⟩ := hP
   rcases (show i = 0 ∨ i = 1 ∨ i = 2 ∨ i = 3 by simp at hi; omega) with rfl | rfl | rfl | rfl
   ·simp at hq
    subst hq
    have hcc : c = (f1 d).2 := hcc
    have hne : (f1 d).2 ≠ 0 := by rw [← hcc]; exact hc
    refine ⟨_, rfl, ?_⟩
    show Tells S wb g (thenD (thenD (thenD (f1 d) f2) f3) f4) k4 c w'
    rw [thenD_no (f := f2) hne, thenD_no (f := f3) hne, thenD_no (f := f4) hne]
    exact ⟨hcc, On.more ho (by omega)⟩
   ·simp at hq
    subst hq
    have hcc : c = (thenD (f1 d) f2).2 := hcc
    have hne : (thenD (f1 d) f2).2 ≠ 0 := by rw [← hcc]; exact hc
    refine ⟨_, rfl, ?_⟩
    show Tells S wb g (thenD (thenD (thenD (f1 d) f2) f3) f4) k4 c w'
    rw [thenD_no (f := f3) hne, thenD_no (f := f4) hne]
    exact ⟨hcc, On.more ho (by omega)⟩
   ·simp at hq
    subst hq
    have hcc : c = (thenD (thenD (f1 d) f2) f3).2 := hcc
    have hne : (thenD (thenD (f1 d) f2) f3).2 ≠ 0 := by rw [← hcc]; exact hc
    refine ⟨_, rfl, ?_⟩
    show Tells S wb g (thenD (thenD (thenD (f1 d) f2) f3) f4) k4 c w'
    rw [thenD_no (f := f4) hne]
    exact ⟨hcc, On.more ho (by omega)⟩
   ·exact ⟨q, hq, hcc, ho⟩)
  ⟨_, rfl, rfl, h⟩
 refine this.mono (fun e w' hs => ?_)
 obtain ⟨c, he, q, hq, ht⟩ := hs
 simp at hq
 subst hq
 exact ⟨c, he, ht⟩
theorem append1_on (h : On S w1 w g d k) (hk : k ≤ 90000) {p q r : Nat} {x b : Str} {bv : Value} (hx : x.length ≤ maxLen) (hs : Stays S w1 bv (b.map u8v)) (hbl : b.length ≤ 1000000000) (hb : Boxes w p q g x) (hr : Blk w r 53 #[bv]) : Calls Tryz.prog 128 #[.pointer (some ⟨p, 0, none⟩), .pointer (some ⟨q, 0, none⟩), .pointer (some ⟨r, 0, none⟩)] w (Says (Tells S w1 g (appendD d x b) (k + 1))) := by
 have HC := Lib.hid (append_on h hk x hx (hs.now h) hbl)
 have c0 : w.cell? ⟨p, 0, none⟩ = some (.pointer (some ⟨g, 0, none⟩)) := by rw [hb.dp.cell]; rfl
 have c1 : w.cell? ⟨q, 0, none⟩ = some (.string (bstr x)) := by rw [hb.nm.cell]; rfl
 have c2 : w.cell? ⟨r, 0, none⟩ = some bv := by rw [hr.cell]; rfl
 clear h hb hs hr
 generalize appendD d x b = r at *
 obtain ⟨d2, er⟩ := r
 go_enter Tryz.func128, Tryz.ntmps128
 go_wp2_with fail
 refine HC.out.mono ?_
 rintro e w2 ⟨rfl, ho⟩
 have HO := Lib.hid ho
 clear ho HC c0 c1 c2
 go_wp2_with fail
 go_ret
 exact ⟨er, rfl, rfl, HO.out⟩
theorem append2_on (h : On S w1 w g d k) (hk : k ≤ 89990) {p q : Nat} {x : Str} (hx : x.length ≤ maxLen) (hb : Boxes w p q g x) : Calls Tryz.prog 130 #[.pointer (some ⟨p, 0, none⟩), .pointer (some ⟨q, 0, none⟩)] w (Says (Tells S w1 g (sSync x d) (k + 2))) := by
 have HC := Lib.hid (ssync_on h hk x hx)
 have c0 : w.cell? ⟨p, 0, none⟩ = some (.pointer (some ⟨g, 0, none⟩)) := by rw [hb.dp.cell]; rfl
 have c1 : w.cell? ⟨q, 0, none⟩ = some (.string (bstr x)) := by rw [hb.nm.cell]; rfl
 clear h hb
 generalize sSync x d = r at *
 obtain ⟨d2, er⟩ := r
 go_enter Tryz.func130, Tryz.ntmps130
 go_wp2_with fail
 refine HC.out.mono ?_
 rintro e w2 ⟨c, rfl, rfl, ho⟩
 have HO := Lib.hid ho
 clear ho HC c0 c1
 go_wp2_with fail
 go_ret
 exact ⟨_, rfl, rfl, HO.out⟩
theorem sappend_on (h : On S w1 w g d k) (hk : k ≤ 89980) {x b : Str} {p0 : Option Addr} {c0 : Nat} (hx : x.length ≤ maxLen) (hs : Stays S w1 (.slice p0 b.length c0) (b.map u8v)) (hbl : b.length ≤ 1000000000) : Calls Tryz.prog 62 #[.pointer (some ⟨g, 0, none⟩), .string (bstr x), .slice p0 b.length c0] w (Says (Tells S w1 g (sAppend x b d) (k + 3))) := by
 have H := Lib.hid h
 have HS := Lib.hid hs
 clear h hs
 go_enter Tryz.func62, Tryz.ntmps62
 go_wp2_with fail
 generalize hW : World.alloc _ _ = wb
 have HB := Lib.hid (show Boxes wb w.heap.size (w.heap.size + 1) g x from by
  rw [← hW]
  exact ⟨(((Blk.new _ _ _ rfl).alloc _).alloc _).alloc _, ((Blk.new _ _ _ (by rw [Frm.alloc_size])).alloc _).alloc _⟩)
 have HR := Lib.hid (show Blk wb (w.heap.size + 1 + 1) 53 #[.slice p0 b.length c0] from by
  rw [← hW]
  exact (Blk.new _ _ _ (by rw [Frm.alloc_size, Frm.alloc_size])).alloc _)
 have HBB := Lib.hid (show Blk wb (w.heap.size + 1 + 1 + 1) 72 #[cloV (128, #[], #[.pointer (some ⟨w.heap.size, 0, none⟩), .pointer (some ⟨w.heap.size + 1, 0, none⟩), .pointer (some ⟨w.heap.size + 1 + 1, 0, none⟩)]), cloV (130, #[], #[.pointer (some ⟨w.heap.size, 0, none⟩), .pointer (some ⟨w.heap.size + 1, 0, none⟩)])] from by
  rw [← hW]
  exact Blk.new _ _ _ (by rw [Frm.alloc_size, Frm.alloc_size, Frm.alloc_size]))
 have HK := Lib.hid (show Keeps w wb from by rw [← hW]; exact ((((Keeps.refl _).alloc _).alloc _).alloc _).alloc _)
 clear hW
 have HST := Lib.hid (steps2_on (H.out.base HK.out) HBB.out (fun hy => by
   have h0 := H.out.mods.size
   rcases hy with hy | hy
   ·have := H.out.lt _ hy
    omega
   ·omega) (enters_of Tryz.func128 (by kernel_rfl) rfl _) (enters_of Tryz.func130 (by kernel_rfl) rfl _) (fun d => appendD d x b) (sSync x) (k1 := k + 1) (k2 := k + 3) (by omega)
  (fun w' ho => append1_on ho (by omega) hx (HS.out.base H.out HK.out) hbl ⟨H.out.blk ho HB.out.dp (Nat.le_refl _), H.out.blk ho HB.out.nm (by omega)⟩ (H.out.blk ho HR.out (by omega)))
  (fun w' d' ho => append2_on ho (by omega) hx ⟨H.out.blk ho HB.out.dp (Nat.le_refl _), H.out.blk ho HB.out.nm (by omega)⟩))
 refine HST.out.mono ?_
 rintro e w2 ⟨c, rfl, rfl, ho⟩
 have HO := Lib.hid (H.out.back HK.out ho)
 clear ho HST
 go_wp2_with fail
 go_ret
 exact ⟨_, rfl, rfl, HO.out⟩
end
end Sf
end Go.Proofs.YtcleakjjefmmbaaGreat

/- safe: the closures of Make, Drop, Swap. Written by gen_sfclo.py. -/
namespace Go.Proofs.YtcleakjjefmmbaaGreat
open Go.RowKit
namespace Sf
open Vd
section
variable {S : Nat → Prop} {w1 w : World} {g : Nat} {d : Dsk} {k : Nat}
theorem dir_any (h : On S w1 w g d k) (hk : k ≤ 89990) : Calls Tryz.prog 95 #[.func (.func 28) #[.pointer (some ⟨g, 0, none⟩)] #[]] w (Says (Tells S w1 g (sDir d) (k + 2))) :=
 again_on h _ _ _ (enters_of Tryz.func28 (by kernel_rfl) rfl _) syncDirD (fun w' d' k' hk' ho => tells_of (syncDir_on ho (by omega)))
theorem make2_on (h : On S w1 w g d k) (hk : k ≤ 89990) {p : Nat} (hp : Blk w p 25 #[.pointer (some ⟨g, 0, none⟩)]) : Calls Tryz.prog 123 #[.pointer (some ⟨p, 0, none⟩)] w (Says (Tells S w1 g (sDir d) (k + 2))) := by
 have HC := Lib.hid (dir_any h hk)
 have c0 : w.cell? ⟨p, 0, none⟩ = some (.pointer (some ⟨g, 0, none⟩)) := by rw [hp.cell]; rfl
 clear h hp
 generalize sDir d = r at *
 obtain ⟨d2, er⟩ := r
 go_enter Tryz.func123, Tryz.ntmps123
 go_wp2_with fail
 refine HC.out.mono ?_
 rintro e w2 ⟨c, rfl, rfl, ho⟩
 have HO := Lib.hid ho
 clear ho HC c0
 go_wp2_with fail
 go_ret
 exact ⟨_, rfl, rfl, HO.out⟩
theorem drop2_on (h : On S w1 w g d k) (hk : k ≤ 89990) {p : Nat} (hp : Blk w p 25 #[.pointer (some ⟨g, 0, none⟩)]) : Calls Tryz.prog 94 #[.pointer (some ⟨p, 0, none⟩)] w (Says (Tells S w1 g (sDir d) (k + 2))) := by
 have HC := Lib.hid (dir_any h hk)
 have c0 : w.cell? ⟨p, 0, none⟩ = some (.pointer (some ⟨g, 0, none⟩)) := by rw [hp.cell]; rfl
 clear h hp
 generalize sDir d = r at *
 obtain ⟨d2, er⟩ := r
 go_enter Tryz.func94, Tryz.ntmps94
 go_wp2_with fail
 refine HC.out.mono ?_
 rintro e w2 ⟨c, rfl, rfl, ho⟩
 have HO := Lib.hid ho
 clear ho HC c0
 go_wp2_with fail
 go_ret
 exact ⟨_, rfl, rfl, HO.out⟩
theorem swap4_on (h : On S w1 w g d k) (hk : k ≤ 89990) {p : Nat} (hp : Blk w p 25 #[.pointer (some ⟨g, 0, none⟩)]) : Calls Tryz.prog 136 #[.pointer (some ⟨p, 0, none⟩)] w (Says (Tells S w1 g (sDir d) (k + 2))) := by
 have HC := Lib.hid (dir_any h hk)
 have c0 : w.cell? ⟨p, 0, none⟩ = some (.pointer (some ⟨g, 0, none⟩)) := by rw [hp.cell]; rfl
 clear h hp
 generalize sDir d = r at *
 obtain ⟨d2, er⟩ := r
 go_enter Tryz.func136, Tryz.ntmps136
 go_wp2_with fail
 refine HC.out.mono ?_
 rintro e w2 ⟨c, rfl, rfl, ho⟩
 have HO := Lib.hid ho
 clear ho HC c0
 go_wp2_with fail
 go_ret
 exact ⟨_, rfl, rfl, HO.out⟩
theorem drop1_on (h : On S w1 w g d k) (hk : k ≤ 89980) {p q : Nat} {x : Str} (hx : x.length ≤ 100) (hb : Boxes w p q g x) : Calls Tryz.prog 93 #[.pointer (some ⟨p, 0, none⟩), .pointer (some ⟨q, 0, none⟩)] w (Says (Tells S w1 g (unlinkD d x) (k + 1))) := by
 have hxm : x.length ≤ maxLen := by unfold maxLen; omega
 have HC := Lib.hid (unlink_on h (by omega) x hxm)
 have c0 : w.cell? ⟨p, 0, none⟩ = some (.pointer (some ⟨g, 0, none⟩)) := by rw [hb.dp.cell]; rfl
 have c1 : w.cell? ⟨q, 0, none⟩ = some (.string (bstr x)) := by rw [hb.nm.cell]; rfl
 clear h hb
 generalize unlinkD d x = r at *
 obtain ⟨d2, er⟩ := r
 go_enter Tryz.func93, Tryz.ntmps93
 go_wp2_with fail
 refine HC.out.mono ?_
 rintro e w2 ⟨rfl, ho⟩
 have HO := Lib.hid ho
 clear ho HC c0 c1
 go_wp2_with fail
 go_ret
 exact ⟨_, rfl, rfl, HO.out⟩
theorem swap1_on (h : On S w1 w g d k) (hk : k ≤ 89980) {p q : Nat} {x : Str} (hx : x.length ≤ 100) (hb : Boxes w p q g x) : Calls Tryz.prog 132 #[.pointer (some ⟨p, 0, none⟩), .pointer (some ⟨q, 0, none⟩)] w (Says (Tells S w1 g (createD d x) (k + 1))) := by
 have hxm : x.length ≤ maxLen := by unfold maxLen; omega
 have HC := Lib.hid (create_on h (by omega) x (by omega))
 have c0 : w.cell? ⟨p, 0, none⟩ = some (.pointer (some ⟨g, 0, none⟩)) := by rw [hb.dp.cell]; rfl
 have c1 : w.cell? ⟨q, 0, none⟩ = some (.string (bstr x)) := by rw [hb.nm.cell]; rfl
 clear h hb
 generalize createD d x = r at *
 obtain ⟨d2, er⟩ := r
 go_enter Tryz.func132, Tryz.ntmps132
 go_wp2_with fail
 refine HC.out.mono ?_
 rintro e w2 ⟨rfl, ho⟩
 have HO := Lib.hid ho
 clear ho HC c0 c1
 go_wp2_with fail
 go_ret
 exact ⟨_, rfl, rfl, HO.out⟩
theorem make1_on (h : On S w1 w g d k) (hk : k ≤ 89980) {p q r : Nat} {x b : Str} {p0 : Option Addr} {c0 : Nat} (hx : x.length ≤ 100) (hs : Stays S w1 (.slice p0 b.length c0) (b.map u8v)) (hbl : b.length ≤ 1000000000) (hb : Boxes w p q g x) (hr : Blk w r 53 #[.slice p0 b.length c0]) : Calls Tryz.prog 122 #[.pointer (some ⟨p, 0, none⟩), .pointer (some ⟨q, 0, none⟩), .pointer (some ⟨r, 0, none⟩)] w (Says (Tells S w1 g (sAppend x b d) (k + 3))) := by
 have hxm : x.length ≤ maxLen := by unfold maxLen; omega
 have HC := Lib.hid (sappend_on h hk hxm hs hbl)
 have e0 : w.cell? ⟨p, 0, none⟩ = some (.pointer (some ⟨g, 0, none⟩)) := by rw [hb.dp.cell]; rfl
 have e1 : w.cell? ⟨q, 0, none⟩ = some (.string (bstr x)) := by rw [hb.nm.cell]; rfl
 have e2 : w.cell? ⟨r, 0, none⟩ = some (.slice p0 b.length c0) := by rw [hr.cell]; rfl
 clear h hb hs hr
 generalize sAppend x b d = r at *
 obtain ⟨d2, er⟩ := r
 go_enter Tryz.func122, Tryz.ntmps122
 go_wp2_with fail
 refine HC.out.mono ?_
 rintro e w2 ⟨c, rfl, rfl, ho⟩
 have HO := Lib.hid ho
 clear ho HC e0 e1 e2
 go_wp2_with fail
 go_ret
 exact ⟨_, rfl, rfl, HO.out⟩
theorem swap2_on (h : On S w1 w g d k) (hk : k ≤ 89980) {p q r : Nat} {x b : Str} {p0 : Option Addr} {c0 : Nat} (hx : x.length ≤ 100) (hs : Stays S w1 (.slice p0 b.length c0) (b.map u8v)) (hbl : b.length ≤ 1000000000) (hb : Boxes w p q g x) (hr : Blk w r 53 #[.slice p0 b.length c0]) : Calls Tryz.prog 133 #[.pointer (some ⟨p, 0, none⟩), .pointer (some ⟨q, 0, none⟩), .pointer (some ⟨r, 0, none⟩)] w (Says (Tells S w1 g (sAppend x b d) (k + 3))) := by
 have hxm : x.length ≤ maxLen := by unfold maxLen; omega
 have HC := Lib.hid (sappend_on h hk hxm hs hbl)
 have e0 : w.cell? ⟨p, 0, none⟩ = some (.pointer (some ⟨g, 0, none⟩)) := by rw [hb.dp.cell]; rfl
 have e1 : w.cell? ⟨q, 0, none⟩ = some (.string (bstr x)) := by rw [hb.nm.cell]; rfl
 have e2 : w.cell? ⟨r, 0, none⟩ = some (.slice p0 b.length c0) := by rw [hr.cell]; rfl
 clear h hb hs hr
 generalize sAppend x b d = r at *
 obtain ⟨d2, er⟩ := r
 go_enter Tryz.func133, Tryz.ntmps133
 go_wp2_with fail
 refine HC.out.mono ?_
 rintro e w2 ⟨c, rfl, rfl, ho⟩
 have HO := Lib.hid ho
 clear ho HC e0 e1 e2
 go_wp2_with fail
 go_ret
 exact ⟨_, rfl, rfl, HO.out⟩
theorem swap3_on (h : On S w1 w g d k) (hk : k ≤ 89980) {p q r : Nat} {x y : Str} (hx : x.length ≤ 100) (hy : y.length ≤ 100) (hb : Boxes w p q g x) (hr : Blk w r 9 #[.string (bstr y)]) : Calls Tryz.prog 134 #[.pointer (some ⟨p, 0, none⟩), .pointer (some ⟨q, 0, none⟩), .pointer (some ⟨r, 0, none⟩)] w (Says (Tells S w1 g (renameD d x y) (k + 1))) := by
 have HC := Lib.hid (rename_on h (by omega) x y (by omega) (by omega))
 have c0 : w.cell? ⟨p, 0, none⟩ = some (.pointer (some ⟨g, 0, none⟩)) := by rw [hb.dp.cell]; rfl
 have c1 : w.cell? ⟨q, 0, none⟩ = some (.string (bstr x)) := by rw [hb.nm.cell]; rfl
 have c2 : w.cell? ⟨r, 0, none⟩ = some (.string (bstr y)) := by rw [hr.cell]; rfl
 clear h hb hr
 generalize renameD d x y = r at *
 obtain ⟨d2, er⟩ := r
 go_enter Tryz.func134, Tryz.ntmps134
 go_wp2_with fail
 refine HC.out.mono ?_
 rintro e w2 ⟨rfl, ho⟩
 have HO := Lib.hid ho
 clear ho HC c0 c1 c2
 go_wp2_with fail
 go_ret
 exact ⟨_, rfl, rfl, HO.out⟩
end
end Sf
end Go.Proofs.YtcleakjjefmmbaaGreat

/- safe: Make, Drop. -/
namespace Go.Proofs.YtcleakjjefmmbaaGreat
open Go.RowKit
namespace Sf
open Vd
/-- an error that is not the power's: what was made is taken away -/
def tidyD (x : Str) (q : Dsk × Int) : Dsk × Int := if q.2 = 0 ∨ q.2 = 11 then q else ((sUnlink x q.1).1, q.2)
def sMake (x b : Str) (d : Dsk) : Dsk × Int :=
 if hasD d x then (d, 8) else if (createD d x).2 ≠ 0 then createD d x
 else tidyD x (thenD (sAppend x b (createD d x).1) sDir)
def sDrop (x : Str) (d : Dsk) : Dsk × Int := if d.off = false ∧ hasD d x = false then (d, 0) else thenD (unlinkD d x) sDir
section
variable {S : Nat → Prop} {w1 w wb w2 w3 : World} {g : Nat} {d d2 : Dsk} {k k2 : Nat}
theorem off_set (h : On S w1 w g d k) (_h2 : On (More S w1 w) wb w2 g d2 k2) {b : Nat} (h1 : w.heap.size ≤ b) (hlt : b < wb.heap.size) : ¬ More (More S w1 w) wb w2 b := fun hy => by
 have hs := h.mods.size
 rcases hy with (hy | hy) | hy
 ·have := h.lt b hy
  omega
 ·omega
 ·omega
set_option maxRecDepth 100000 in
set_option maxHeartbeats 2000000 in
theorem smake_on (h : On S w1 w g d k) (hk : k ≤ 89970) {x b : Str} {p0 : Option Addr} {c0 : Nat} (hx : x.length ≤ 100) (hs : Stays S w1 (.slice p0 b.length c0) (b.map u8v)) (hbl : b.length ≤ 1000000000) : Calls Tryz.prog 60 #[.pointer (some ⟨g, 0, none⟩), .string (bstr x), .slice p0 b.length c0] w (Says (Tells S w1 g (sMake x b d) (k + 8))) := by
 have H := Lib.hid h
 have HS := Lib.hid hs
 have hxm : x.length ≤ maxLen := by unfold maxLen; omega
 have HX0 : Hid (sMake x b d = if hasD d x then (d, 8) else if (createD d x).2 ≠ 0 then createD d x else tidyD x (thenD (sAppend x b (createD d x).1) sDir)) := Lib.hid rfl
 clear h hs
 go_enter Tryz.func60, Tryz.ntmps60
 go_upto_region 1 with fail
 generalize hW : World.alloc _ _ = wb
 have HB := Lib.hid (show Boxes wb w.heap.size (w.heap.size + 1) g x from by
  rw [← hW]
  exact ⟨((Blk.new _ _ _ rfl).alloc _).alloc _, (Blk.new _ _ _ (by rw [Frm.alloc_size])).alloc _⟩)
 have HR := Lib.hid (show Blk wb (w.heap.size + 1 + 1) 53 #[.slice p0 b.length c0] from by
  rw [← hW]
  exact Blk.new _ _ _ (by rw [Frm.alloc_size, Frm.alloc_size]))
 have HK := Lib.hid (show Keeps w wb from by rw [← hW]; exact (((Keeps.refl _).alloc _).alloc _).alloc _)
 clear hW
 have HOB := Lib.hid (H.out.base HK.out)
 have HHS := Lib.hid (has_on HOB.out x hxm)
 have b0 : wb.cell? ⟨w.heap.size, 0, none⟩ = some (.pointer (some ⟨g, 0, none⟩)) := by rw [HB.out.dp.cell]; rfl
 have b1 : wb.cell? ⟨w.heap.size + 1, 0, none⟩ = some (.string (bstr x)) := by rw [HB.out.nm.cell]; rfl
 cases hh : hasD d x with
 |true =>
  have HX : Hid (sMake x b d = (d, 8)) := Lib.hid (HX0.out.trans (if_pos hh))
  rw [hh] at HHS
  clear hh HX0
  go_wp2_with fail
  refine HHS.out.mono ?_
  rintro e w2 ⟨rfl, rfl⟩
  go_wp2_with fail
  go_ret
  refine ⟨8, rfl, ?_⟩
  rw [HX.out]
  exact ⟨rfl, On.more (H.out.back HK.out HOB.out) (by omega)⟩
 |false =>
  have HX1 := Lib.hid (HX0.out.trans (if_neg (by simp [hh])))
  rw [hh] at HHS
  have HCR := Lib.hid (create_on HOB.out (by omega) x (by omega))
  clear hh HX0
  generalize createD d x = r at *
  obtain ⟨d2, er⟩ := r
  go_wp2_with fail
  refine HHS.out.mono ?_
  rintro e w2 ⟨rfl, rfl⟩
  go_wp2_with fail
  refine HCR.out.mono ?_
  rintro e w2 ⟨rfl, ho2⟩
  have HO2 := Lib.hid ho2
  clear ho2 HCR HHS b0 b1
  by_cases he : er = 0
  ·subst he
   have HX2 : Hid (sMake x b d = tidyD x (thenD (sAppend x b d2) sDir)) := Lib.hid (HX1.out.trans (if_neg (by simp)))
   clear HX1
   have HN : Hid (∀ b, w.heap.size ≤ b → b < wb.heap.size → ¬ More (More S w1 w) wb w2 b) := Lib.hid (fun b h1 h2 => off_set H.out HO2.out h1 h2)
   have HB2 := Lib.hid (show Boxes w2 w.heap.size (w.heap.size + 1) g x from ⟨H.out.blk HO2.out HB.out.dp (Nat.le_refl _), H.out.blk HO2.out HB.out.nm (by omega)⟩)
   have HR2 := Lib.hid (H.out.blk HO2.out HR.out (by omega))
   have hlt : w.heap.size + 1 + 1 < wb.heap.size := HR.out.lt
   obtain ⟨p, hp⟩ : ∃ p, p = w.heap.size := ⟨_, rfl⟩
   rw [← hp] at HB HR HB2 HR2 HN hlt ⊢
   clear hp
   go_wp2_with fail
   generalize hW : World.alloc w2 _ = w3
   have HK3 := Lib.hid (show Keeps w2 w3 from by rw [← hW]; exact (Keeps.refl _).alloc _)
   have HBB := Lib.hid (show Blk w3 w2.heap.size 72 #[cloV (122, #[], #[.pointer (some ⟨p, 0, none⟩), .pointer (some ⟨p + 1, 0, none⟩), .pointer (some ⟨p + 1 + 1, 0, none⟩)]), cloV (123, #[], #[.pointer (some ⟨p, 0, none⟩)])] from by
    rw [← hW]
    exact Blk.new _ _ _ rfl)
   clear hW
   have HO3 := Lib.hid (HO2.out.base HK3.out)
   have HS3 := Lib.hid ((HS.out.base H.out HK.out).base HO2.out HK3.out)
   have HST := Lib.hid (steps2_on HO3.out HBB.out (fun hy => by
     have h0 := HO2.out.mods.size
     rcases hy with hy | hy
     ·have := HO2.out.lt _ hy
      omega
     ·omega) (enters_of Tryz.func122 (by kernel_rfl) rfl _) (enters_of Tryz.func123 (by kernel_rfl) rfl _) (sAppend x b) sDir (k1 := k + 4) (k2 := k + 6) (by omega)
    (fun w' ho => make1_on ho (by omega) hx HS3.out hbl ⟨On.kept ho (HB2.out.dp.keeps HK3.out) (HN.out _ (Nat.le_refl _) (by omega)), On.kept ho (HB2.out.nm.keeps HK3.out) (HN.out _ (by omega) (by omega))⟩ (On.kept ho (HR2.out.keeps HK3.out) (HN.out _ (by omega) hlt)))
    (fun w' d' ho => make2_on ho (by omega) (On.kept ho (HB2.out.dp.keeps HK3.out) (HN.out _ (Nat.le_refl _) (by omega)))))
   generalize thenD (sAppend x b d2) sDir = q at *
   obtain ⟨d4, eq⟩ := q
   refine HST.out.mono ?_
   rintro e w4 ⟨c, rfl, hc, ho⟩
   have hc : c = eq := hc
   subst hc
   have HO4 := Lib.hid ho
   have HB4 := Lib.hid (show Boxes w4 p (p + 1) g x from ⟨On.kept ho (HB2.out.dp.keeps HK3.out) (HN.out _ (Nat.le_refl _) (by omega)), On.kept ho (HB2.out.nm.keeps HK3.out) (HN.out _ (by omega) (by omega))⟩)
   clear ho HST
   have b0 : w4.cell? ⟨p, 0, none⟩ = some (.pointer (some ⟨g, 0, none⟩)) := by rw [HB4.out.dp.cell]; rfl
   have b1 : w4.cell? ⟨p + 1, 0, none⟩ = some (.string (bstr x)) := by rw [HB4.out.nm.cell]; rfl
   by_cases h0 : c = 0
   ·subst h0
    have HX : Hid (sMake x b d = (d4, 0)) := Lib.hid (HX2.out.trans (if_pos (.inl rfl)))
    go_wp2_with fail
    go_ret
    refine ⟨0, rfl, ?_⟩
    rw [HX.out]
    exact ⟨rfl, On.more (H.out.back HK.out (HO2.out.back HK3.out HO4.out)) (by omega)⟩
   ·by_cases h11 : c = 11
    ·subst h11
     have HX : Hid (sMake x b d = (d4, 11)) := Lib.hid (HX2.out.trans (if_pos (.inr rfl)))
     go_wp2_with fail
     go_ret
     refine ⟨11, rfl, ?_⟩
     rw [HX.out]
     exact ⟨rfl, On.more (H.out.back HK.out (HO2.out.back HK3.out HO4.out)) (by omega)⟩
    ·have HX : Hid (sMake x b d = ((sUnlink x d4).1, c)) := Lib.hid (HX2.out.trans (if_neg (by simp [h0, h11])))
     have e1 : (c != 0) = true := by simp [h0]
     have e2 : (c != 11) = true := by simp [h11]
     have HUL := Lib.hid (sunlink_on HO4.out (by omega) x hxm)
     clear h0 h11
     go_wp2_with fail
     refine HUL.out.mono ?_
     rintro e w5 ⟨rfl, ho5⟩
     have HO5 := Lib.hid ho5
     clear ho5 HUL b0 b1
     go_wp2_with fail
     go_ret
     refine ⟨c, rfl, ?_⟩
     rw [HX.out]
     exact ⟨rfl, On.more (H.out.back HK.out (HO2.out.back HK3.out HO5.out)) (by omega)⟩
  ·have HX : Hid (sMake x b d = (d2, er)) := Lib.hid (HX1.out.trans (if_pos he))
   have he' : (er != 0) = true := by simp [he]
   clear he
   go_wp2_with fail
   go_ret
   refine ⟨er, rfl, ?_⟩
   rw [HX.out]
   exact ⟨rfl, On.more (H.out.back HK.out HO2.out) (by omega)⟩
end
end Sf
end Go.Proofs.YtcleakjjefmmbaaGreat

/- safe: Drop. -/
namespace Go.Proofs.YtcleakjjefmmbaaGreat
open Go.RowKit
namespace Sf
open Vd
section
variable {S : Nat → Prop} {w1 w wb w2 w3 : World} {g : Nat} {d d2 : Dsk} {k k2 : Nat}
set_option maxRecDepth 100000 in
set_option maxHeartbeats 2000000 in
theorem sdrop_on (h : On S w1 w g d k) (hk : k ≤ 89970) {x : Str} (hx : x.length ≤ 100) : Calls Tryz.prog 45 #[.pointer (some ⟨g, 0, none⟩), .string (bstr x)] w (Says (Tells S w1 g (sDrop x d) (k + 3))) := by
 have H := Lib.hid h
 have hxm : x.length ≤ maxLen := by unfold maxLen; omega
 have HX0 : Hid (sDrop x d = if d.off = false ∧ hasD d x = false then (d, 0) else thenD (unlinkD d x) sDir) := Lib.hid rfl
 clear h
 go_enter Tryz.func45, Tryz.ntmps45
 go_upto_region 1 with fail
 generalize hW : World.alloc _ _ = wb
 have HB := Lib.hid (show Boxes wb w.heap.size (w.heap.size + 1) g x from by
  rw [← hW]
  exact ⟨(Blk.new _ _ _ rfl).alloc _, Blk.new _ _ _ (by rw [Frm.alloc_size])⟩)
 have HK := Lib.hid (show Keeps w wb from by rw [← hW]; exact ((Keeps.refl _).alloc _).alloc _)
 clear hW
 have HOB := Lib.hid (H.out.base HK.out)
 have HHS := Lib.hid (has_on HOB.out x hxm)
 have HDN := Lib.hid (down_any wb HOB.out.dsk)
 have b0 : wb.cell? ⟨w.heap.size, 0, none⟩ = some (.pointer (some ⟨g, 0, none⟩)) := by rw [HB.out.dp.cell]; rfl
 have b1 : wb.cell? ⟨w.heap.size + 1, 0, none⟩ = some (.string (bstr x)) := by rw [HB.out.nm.cell]; rfl
 have hlt : w.heap.size + 1 < wb.heap.size := HB.out.nm.lt
 have HN : Hid (∀ b, w.heap.size ≤ b → b < wb.heap.size → ¬ More S w1 w b) := Lib.hid (fun b h1 h2 hy => by
  have hs := H.out.mods.size
  rcases hy with hy | hy
  ·have := H.out.lt b hy
   omega
  ·omega)
 obtain ⟨p, hp⟩ : ∃ p, p = w.heap.size := ⟨_, rfl⟩
 rw [← hp] at HB b0 b1 HN hlt ⊢
 clear hp
 go_cut [13] (fun t wx => t = .bool (!d.off && !hasD d x) ∧ wx = wb)
 case first =>
  cases ho : d.off with
  |true =>
   rw [ho] at HDN
   have HO := Lib.hid ho
   clear ho
   go_wp2_with fail
   refine HDN.out.mono ?_
   rintro e w2 ⟨rfl, rfl⟩
   go_wp2_with fail
   go_meet
   exact ⟨by rw [HO.out]; rfl, rfl⟩
  |false =>
   rw [ho] at HDN
   have HO := Lib.hid ho
   clear ho
   generalize hasD d x = hh at *
   go_wp2_with fail
   refine HDN.out.mono ?_
   rintro e w2 ⟨rfl, rfl⟩
   go_wp2_with fail
   refine HHS.out.mono ?_
   rintro e w2 ⟨rfl, rfl⟩
   go_wp2_with fail
   go_meet
   exact ⟨by rw [HO.out]; rfl, rfl⟩
 case rest =>
 obtain ⟨rfl, rfl⟩ := hcut
 obtain ⟨wb, rfl⟩ : ∃ z : World, z = wc := ⟨_, rfl⟩
 clear HHS HDN b0 b1
 by_cases hc : d.off = false ∧ hasD d x = false
 ·have HX : Hid (sDrop x d = (d, 0)) := Lib.hid (HX0.out.trans (if_pos hc))
  have ht : (!d.off && !hasD d x) = true := by simp [hc.1, hc.2]
  rw [ht]
  clear hc ht
  go_wp2_with fail
  go_ret
  refine ⟨0, rfl, ?_⟩
  rw [HX.out]
  exact ⟨rfl, On.more (H.out.back HK.out HOB.out) (by omega)⟩
 ·have HX : Hid (sDrop x d = thenD (unlinkD d x) sDir) := Lib.hid (HX0.out.trans (if_neg hc))
  have ht : (!d.off && !hasD d x) = false := by
   cases h1 : d.off <;> cases h2 : hasD d x <;> simp_all
  rw [ht]
  clear hc ht
  go_wp2_with fail
  generalize hW : World.alloc wb _ = w3
  have HK3 := Lib.hid (show Keeps wb w3 from by rw [← hW]; exact (Keeps.refl _).alloc _)
  have HBB := Lib.hid (show Blk w3 wb.heap.size 72 #[cloV (93, #[], #[.pointer (some ⟨p, 0, none⟩), .pointer (some ⟨p + 1, 0, none⟩)]), cloV (94, #[], #[.pointer (some ⟨p, 0, none⟩)])] from by
   rw [← hW]
   exact Blk.new _ _ _ rfl)
  clear hW
  have HO3 := Lib.hid (HOB.out.base HK3.out)
  have HN3 : Hid (∀ b, p ≤ b → b < wb.heap.size → ¬ More (More S w1 w) wb wb b) := Lib.hid (fun b h1 h2 hy => hy.elim (HN.out b h1 h2) (fun hh => by omega))
  have HST := Lib.hid (steps2_on HO3.out HBB.out (fun hy => by
    rcases hy with hy | hy
    ·have := HOB.out.lt _ hy
     omega
    ·omega) (enters_of Tryz.func93 (by kernel_rfl) rfl _) (enters_of Tryz.func94 (by kernel_rfl) rfl _) (fun d => unlinkD d x) sDir (k1 := k + 1) (k2 := k + 3) (by omega)
   (fun w' ho => drop1_on ho (by omega) hx ⟨On.kept ho (HB.out.dp.keeps HK3.out) (HN3.out _ (Nat.le_refl _) (by omega)), On.kept ho (HB.out.nm.keeps HK3.out) (HN3.out _ (by omega) hlt)⟩)
   (fun w' d' ho => drop2_on ho (by omega) (On.kept ho (HB.out.dp.keeps HK3.out) (HN3.out _ (Nat.le_refl _) (by omega)))))
  refine HST.out.mono ?_
  rintro e w4 ⟨c, rfl, rfl, ho⟩
  have HO4 := Lib.hid ho
  clear ho HST
  go_wp2_with fail
  go_ret
  refine ⟨_, rfl, ?_⟩
  rw [HX.out]
  exact ⟨rfl, H.out.back HK.out (HOB.out.back HK3.out HO4.out)⟩
end
end Sf
end Go.Proofs.YtcleakjjefmmbaaGreat

/- The document's disk: Find, Unlink, SyncDir, Arm, Failing. -/
namespace Go.Proofs.YtcleakjjefmmbaaGreat
open Go.RowKit
namespace Rf
open Vd
section
variable {w : World} {M : Nat → Prop} {m : Nat} {d : RDsk} {k : Nat}
def armR (n e : Int) : Int := if n < 0 ∨ e = 0 then -1 else n
def failingR (n e : Int) : Int := if e = 11 then -1 else armR n e
end
end Rf
end Go.Proofs.YtcleakjjefmmbaaGreat

/- The document's disk: New of no files. -/
namespace Go.Proofs.YtcleakjjefmmbaaGreat
open Go.RowKit
namespace Rf
open Vd
def rd0 (cap : Int) : RDsk := ⟨[], [], [], [], cap, false, 0, -1, -1, 0⟩
end Rf
end Go.Proofs.YtcleakjjefmmbaaGreat

/- The disk and the document's disk side by side, behind a world of the law's; blocks L that are neither's. -/
namespace Go.Proofs.YtcleakjjefmmbaaGreat
open Go.RowKit
namespace Rf
open Vd
open Go.Maps
section
variable {L : List Nat} {W w wb w' : World} {g m : Nat} {d d' : Dsk} {r r' : RDsk} {k k' : Nat} {S M : Nat → Prop}
theorem Few.cnt {d : Dsk} {k : Nat} (h : Few d k) (hk : k ≤ 90000) : -1 ≤ d.count ∧ d.count ≤ 9000000000000000000 := by
 have h0 := h.c0
 have h1 := h.c1
 omega
end
end Rf
end Go.Proofs.YtcleakjjefmmbaaGreat

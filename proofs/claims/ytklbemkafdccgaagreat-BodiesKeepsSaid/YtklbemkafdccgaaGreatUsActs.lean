/- users: AddUser, SetLimit, DropUser, DropAlias, Find, Domain. -/
import Derived.Test.YtklbemkafdccgaaGreatK05
import Derived.Test.YtklbemkafdccgaaGreatK00
import Derived.Test.YtklbemkafdccgaaGreatK02
import Derived.Test.YtklbemkafdccgaaGreatK01
import Derived.Test.YtklbemkafdccgaaGreatK06
import Derived.Test.YtklbemkafdccgaaGreatDrawn
import Derived.Deep.DeepCutAuto
namespace Go.Proofs.YtklbemkafdccgaaGreat
open Go.RowKit
namespace Usr
open Adr (Str)
open Mp Go.Maps
theorem usrM : Mids Tryz.prog 42 4 := ⟨⟨_, Tryz.underlying42, rfl⟩, by kernel_rfl⟩
/-- the table's blocks -/
def TFr (g b1 b2 : Nat) (x : Nat) : Prop := x = g ∨ x = b1 ∨ x = b2
/-- what a table's act answers -/
def ActDid (W : World) (g b1 b2 n : Nat) (t : TabP) (e : Ending) (v : Value) (w' : World) : Prop := e = .returned v ∧ TabAt w' g b1 b2 (n + 1) t ∧ Mods (TFr g b1 b2) W w'
section
variable {w : World} {g b1 b2 n : Nat} {t : TabP}
theorem TabAt.cells (h : TabAt w g b1 b2 n t) : w.cell? ⟨g, 0, none⟩ = some (.string (bstr t.dom)) ∧ w.cell? ⟨g, 1, none⟩ = some (.int .i64 t.next) ∧ w.cell? ⟨g, 2, none⟩ = some (.map (some b1)) ∧ w.cell? ⟨g, 3, none⟩ = some (.map (some b2)) := by
 refine ⟨?_, ?_, ?_, ?_⟩ <;> (rw [h.blk.cell]; rfl)
end
set_option maxRecDepth 100000 in
theorem find_any (w : World) (g b1 b2 n : Nat) (t : TabP) (h : TabAt w g b1 b2 n t) (name : Str) (hl : name.length ≤ maxLen) : Calls Tryz.prog 15 #[.pointer (some ⟨g, 0, none⟩), .string (bstr name)] w fun e w' => e = .returned (.tuple #[usrV ((findU t name).getD zeroU), .bool (findU t name).isSome]) ∧ Keeps w w' := by
 have HK := Lib.hid (show Keeps w (w.alloc (.cells #[.int .i64 0, .string ⟨#[]⟩, .int .i64 0, .int .i64 0] 42)) from (Keeps.refl _).alloc _)
 have HR := Lib.hid (Blk.new w 42 #[.int .i64 0, .string ⟨#[]⟩, .int .i64 0, .int .i64 0] rfl)
 have HH := Lib.hid (h.keeps HK.out)
 obtain ⟨u, hu⟩ : ∃ u, (findU t name).getD zeroU = u := ⟨_, rfl⟩
 obtain ⟨is, his⟩ : ∃ b, (findU t name).isSome = b := ⟨_, rfl⟩
 have hlk := HH.out.lookU hl
 rw [hu, his] at hlk ⊢
 obtain ⟨un, unm, ub, uc⟩ := u
 unfold usrV usrA at hlk ⊢
 simp only at hlk ⊢
 clear hu his h
 go_enter Tryz.func15, Tryz.ntmps15
 go_upto_region 1 with fail
 generalize w.alloc (.cells #[.int .i64 0, .string ⟨#[]⟩, .int .i64 0, .int .i64 0] 42) = w1 at *
 obtain ⟨r, hr⟩ : ∃ z, w.heap.size = z := ⟨_, rfl⟩
 have HRW := Lib.hid (show w.heap.size ≤ r by omega)
 rw [hr] at HR ⊢
 clear hr
 obtain ⟨-, -, c2, -⟩ := HH.out.cells
 go_upto_region 2 with fail
 generalize hW : World.alloc w1 _ = w2
 obtain ⟨q, hq⟩ : ∃ q, q = w1.heap.size := ⟨_, rfl⟩
 have HU := Lib.hid (show Blk w2 q 42 #[.int .i64 un, .string (bstr unm), .int .i64 ub, .int .i64 uc] from by rw [← hW]; exact Blk.new _ _ _ hq)
 have HR2 := Lib.hid (show Blk w2 r 42 #[.int .i64 0, .string ⟨#[]⟩, .int .i64 0, .int .i64 0] from by rw [← hW]; exact HR.out.alloc _)
 have HK2 := Lib.hid (show Keeps w w2 from by rw [← hW]; exact HK.out.alloc _)
 rw [← hq]
 clear hW hq HR HK HH hlk c2
 go_wp2_with (first | refine wpList_ld rfl usrM HU.out _ rfl rfl ?_ | (refine wpList_st (ds := #[.int .i64 un, .string (bstr unm), .int .i64 ub, .int .i64 uc]) rfl usrM HR2.out rfl (by simp [Value.oneCell']) _ _ rfl rfl rfl rfl ?_; intro yF hBF hMF; have FF := Lib.hid (show yF.cell? ⟨r, 0, none⟩ = some (.int .i64 un) ∧ yF.cell? ⟨r, 1, none⟩ = some (.string (bstr unm)) ∧ yF.cell? ⟨r, 2, none⟩ = some (.int .i64 ub) ∧ yF.cell? ⟨r, 3, none⟩ = some (.int .i64 uc) from ⟨by rw [hBF.cell]; rfl, by rw [hBF.cell]; rfl, by rw [hBF.cell]; rfl, by rw [hBF.cell]; rfl⟩); have HKF := Lib.hid (hMF.keeps HK2.out (fun x hx => by rw [hx]; exact HRW.out)); clear hBF hMF))
 exact bodyPost_ret (v := .tuple #[.agg #[.int .i64 un, .string (bstr unm), .int .i64 ub, .int .i64 uc], .bool is]) (by simp [results, Tryz.results15, go_sem, FF.out.1, FF.out.2.1, FF.out.2.2.1, FF.out.2.2.2]) rfl ⟨rfl, HKF.out⟩
def Acted (W : World) (g b1 b2 n : Nat) (r : TabP × Int × Int) (e : Ending) (w' : World) : Prop := e = .returned (.tuple #[.int .i64 r.2.1, .int .i64 r.2.2]) ∧ TabAt w' g b1 b2 (n + 1) r.1 ∧ Mods (TFr g b1 b2) W w'
def ActedE (W : World) (g b1 b2 n : Nat) (r : TabP × Int × Int) (e : Ending) (w' : World) : Prop := e = .returned (.int .i64 r.2.2) ∧ TabAt w' g b1 b2 (n + 1) r.1 ∧ Mods (TFr g b1 b2) W w'
end Usr
end Go.Proofs.YtklbemkafdccgaaGreat

/- users: AddUser, SetLimit, DropUser, DropAlias, Find, Domain. -/
import Derived.Test.YtklbemkafdccgaaGreatK08
import Derived.Test.YtklbemkafdccgaaGreatK04
import Derived.Test.YtklbemkafdccgaaGreatK09
import Derived.Test.YtklbemkafdccgaaGreatDrawn
import Derived.Deep.DeepCutAuto
namespace Go.Proofs.YtklbemkafdccgaaGreat
open Go.RowKit
namespace Usr
open Adr (Str)
open Mp Go.Maps
theorem usrM : Mids Tryz.prog 42 4 := ⟨⟨_, Tryz.underlying42, rfl⟩, by kernel_rfl⟩
/-- the table's blocks -/
def TFr (g b1 b2 : Nat) (x : Nat) : Prop := x = g ∨ x = b1 ∨ x = b2
/-- what a table's act answers -/
def ActDid (W : World) (g b1 b2 n : Nat) (t : TabP) (e : Ending) (v : Value) (w' : World) : Prop := e = .returned v ∧ TabAt w' g b1 b2 (n + 1) t ∧ Mods (TFr g b1 b2) W w'
section
variable {w : World} {g b1 b2 n : Nat} {t : TabP}
theorem TabAt.cells (h : TabAt w g b1 b2 n t) : w.cell? ⟨g, 0, none⟩ = some (.string (bstr t.dom)) ∧ w.cell? ⟨g, 1, none⟩ = some (.int .i64 t.next) ∧ w.cell? ⟨g, 2, none⟩ = some (.map (some b1)) ∧ w.cell? ⟨g, 3, none⟩ = some (.map (some b2)) := by
 refine ⟨?_, ?_, ?_, ?_⟩ <;> (rw [h.blk.cell]; rfl)
end
theorem domain_tab (w : World) (g b1 b2 n : Nat) (t : TabP) (h : TabAt w g b1 b2 n t) : Calls Tryz.prog 32 #[.pointer (some ⟨g, 0, none⟩)] w fun e w' => e = .returned (.string (bstr t.dom)) ∧ w = w' := by
 obtain ⟨c0, -⟩ := h.cells
 clear h
 go_enter Tryz.func32, Tryz.ntmps32
 go_wp2_with fail
 go_ret
 exact ⟨rfl, rfl⟩
/-- a new user: the table behind it -/
theorem addU_ok {t : TabP} {name : Str} {b c : Int} (h1 : nameB name = true) (h2 : limB b c = true) (h3 : name ∉ namesU t) (h4 : name ∉ namesA t) (h5 : t.us.length ≠ 16) (h6 : t.next ≤ 999) : addU t name b c = ({ t with us := t.us ++ [⟨t.next, name, b, c⟩], next := t.next + 1 }, t.next, 0) := by
 unfold addU
 rw [if_neg (by simp [h1]), if_neg (by simp [h2]), if_neg (by simp [h3, h4]), if_neg (by simp [h5]; omega)]
def Acted (W : World) (g b1 b2 n : Nat) (r : TabP × Int × Int) (e : Ending) (w' : World) : Prop := e = .returned (.tuple #[.int .i64 r.2.1, .int .i64 r.2.2]) ∧ TabAt w' g b1 b2 (n + 1) r.1 ∧ Mods (TFr g b1 b2) W w'
def ActedE (W : World) (g b1 b2 n : Nat) (r : TabP × Int × Int) (e : Ending) (w' : World) : Prop := e = .returned (.int .i64 r.2.2) ∧ TabAt w' g b1 b2 (n + 1) r.1 ∧ Mods (TFr g b1 b2) W w'
theorem look_forms {w : World} {g b1 b2 n : Nat} {t : TabP} (h : TabAt w g b1 b2 n t) {name : Str} (hl : name.length ≤ maxLen) : ∃ (un : Int) (us : ByteArray) (ub uc : Int), (Instr.lookup 81 (.map (some b1)) (.string (bstr name)) true).run Tryz.prog w = .ok (.tuple #[.agg #[.int .i64 un, .string us, .int .i64 ub, .int .i64 uc], .bool (decide (name ∈ namesU t))]) w ∧ (∀ u, findU t name = some u → un = u.n ∧ us = bstr u.name ∧ ub = u.lb ∧ uc = u.lc) := by
 have hlk := h.lookU hl
 rw [findU_some] at hlk
 refine ⟨_, _, _, _, hlk, fun u hu => ?_⟩
 rw [hu]
 exact ⟨rfl, rfl, rfl, rfl⟩
theorem lookA_forms {w : World} {g b1 b2 n : Nat} {t : TabP} (h : TabAt w g b1 b2 n t) {name : Str} (hl : name.length ≤ maxLen) : ∃ (sa : ByteArray) (pa : Option Addr) (na ca : Nat), (Instr.lookup 82 (.map (some b2)) (.string (bstr name)) true).run Tryz.prog w = .ok (.tuple #[.agg #[.string sa, .slice pa na ca], .bool (decide (name ∈ namesA t))]) w := by
 obtain ⟨a, hlk, -⟩ := h.lookA hl
 exact ⟨_, _, _, _, hlk⟩
set_option maxRecDepth 100000 in
theorem has_any (w : World) (g b1 b2 n : Nat) (t : TabP) (h : TabAt w g b1 b2 n t) (name : Str) (hl : name.length ≤ maxLen) : Calls Tryz.prog 91 #[.pointer (some ⟨g, 0, none⟩), .string (bstr name)] w fun e w' => e = .returned (.bool (decide (name ∈ namesU t) || decide (name ∈ namesA t))) ∧ Keeps w w' := by
 have HH := Lib.hid h
 obtain ⟨un, us, ub, uc, hlk, -⟩ := look_forms h hl
 obtain ⟨-, -, c2, c3⟩ := h.cells
 obtain ⟨iu, hiu⟩ : ∃ b, decide (name ∈ namesU t) = b := ⟨_, rfl⟩
 obtain ⟨ia, hia⟩ : ∃ b, decide (name ∈ namesA t) = b := ⟨_, rfl⟩
 have HIA := Lib.hid hia
 rw [hiu] at hlk
 rw [hiu, hia]
 clear hiu hia h
 go_enter Tryz.func91, Tryz.ntmps91
 go_upto_region 2 with fail
 generalize hW : World.alloc w _ = w1
 have HK := Lib.hid (show Keeps w w1 from by rw [← hW]; exact (Keeps.refl _).alloc _)
 clear hW hlk c2 c3
 have HH1 := Lib.hid (HH.out.keeps HK.out)
 obtain ⟨sa, pa, na, ca, hla⟩ := lookA_forms HH1.out hl
 obtain ⟨-, -, c2, c3⟩ := HH1.out.cells
 rw [HIA.out] at hla
 go_upto_region 3 with fail
 generalize hW : World.alloc w1 _ = w2
 have HK2 := Lib.hid (show Keeps w w2 from by rw [← hW]; exact HK.out.alloc _)
 clear hW hla c2 c3
 cases iu <;> cases ia <;>
 ·go_wp2_with fail
  go_ret
  exact ⟨rfl, HK2.out⟩
end Usr
end Go.Proofs.YtklbemkafdccgaaGreat

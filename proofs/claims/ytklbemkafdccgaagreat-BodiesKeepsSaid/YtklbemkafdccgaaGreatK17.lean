/- Several texts in one: UsSeen, UsAlias. -/
import Derived.Test.YtklbemkafdccgaaGreatUsActs
import Derived.StillTailTactics
import Derived.Deep.LoopGhost
import Derived.Test.YtklbemkafdccgaaGreatK01
import Derived.Lib.LazyBuf
/- users: counts by names in a map; areNames. -/
namespace Go.Proofs.YtklbemkafdccgaaGreat
open Go.RowKit
namespace Usr
open Adr (Str)
open Mp Go.Maps
def numElem : Value → Option (DataW Unit × List MemPlace)
 | .int .i64 a => some (.lit (.int .i64 a), [])
 | _ => none
def numD (n : Int) : DataW Unit := .lit (.int .i64 n)
theorem numElem_inv {v : Value} {n : Int} {ps : List MemPlace} (h : numElem v = some (numD n, ps)) : v = .int .i64 n := by
 unfold numElem at h
 split at h
 ·simp only [Option.some.injEq, Prod.mk.injEq, numD, DataW.lit.injEq, Lit.int.injEq, true_and] at h
  rw [h.1]
 ·cases h
theorem zeroN_run (w : World) : (zeroValue 3).run Tryz.prog w = .ok (.int .i64 0) w := by kernel_rfl
/-- counts by names -/
def CntAt (w : World) (b n : Nat) (L : List (Str × Int)) : Prop := ∃ D, w.ownsMap Tryz.prog 9 numElem b n D ∧ MapOf strL numD D L
section
variable {w w' : World} {b n : Nat} {L : List (Str × Int)}
theorem CntAt.new (w : World) : CntAt (w.alloc (.map #[] 0)) w.heap.size 0 [] := ⟨_, World.ownsMap_made w Tryz.prog 9 numElem, MapOf.new⟩
theorem CntAt.keeps (h : CntAt w b n L) (k : Keeps w w') : CntAt w' b n L := let ⟨D, h1, h2⟩ := h; ⟨D, map_keepsS h1 k, h2⟩
theorem CntAt.mods {S : Nat → Prop} (h : CntAt w b n L) (k : Mods S w w') (hn : ¬ S b) : CntAt w' b n L := let ⟨D, h1, h2⟩ := h; ⟨D, map_modsS h1 k hn, h2⟩
theorem CntAt.lt (h : CntAt w b n L) : b < w.heap.size := let ⟨_, h1, _⟩ := h; h1.lt
theorem CntAt.get (h : CntAt w b n L) {s : Str} (hs : s.length ≤ maxLen) : (Instr.lookup 120 (.map (some b)) (.string (bstr s)) false).run Tryz.prog w = .ok (.int .i64 ((Mp.look L s).getD 0)) w := by
 obtain ⟨D, h1, h2⟩ := h
 obtain ⟨v, ps, hrun, hv⟩ := look_plain h1 strKeyed Tryz.underlying120 (zeroN_run w) (zd := numD 0) (zp := []) rfl (key_str hs)
 rw [show D.atKey (Lit.string s) (numD 0) = _ from h2.at_ strKind s 0] at hv
 rw [hrun, numElem_inv hv]
theorem CntAt.set_ (h : CntAt w b n L) (hn : n < 1000000) {s : Str} (hs : s.length ≤ maxLen) (v : Int) : ∃ w', (Instr.mapUpdate 120 (.map (some b)) (.string (bstr s)) (.int .i64 v)).run Tryz.prog w = .ok () w' ∧ CntAt w' b (n + 1) (Mp.putL L s v) ∧ Mods (· = b) w w' := by
 obtain ⟨D, h1, h2⟩ := h
 obtain ⟨w', hrun, ho, ht⟩ := h1.store strKeyed Tryz.underlying120 (by unfold maxLen; omega) (val := .int .i64 v) (d := numD v) (ps := []) (key_str hs) rfl
 exact ⟨w', hrun, ⟨_, ho, h2.put strKind s v⟩, turnedS ht⟩
end
/-- each name once -/
def ones (l : List Str) : List (Str × Int) := l.map fun s => (s, 1)
theorem look_put {α : Type} (L : List (Str × α)) (s : Str) (v : α) : Mp.look (Mp.putL L s v) s = some v := by
 unfold Mp.putL Mp.look
 rw [List.find?_append]
 have : (Mp.del L s).find? (fun p => decide (p.1 = s)) = none := by
  rw [List.find?_eq_none]
  intro p hp
  have := (List.mem_filter.1 hp).2
  simpa using this
 rw [this]
 simp
end Usr
end Go.Proofs.YtklbemkafdccgaaGreat

/- users: slices.Clone of texts; AddAlias. -/
namespace Go.Proofs.YtklbemkafdccgaaGreat
open Go.RowKit
namespace Usr
open Adr (Str)
open Mp Go.Maps
theorem txok : ElemOk Tryz.prog 37 9 16 := elemOk (z := .string (bstr [])) Tryz.underlying37 (by kernel_rfl) rfl
theorem oneCell_strs (l : List Str) : ∀ u ∈ l.map strV, u.oneCell' = true := by
 intro u hu
 obtain ⟨x, -, rfl⟩ := List.mem_map.1 hu
 rfl
/-- a clone: a slice of its own, or nil -/
def CloneDid (W : World) (l : List Str) (e : Ending) (w' : World) : Prop := ∃ v, e = .returned v ∧ Own w' W.heap.size 9 v (l.map strV) ∧ Keeps W w'
set_option maxRecDepth 100000 in
theorem clone_any (w : World) (v : Value) (l : List Str) (hr : Row w v (l.map strV)) (hl : l.length ≤ 100000) : Calls Tryz.prog 93 #[v] w (CloneDid w l) := by
 obtain ⟨p, cap, hv, -, -⟩ := hr.form
 rw [List.length_map] at hv
 subst hv
 have hnil : ∀ W, (binOp .eql 37 (.slice p l.length cap) (.slice none 0 0)).run Tryz.prog W = .ok (.bool p.isNone) W := fun W => Lib.run_eql_slice_nil W _ _ _ _ _ _ _ Tryz.underlying37
 cases p with
 |none =>
  have hl0 : l = [] := by
   rcases hr with ⟨a0, cap, h1, h2, -, -⟩ | ⟨b, off, cap, h1, -⟩
   ·simpa using h2
   ·simp at h1
  subst hl0
  simp only [Option.isNone, List.length_nil] at hnil
  clear hr
  go_enter Tryz.func93, Tryz.ntmps93
  go_wp2_with fail
  go_ret
  exact ⟨_, rfl, Own.nil _ _ _, Keeps.refl _⟩
 |some a =>
  simp only [Option.isNone] at hnil
  have HZ0 := Lib.hid (show Own (w.alloc (.cells #[] 9)) w.heap.size 9 (.slice (some ⟨w.heap.size, 0, none⟩) 0 0) [] from ⟨by simp, .inr ⟨w.heap.size, 0, #[], rfl, Nat.le_refl _, Blk.new _ _ _ rfl, Nat.le_refl _, by decide, by simp, by simp⟩⟩)
  have HZ1 := Lib.hid (show Row (w.alloc (.cells #[] 9)) (.slice (some a) l.length cap) (l.map strV) from hr.keeps ((Keeps.refl _).alloc _))
  have HLB := Lib.hid (show (([] : List Value).length + (l.map strV).length) * 16 ≤ 70368744177664 from by rw [List.length_map]; simp only [List.length_nil]; omega)
  have HWA := Lib.hid (show w.heap.size ≤ (w.alloc (.cells #[] 9)).heap.size from ((Keeps.refl w).alloc (.cells #[] 9)).size)
  clear hr
  go_enter Tryz.func93, Tryz.ntmps93
  go_wp2_with (at_builtin; refine wpList_app1 (base := w.heap.size) txok rfl _ _ rfl (.slice (some ⟨w.heap.size, 0, none⟩) 0 0) (.slice (some a) l.length cap) [] (l.map strV) rfl rfl HZ0.out HZ1.out (oneCell_strs _) HLB.out (by decide) HWA.out ?_; intro v5 w5 ho5 hg5 hf5; rw [List.nil_append] at ho5; have HO5 := Lib.hid ho5; have HK5 := Lib.hid (show Keeps w w5 from ((Keeps.refl _).alloc _).grown hg5 (fun x hx => by simp [Value.ownBlock] at hx; omega)); clear ho5 hg5 hf5)
  go_ret
  exact ⟨_, rfl, HO5.out, HK5.out⟩
end Usr
end Go.Proofs.YtklbemkafdccgaaGreat

/- Several texts in one: SfSwap, SfAwake, SfBooted, SfSwPlain, SfSwRes, SafeSwaps, SfSurePlain, SafeSure. -/
import Derived.Test.YtchjncnolmiejaaK35
import Derived.Test.YtchjncnolmiejaaFrameRef
/- safe: Swap. -/
namespace Go.Proofs.Ytchjncnolmiejaa
open Go.RowKit
namespace Sf
open Vd
def dotN : Str := [46, 110]
/-- the new file is taken away, if it is there still -/
def tidyS (n : Str) (q : Dsk × Int) : Dsk × Int := if q.2 = 0 ∨ q.2 = 11 ∨ hasD q.1 n = false then q else ((sUnlink n q.1).1, q.2)
def sSwap1 (x n b : Str) (d : Dsk) : Dsk × Int := tidyS n (thenD (thenD (thenD (createD d n) (sAppend n b)) (fun d => renameD d n x)) sDir)
def sSwap (x b : Str) (d : Dsk) : Dsk × Int :=
  if 30 < x.length then (d, 3) else if hasD d (x ++ dotN) then (if (unlinkD d (x ++ dotN)).2 ≠ 0 then unlinkD d (x ++ dotN) else sSwap1 x (x ++ dotN) b (unlinkD d (x ++ dotN)).1) else sSwap1 x (x ++ dotN) b d
section
variable {S : Nat → Prop} {w1 w wb w2 w3 : World} {g : Nat} {d d2 : Dsk} {k k2 : Nat}
end
end Sf
end Go.Proofs.Ytchjncnolmiejaa

/- law16's awake. -/
namespace Go.Proofs.Ytchjncnolmiejaa
open Go.RowKit
namespace Sf
open Vd
def as1 : Dsk := (sSwap nA [120, 121] aw0).1
def as2 : Dsk := (sMake nA [] as1).1
def as3 : Dsk := (sAppend nA [122] as2).1
def as4 : Dsk := (sDrop nA as3).1
theorem as1_e : (sSwap nA [120, 121] aw0).2 = 0 := by kernel_rfl
theorem as1_c : as1.count = 5 := by kernel_rfl
theorem as1_h : hasD as1 nA = true := by kernel_rfl
theorem as1_n : hasD as1 [97, 46, 110] = false := by kernel_rfl
theorem as2_e : (sMake nA [] as1).2 = 8 := by kernel_rfl
theorem as3_e : (sAppend nA [122] as2).2 = 0 := by kernel_rfl
theorem as4_e : (sDrop nA as3).2 = 0 := by kernel_rfl
theorem as4_h : hasD as4 nA = false := by kernel_rfl
/-- a slice in W, or made behind the disk -/
theorem stays_keeps {W : World} {v : Value} {l : List Value} (h : Row W v l) : Stays (fun _ => False) W v l := fun _ hm => h.keeps (hm.keeps (Keeps.refl _) (fun y hy => hy.elim))
theorem stays_lit {S : Nat → Prop} {w1 w : World} {b n c : Nat} {l : List Value} (h : Row w (.slice (some ⟨b, 0, none⟩) n c) l) (hn : ¬ S b) (hw : w = w1) : Stays S w1 (.slice (some ⟨b, 0, none⟩) n c) l := fun _ hm => by subst hw; exact row_modsB h hm hn
end Sf
end Go.Proofs.Ytchjncnolmiejaa

/- law16's booted; the disk by its shape and its traps. -/
namespace Go.Proofs.Ytchjncnolmiejaa
open Go.RowKit
namespace Sf
open Vd
def downD (d : Dsk) : Dsk := if d.off then d else (syncDirD { d with crash := setT 0 11 }).1
theorem downD_go {d : Dsk} (h : d.off = false) : downD d = { d with off := true, count := d.count + 1, fail := ((springT d.fail.1).1, d.fail.2), crash := (-1, 11) } := by
  unfold downD
  rw [if_neg (by simp [h])]
  have := (op_down (change_crash (d := { d with crash := setT 0 11 }) h spring_0) [] [] []).2.2.2.2.2
  rw [this]
  rfl
theorem downD_off (d : Dsk) : (downD d).off = true := by
  cases h : d.off with
  | true => unfold downD; rw [if_pos h]; exact h
  | false => rw [downD_go h]
section
variable {W w : World} {g : Nat} {d : Dsk} {k : Nat}
end
/-- a disk's nodes, names and turns -/
structure Shp where
  nodes : List Nod
  seen : Nms
  sure : Nms
  moves : List Mv
def Wd (room : Int) (sh : Shp) (off : Bool) (n : Int) (f k : Int × Int) : Dsk := ⟨room, sh.nodes, sh.seen, sh.sure, sh.moves, off, n, f, k⟩
/-- the traps are as they may be: a call fails by 10 -/
structure Tr (f k : Int × Int) : Prop where
  f1 : -1 ≤ f.1
  k1 : -1 ≤ k.1
  f2 : 0 ≤ f.1 → f.2 = 10
theorem spring_two (x : Int) (h : -1 ≤ x) : springT x = (-1, true) ∧ 0 ≤ x ∨ ∃ y, -1 ≤ y ∧ springT x = (y, false) ∧ (x = -1 → y = -1) ∧ (0 ≤ y → 0 ≤ x) := by
  rcases (show x = -1 ∨ x = 0 ∨ 1 ≤ x by omega) with e | e | e
  · exact .inr ⟨-1, by omega, by rw [e]; exact spring_neg, fun _ => rfl, by omega⟩
  · exact .inl ⟨by rw [e]; exact spring_0, by omega⟩
  · exact .inr ⟨x - 1, by omega, spring_pos e, by omega, by omega⟩
section
variable {room : Int} {sh sh' : Shp} {n : Int} {f k : Int × Int}
theorem change_fail {d : Dsk} (h : d.off = false) {k' f' : Int} (hk : springT d.crash.1 = (k', false)) (hf : springT d.fail.1 = (f', true)) : changeD d = ({ d with off := false, count := d.count + 1, fail := (f', d.fail.2), crash := (k', d.crash.2) }, d.fail.2) := by
  unfold changeD
  rw [if_neg (by simp [h]), hk, if_neg (by simp), hf, if_pos rfl]
/-- what comes of a call that changes -/
theorem ch_out (h : Tr f k) : ∃ n' f' k', Tr f' k' ∧ (f.1 = -1 → f'.1 = -1) ∧ (changeD (Wd room sh false n f k) = (Wd room sh false n' f' k', 0) ∨ (0 ≤ f.1 ∧ f'.1 = -1 ∧ changeD (Wd room sh false n f k) = (Wd room sh false n' f' k', 10)) ∨ changeD (Wd room sh false n f k) = (Wd room sh true n' f' k', 11)) := by
  rcases spring_two f.1 h.f1 with ⟨hf, hf0⟩ | ⟨y, hy, hf, hfn, hfp⟩
  · rcases spring_two k.1 h.k1 with ⟨hk, -⟩ | ⟨z, hz, hk, -⟩
    · refine ⟨n + 1, (-1, f.2), (-1, k.2), ⟨Int.le_refl _, Int.le_refl _, fun h1 => by have : (0 : Int) ≤ -1 := h1; omega⟩, fun _ => rfl, .inr (.inr ?_)⟩
      rw [change_crash (d := Wd room sh false n f k) rfl hk]
      simp [Wd, hf]
    · refine ⟨n + 1, (-1, f.2), (z, k.2), ⟨Int.le_refl _, hz, fun h1 => by have : (0 : Int) ≤ -1 := h1; omega⟩, fun _ => rfl, .inr (.inl ⟨hf0, rfl, ?_⟩)⟩
      rw [change_fail (d := Wd room sh false n f k) rfl hk hf]
      show (Wd room sh false (n + 1) (-1, f.2) (z, k.2), f.2) = _
      rw [h.f2 hf0]
  · rcases spring_two k.1 h.k1 with ⟨hk, -⟩ | ⟨z, hz, hk, -⟩
    · refine ⟨n + 1, (y, f.2), (-1, k.2), ⟨hy, Int.le_refl _, fun h1 => h.f2 (hfp h1)⟩, hfn, .inr (.inr ?_)⟩
      rw [change_crash (d := Wd room sh false n f k) rfl hk]
      simp [Wd, hf]
    · refine ⟨n + 1, (y, f.2), (z, k.2), ⟨hy, hz, fun h1 => h.f2 (hfp h1)⟩, hfn, .inl ?_⟩
      rw [change_go (d := Wd room sh false n f k) rfl hk hf]
      rfl
/-- a call, from a shape to another one -/
def Out (room : Int) (sh sh' : Shp) (r : Dsk × Int) (f : Int × Int) : Prop := ∃ n' f' k', Tr f' k' ∧ (f.1 = -1 → f'.1 = -1) ∧ (r = (Wd room sh' false n' f' k', 0) ∨ (0 ≤ f.1 ∧ f'.1 = -1 ∧ r = (Wd room sh false n' f' k', 10)) ∨ r = (Wd room sh true n' f' k', 11))
/-- what goes well or is cut off -/
def Sure (room : Int) (sh sh' : Shp) (r : Dsk × Int) (f : Int × Int) : Prop := ∃ n' f' k', Tr f' k' ∧ (f.1 = -1 → f'.1 = -1) ∧ (r = (Wd room sh' false n' f' k', 0) ∨ r = (Wd room sh true n' f' k', 11))
/-- a call that begins with change -/
structure Begins (o : Dsk → Dsk × Int) : Prop where
  no : ∀ {d d' : Dsk} {c : Int}, changeD d = (d', c) → c ≠ 0 → o d = (d', c)
theorem out_of {o : Dsk → Dsk × Int} (hb : Begins o) (h : Tr f k) (hok : ∀ n' f' k', changeD (Wd room sh false n f k) = (Wd room sh false n' f' k', 0) → o (Wd room sh false n f k) = (Wd room sh' false n' f' k', 0)) : Out room sh sh' (o (Wd room sh false n f k)) f := by
  obtain ⟨n', f', k', ht, hf, hc | ⟨h0, h1, hc⟩ | hc⟩ := ch_out (room := room) (sh := sh) (n := n) h
  · exact ⟨n', f', k', ht, hf, .inl (hok _ _ _ hc)⟩
  · exact ⟨n', f', k', ht, hf, .inr (.inl ⟨h0, h1, hb.no hc (by decide)⟩)⟩
  · exact ⟨n', f', k', ht, hf, .inr (.inr (hb.no hc (by decide)))⟩
theorem twice_out {o : Dsk → Dsk × Int} (hb : ∀ n f k, Tr f k → Out room sh sh' (o (Wd room sh false n f k)) f) (h : Tr f k) : Sure room sh sh' (twice o (Wd room sh false n f k)) f := by
  obtain ⟨n', f', k', ht, hf, hc | ⟨h0, h1, hc⟩ | hc⟩ := hb n f k h
  · exact ⟨n', f', k', ht, hf, .inl (by rw [twice_one (.inl (by rw [hc])), hc])⟩
  · rw [twice_two (by rw [hc]; show (10 : Int) ≠ 0; decide) (by rw [hc]; show (10 : Int) ≠ 11; decide), hc]
    obtain ⟨n2, f2, k2, ht2, hf2, hc2 | ⟨h0', -, -⟩ | hc2⟩ := hb n' f' k' ht
    · exact ⟨n2, f2, k2, ht2, fun _ => hf2 h1, .inl hc2⟩
    · omega
    · exact ⟨n2, f2, k2, ht2, fun _ => hf2 h1, .inr hc2⟩
  · exact ⟨n', f', k', ht, hf, .inr (by rw [twice_one (.inr (by rw [hc])), hc])⟩
end
theorem begins_create (x : Str) : Begins (fun d => createD d x) := ⟨fun {d d' c} h hc => by show createD d x = _; unfold createD; rw [h]; rw [if_pos hc]⟩
theorem begins_append (x b : Str) : Begins (fun d => appendD d x b) := ⟨fun {d d' c} h hc => by
  have ht : touchD d x = (d', 0, c) := by unfold touchD; rw [h]; rw [if_pos hc]
  show appendD d x b = _
  unfold appendD
  rw [ht, if_pos hc]⟩
theorem begins_sync (x : Str) : Begins (fun d => syncD d x) := ⟨fun {d d' c} h hc => by
  have ht : touchD d x = (d', 0, c) := by unfold touchD; rw [h]; rw [if_pos hc]
  show syncD d x = _
  unfold syncD
  rw [ht, if_pos hc]⟩
theorem begins_rename (x y : Str) : Begins (fun d => renameD d x y) := ⟨fun {d d' c} h hc => by show renameD d x y = _; unfold renameD; rw [h]; rw [if_pos hc]⟩
theorem begins_unlink (x : Str) : Begins (fun d => unlinkD d x) := ⟨fun {d d' c} h hc => by
  have ht : touchD d x = (d', 0, c) := by unfold touchD; rw [h]; rw [if_pos hc]
  show unlinkD d x = _
  unfold unlinkD
  rw [ht, if_pos hc]⟩
theorem begins_dir : Begins syncDirD := ⟨fun {d d' c} h hc => by show syncDirD d = _; unfold syncDirD; rw [h]; rw [if_pos hc]⟩
end Sf
end Go.Proofs.Ytchjncnolmiejaa

/- Swap, plain: what comes of it whatever fails. -/
namespace Go.Proofs.Ytchjncnolmiejaa
open Go.RowKit
namespace Sf
open Vd
def nmS : Str := [115]
def nmN : Str := [115, 46, 110]
def shA (th : Bool) (old : Str) : Shp := cond th ⟨[madeN old], [(nmS, 0)], [(nmS, 0)], []⟩ ⟨[], [], [], []⟩
def shB (th : Bool) (old : Str) : Shp := cond th ⟨[madeN old, newN], [(nmS, 0), (nmN, 1)], [(nmS, 0)], [⟨1, nmN, true⟩]⟩ ⟨[newN], [(nmN, 0)], [], [⟨0, nmN, true⟩]⟩
def shC (th : Bool) (old new : Str) : Shp := cond th ⟨[madeN old, ⟨new, [], [⟨0, new⟩], true⟩], [(nmS, 0), (nmN, 1)], [(nmS, 0)], [⟨1, nmN, true⟩]⟩ ⟨[⟨new, [], [⟨0, new⟩], true⟩], [(nmN, 0)], [], [⟨0, nmN, true⟩]⟩
def shD (th : Bool) (old new : Str) : Shp := cond th ⟨[madeN old, ⟨new, new, [], true⟩], [(nmS, 0), (nmN, 1)], [(nmS, 0)], [⟨1, nmN, true⟩]⟩ ⟨[⟨new, new, [], true⟩], [(nmN, 0)], [], [⟨0, nmN, true⟩]⟩
def shE (th : Bool) (old new : Str) : Shp := cond th ⟨[madeN old, ⟨new, new, [], true⟩], [(nmS, 1)], [(nmS, 0)], [⟨1, nmN, true⟩, ⟨1, nmS, false⟩]⟩ ⟨[⟨new, new, [], true⟩], [(nmS, 0)], [], [⟨0, nmN, true⟩, ⟨0, nmS, false⟩]⟩
def shF (th : Bool) (old new : Str) : Shp := cond th ⟨[madeN old, ⟨new, new, [], false⟩], [(nmS, 1)], [(nmS, 1)], []⟩ ⟨[⟨new, new, [], false⟩], [(nmS, 0)], [(nmS, 0)], []⟩
def shBU (th : Bool) (old : Str) : Shp := cond th ⟨[madeN old, newN], [(nmS, 0)], [(nmS, 0)], [⟨1, nmN, true⟩, ⟨1, [], false⟩]⟩ ⟨[newN], [], [], [⟨0, nmN, true⟩, ⟨0, [], false⟩]⟩
def shDU (th : Bool) (old new : Str) : Shp := cond th ⟨[madeN old, ⟨new, new, [], true⟩], [(nmS, 0)], [(nmS, 0)], [⟨1, nmN, true⟩, ⟨1, [], false⟩]⟩ ⟨[⟨new, new, [], true⟩], [], [], [⟨0, nmN, true⟩, ⟨0, [], false⟩]⟩
def oldR (th : Bool) (old : Str) : Str × Int := cond th (old, 0) ([], 7)
def RdOld (th : Bool) (old : Str) (sh : Shp) : Prop := ∀ n f k t ks, textD (bootD (Wd 100000 sh true n f k) t ks).1 nmS = oldR th old
def RdNew (new : Str) (sh : Shp) : Prop := ∀ n f k t ks, textD (bootD (Wd 100000 sh true n f k) t ks).1 nmS = (new, 0)
def RdMix (th : Bool) (old new : Str) (sh : Shp) : Prop := ∀ n f k t ks, textD (bootD (Wd 100000 sh true n f k) t ks).1 nmS = oldR th old ∨ textD (bootD (Wd 100000 sh true n f k) t ks).1 nmS = (new, 0)
section
variable {th : Bool} {old new : Str} {n : Int} {f k : Int × Int}
theorem rdA : RdOld th old (shA th old) := fun n f k t ks => by
  unfold bootD
  generalize t.toNat = m
  cases th <;> (rcases m with _ | m <;> kernel_rfl)
theorem rdB : RdOld th old (shB th old) := fun n f k t ks => by
  unfold bootD
  generalize t.toNat = m
  cases th <;> (rcases m with _ | _ | m <;> kernel_rfl)
theorem rdC : RdOld th old (shC th old new) := fun n f k t ks => by
  unfold bootD
  generalize t.toNat = m
  cases th <;> (rcases m with _ | _ | m <;> kernel_rfl)
theorem rdD : RdOld th old (shD th old new) := fun n f k t ks => by
  unfold bootD
  generalize t.toNat = m
  cases th <;> (rcases m with _ | _ | m <;> kernel_rfl)
theorem rdBU : RdOld th old (shBU th old) := fun n f k t ks => by
  unfold bootD
  generalize t.toNat = m
  cases th <;> (rcases m with _ | _ | _ | m <;> kernel_rfl)
theorem rdDU : RdOld th old (shDU th old new) := fun n f k t ks => by
  unfold bootD
  generalize t.toNat = m
  cases th <;> (rcases m with _ | _ | _ | m <;> kernel_rfl)
theorem rdE : RdMix th old new (shE th old new) := fun n f k t ks => by
  unfold bootD
  generalize t.toNat = m
  cases th
  · rcases m with _ | _ | _ | m
    · exact .inl (by kernel_rfl)
    · exact .inl (by kernel_rfl)
    · exact .inr (by kernel_rfl)
    · exact .inr (by kernel_rfl)
  · rcases m with _ | _ | _ | m
    · exact .inl (by kernel_rfl)
    · exact .inl (by kernel_rfl)
    · exact .inr (by kernel_rfl)
    · exact .inr (by kernel_rfl)
theorem rdF : RdNew new (shF th old new) := fun n f k t ks => by
  unfold bootD
  generalize t.toNat = m
  cases th <;> (rcases m with _ | m <;> kernel_rfl)
theorem RdOld.mix {sh : Shp} (h : RdOld th old sh) : RdMix th old new sh := fun n f k t ks => .inl (h n f k t ks)
set_option maxRecDepth 100000 in
theorem createA (h : Tr f k) : Out 100000 (shA th old) (shB th old) (createD (Wd 100000 (shA th old) false n f k) nmN) f :=
  out_of (begins_create nmN) h (fun n' f' k' hc => by
    unfold createD
    rw [hc]
    cases th <;> kernel_rfl)
set_option maxRecDepth 100000 in
theorem appendB (h : Tr f k) (hl : old.length ≤ 1000) (hn : new.length ≤ 1000) : Out 100000 (shB th old) (shC th old new) (appendD (Wd 100000 (shB th old) false n f k) nmN new) f :=
  out_of (begins_append nmN new) h (fun n' f' k' hc => by
    cases th
    · have ht : touchD (Wd 100000 (shB false old) false n f k) nmN = (Wd 100000 (shB false old) false n' f' k', 0, 0) := by
        unfold touchD
        rw [hc]
        kernel_rfl
      show appendD _ nmN new = _
      unfold appendD
      rw [ht, if_neg (by show ¬ (0 : Int) ≠ 0; simp)]
      show writeD (Wd 100000 (shB false old) false n' f' k') 0 ⟨0, new⟩ = _
      unfold writeD
      rw [if_neg (by
        show ¬ (100000 : Int) - ((bytesN [newN] [(nmN, 0)] : Nat) : Int) < ((overL [] 0 new).length : Int) - (([] : Str).length : Int)
        rw [overL_nil]
        simp [bytesN, newN]
        omega)]
      show (putD (Wd 100000 (shB false old) false n' f' k') 0 (wroteN newN ⟨0, new⟩), (0 : Int)) = _
      unfold wroteN
      rw [show overL newN.seen (Pat.mk 0 new).place (Pat.mk 0 new).b = new from overL_nil new]
      kernel_rfl
    · have ht : touchD (Wd 100000 (shB true old) false n f k) nmN = (Wd 100000 (shB true old) false n' f' k', 1, 0) := by
        unfold touchD
        rw [hc]
        kernel_rfl
      show appendD _ nmN new = _
      unfold appendD
      rw [ht, if_neg (by show ¬ (0 : Int) ≠ 0; simp)]
      show writeD (Wd 100000 (shB true old) false n' f' k') 1 ⟨0, new⟩ = _
      unfold writeD
      rw [if_neg (by
        show ¬ (100000 : Int) - ((bytesN [madeN old, newN] [(nmS, 0), (nmN, 1)] : Nat) : Int) < ((overL [] 0 new).length : Int) - (([] : Str).length : Int)
        rw [overL_nil]
        simp [bytesN, madeN, newN]
        omega)]
      show (putD (Wd 100000 (shB true old) false n' f' k') 1 (wroteN newN ⟨0, new⟩), (0 : Int)) = _
      unfold wroteN
      rw [show overL newN.seen (Pat.mk 0 new).place (Pat.mk 0 new).b = new from overL_nil new]
      kernel_rfl)
theorem touch_of {d d' : Dsk} {x : Str} {i : Nat} (hc : changeD d = (d', 0)) (hl : Vd.look d.seen x = some i) : touchD d x = (d', i, 0) := by
  unfold touchD findE
  rw [hc, hl, if_neg (by show ¬ (0 : Int) ≠ 0; simp)]
  rfl
theorem syncC (h : Tr f k) : Out 100000 (shC th old new) (shD th old new) (syncD (Wd 100000 (shC th old new) false n f k) nmN) f :=
  out_of (begins_sync nmN) h (fun n' f' k' hc => by
    cases th
    · show syncD _ nmN = _
      unfold syncD
      rw [touch_of hc (i := 0) (by kernel_rfl)]
      kernel_rfl
    · show syncD _ nmN = _
      unfold syncD
      rw [touch_of hc (i := 1) (by kernel_rfl)]
      kernel_rfl)
theorem renameDo (h : Tr f k) : Out 100000 (shD th old new) (shE th old new) (renameD (Wd 100000 (shD th old new) false n f k) nmN nmS) f :=
  out_of (begins_rename nmN nmS) h (fun n' f' k' hc => by
    show renameD _ nmN nmS = _
    unfold renameD
    rw [hc]
    cases th <;> kernel_rfl)
theorem dirE (h : Tr f k) : Out 100000 (shE th old new) (shF th old new) (syncDirD (Wd 100000 (shE th old new) false n f k)) f :=
  out_of begins_dir h (fun n' f' k' hc => by
    show syncDirD _ = _
    unfold syncDirD
    rw [hc]
    cases th <;> kernel_rfl)
theorem unlinkB (h : Tr f k) : Out 100000 (shB th old) (shBU th old) (unlinkD (Wd 100000 (shB th old) false n f k) nmN) f :=
  out_of (begins_unlink nmN) h (fun n' f' k' hc => by
    cases th
    · show unlinkD _ nmN = _
      unfold unlinkD
      rw [touch_of hc (i := 0) (by kernel_rfl)]
      kernel_rfl
    · show unlinkD _ nmN = _
      unfold unlinkD
      rw [touch_of hc (i := 1) (by kernel_rfl)]
      kernel_rfl)
theorem unlinkDo (h : Tr f k) : Out 100000 (shD th old new) (shDU th old new) (unlinkD (Wd 100000 (shD th old new) false n f k) nmN) f :=
  out_of (begins_unlink nmN) h (fun n' f' k' hc => by
    cases th
    · show unlinkD _ nmN = _
      unfold unlinkD
      rw [touch_of hc (i := 0) (by kernel_rfl)]
      kernel_rfl
    · show unlinkD _ nmN = _
      unfold unlinkD
      rw [touch_of hc (i := 1) (by kernel_rfl)]
      kernel_rfl)
theorem hasA : hasD (Wd 100000 (shA th old) false n f k) nmN = false := by cases th <;> kernel_rfl
theorem hasB : hasD (Wd 100000 (shB th old) false n f k) nmN = true := by cases th <;> kernel_rfl
theorem hasDo : hasD (Wd 100000 (shD th old new) false n f k) nmN = true := by cases th <;> kernel_rfl
end
end Sf
end Go.Proofs.Ytchjncnolmiejaa

/- What Swap answers, and what is read behind the boot. -/
namespace Go.Proofs.Ytchjncnolmiejaa
open Go.RowKit
namespace Sf
open Vd
def SwapRes (th : Bool) (old new : Str) (r : Dsk × Int) : Prop := ∃ off n f k sh, r.1 = Wd 100000 sh off n f k ∧ (r.2 = 0 ∧ RdNew new sh ∨ r.2 = 10 ∧ RdOld th old sh ∨ r.2 = 11 ∧ RdMix th old new sh)
section
variable {th : Bool} {old new : Str} {n : Int} {f k : Int × Int}
theorem thenD_go {d : Dsk} {g : Dsk → Dsk × Int} : thenD (d, 0) g = g d := thenD_ok rfl
theorem thenD_10 {d : Dsk} {g : Dsk → Dsk × Int} : thenD (d, 10) g = (d, 10) := thenD_no (by show (10 : Int) ≠ 0; decide)
theorem thenD_11 {d : Dsk} {g : Dsk → Dsk × Int} : thenD (d, 11) g = (d, 11) := thenD_no (by show (11 : Int) ≠ 0; decide)
theorem tidy11 {x : Str} {d : Dsk} : tidyS x (d, 11) = (d, 11) := if_pos (.inr (.inl rfl))
theorem tidy0 {x : Str} {d : Dsk} : tidyS x (d, 0) = (d, 0) := if_pos (.inl rfl)
theorem tidy10 {x : Str} {d : Dsk} (h : hasD d x = true) : tidyS x (d, 10) = ((sUnlink x d).1, 10) := if_neg (by simp [h])
theorem tidy10n {x : Str} {d : Dsk} (h : hasD d x = false) : tidyS x (d, 10) = (d, 10) := if_pos (.inr (.inr h))
theorem sappendB (h : Tr f k) (hl : old.length ≤ 1000) (hn : new.length ≤ 1000) : ∃ n' f' k', Tr f' k' ∧ (sAppend nmN new (Wd 100000 (shB th old) false n f k) = (Wd 100000 (shD th old new) false n' f' k', 0) ∨ sAppend nmN new (Wd 100000 (shB th old) false n f k) = (Wd 100000 (shB th old) false n' f' k', 10) ∨ sAppend nmN new (Wd 100000 (shB th old) false n f k) = (Wd 100000 (shB th old) true n' f' k', 11) ∨ sAppend nmN new (Wd 100000 (shB th old) false n f k) = (Wd 100000 (shC th old new) true n' f' k', 11)) := by
  unfold sAppend
  obtain ⟨n1, f1, k1, t1, -, hc | ⟨-, -, hc⟩ | hc⟩ := appendB (n := n) h hl hn
  · rw [hc, thenD_go]
    obtain ⟨n2, f2, k2, t2, -, hc2 | hc2⟩ := twice_out (room := 100000) (sh := shC th old new) (sh' := shD th old new) (o := fun d => syncD d nmN) (n := n1) (fun n f k h => syncC h) t1
    · exact ⟨n2, f2, k2, t2, .inl hc2⟩
    · exact ⟨n2, f2, k2, t2, .inr (.inr (.inr hc2))⟩
  · rw [hc, thenD_10]
    exact ⟨n1, f1, k1, t1, .inr (.inl rfl)⟩
  · rw [hc, thenD_11]
    exact ⟨n1, f1, k1, t1, .inr (.inr (.inl rfl))⟩
theorem sswap_res (h : Tr f k) (hl : old.length ≤ 1000) (hn : new.length ≤ 1000) : SwapRes th old new (sSwap nmS new (Wd 100000 (shA th old) false n f k)) := by
  unfold sSwap
  rw [if_neg (by decide), show nmS ++ dotN = nmN from rfl, hasA, if_neg (by simp)]
  unfold sSwap1
  obtain ⟨n1, f1, k1, t1, -, hc | ⟨-, -, hc⟩ | hc⟩ := createA (n := n) (th := th) (old := old) h
  · rw [hc, thenD_go]
    obtain ⟨n2, f2, k2, t2, hc2 | hc2 | hc2 | hc2⟩ := sappendB (n := n1) (th := th) t1 hl hn
    · rw [hc2, thenD_go]
      obtain ⟨n3, f3, k3, t3, -, hc3 | ⟨-, -, hc3⟩ | hc3⟩ := renameDo (n := n2) (th := th) (old := old) (new := new) t2
      · rw [hc3, thenD_go]
        obtain ⟨n4, f4, k4, t4, -, hc4 | hc4⟩ := twice_out (room := 100000) (sh := shE th old new) (sh' := shF th old new) (o := syncDirD) (n := n3) (fun n f k h => dirE h) t3
        · rw [show sDir (Wd 100000 (shE th old new) false n3 f3 k3) = _ from hc4, tidy0]
          exact ⟨_, _, _, _, _, rfl, .inl ⟨rfl, rdF⟩⟩
        · rw [show sDir (Wd 100000 (shE th old new) false n3 f3 k3) = _ from hc4, tidy11]
          exact ⟨_, _, _, _, _, rfl, .inr (.inr ⟨rfl, rdE⟩)⟩
      · rw [hc3, thenD_10, tidy10 hasDo]
        obtain ⟨n4, f4, k4, t4, -, hc4 | hc4⟩ := twice_out (room := 100000) (sh := shD th old new) (sh' := shDU th old new) (o := fun d => unlinkD d nmN) (n := n3) (fun n f k h => unlinkDo h) t3
        · rw [show sUnlink nmN (Wd 100000 (shD th old new) false n3 f3 k3) = _ from hc4]
          exact ⟨_, _, _, _, _, rfl, .inr (.inl ⟨rfl, rdDU⟩)⟩
        · rw [show sUnlink nmN (Wd 100000 (shD th old new) false n3 f3 k3) = _ from hc4]
          exact ⟨_, _, _, _, _, rfl, .inr (.inl ⟨rfl, rdD⟩)⟩
      · rw [hc3, thenD_11, tidy11]
        exact ⟨_, _, _, _, _, rfl, .inr (.inr ⟨rfl, rdD.mix⟩)⟩
    · rw [hc2, thenD_10, thenD_10, tidy10 hasB]
      obtain ⟨n4, f4, k4, t4, -, hc4 | hc4⟩ := twice_out (room := 100000) (sh := shB th old) (sh' := shBU th old) (o := fun d => unlinkD d nmN) (n := n2) (fun n f k h => unlinkB h) t2
      · rw [show sUnlink nmN (Wd 100000 (shB th old) false n2 f2 k2) = _ from hc4]
        exact ⟨_, _, _, _, _, rfl, .inr (.inl ⟨rfl, rdBU⟩)⟩
      · rw [show sUnlink nmN (Wd 100000 (shB th old) false n2 f2 k2) = _ from hc4]
        exact ⟨_, _, _, _, _, rfl, .inr (.inl ⟨rfl, rdB⟩)⟩
    · rw [hc2, thenD_11, thenD_11, tidy11]
      exact ⟨_, _, _, _, _, rfl, .inr (.inr ⟨rfl, rdB.mix⟩)⟩
    · rw [hc2, thenD_11, thenD_11, tidy11]
      exact ⟨_, _, _, _, _, rfl, .inr (.inr ⟨rfl, rdC.mix⟩)⟩
  · rw [hc, thenD_10, thenD_10, thenD_10, tidy10n hasA]
    exact ⟨_, _, _, _, _, rfl, .inr (.inl ⟨rfl, rdA⟩)⟩
  · rw [hc, thenD_11, thenD_11, thenD_11, tidy11]
    exact ⟨_, _, _, _, _, rfl, .inr (.inr ⟨rfl, rdA.mix⟩)⟩
theorem down_shape (sh : Shp) (off : Bool) (n : Int) (f k : Int × Int) : ∃ n' f' k', downD (Wd 100000 sh off n f k) = Wd 100000 sh true n' f' k' := by
  cases off with
  | true => exact ⟨n, f, k, if_pos rfl⟩
  | false => exact ⟨_, _, _, downD_go rfl⟩
end
end Sf
end Go.Proofs.Ytchjncnolmiejaa

/- SafeSwaps: its walk. -/
namespace Go.Proofs.Ytchjncnolmiejaa
open Go.RowKit
namespace Sf
open Vd
theorem tr_of (fl c : Int) : Tr (failT fl 10) (setT c 11) := by
  refine ⟨(setT_in fl 10).1, (setT_in c 11).1, fun h => ?_⟩
  have h : 0 ≤ (setT fl 10).1 := h
  show (setT fl 10).2 = 10
  unfold setT at h ⊢
  split at h
  · have : (0 : Int) ≤ -1 := h
    omega
  · rename_i h1
    rw [if_neg h1]
theorem few_A (th : Bool) (old : Str) (f k : Int × Int) : Few (Wd 100000 (shA th old) false 0 f k) 1 := by
  cases th
  · exact ⟨by show (0 : Int) ≤ 0; omega, by show (0 : Int) ≤ 1; omega, Nat.zero_le _, Nat.zero_le _, fun y hy => absurd hy (List.not_mem_nil), Nat.zero_le _, Nat.zero_le _⟩
  · exact ⟨by show (0 : Int) ≤ 0; omega, by show (0 : Int) ≤ 1; omega, Nat.zero_le _, Nat.le_refl _, fun y hy => by
      have hy : y ∈ [madeN old] := hy
      simp at hy
      subst hy
      exact Nat.zero_le _, Nat.le_refl _, Nat.le_refl _⟩
end Sf
end Go.Proofs.Ytchjncnolmiejaa

/- Make, Append, Drop, plain, whenever the power goes. -/
namespace Go.Proofs.Ytchjncnolmiejaa
open Go.RowKit
namespace Sf
open Vd
theorem overL_end (a c : Str) : overL a a.length c = a ++ c := by
  apply List.ext_getElem?
  intro j
  rw [overL_get]
  by_cases h1 : j < a.length
  · rw [if_neg (by omega), if_pos h1, List.getElem?_append_left h1]
  · by_cases h2 : j < a.length + c.length
    · rw [if_pos (by omega), List.getElem?_append_right (by omega)]
    · rw [if_neg (by omega), if_neg h1, if_neg (by omega), List.getElem?_eq_none (by simp; omega)]
def uA : Shp := ⟨[], [], [], []⟩
def uB : Shp := ⟨[newN], [(nmS, 0)], [], [⟨0, nmS, true⟩]⟩
def uC (a : Str) : Shp := ⟨[⟨a, [], [⟨0, a⟩], true⟩], [(nmS, 0)], [], [⟨0, nmS, true⟩]⟩
def uD (a : Str) : Shp := ⟨[⟨a, a, [], true⟩], [(nmS, 0)], [], [⟨0, nmS, true⟩]⟩
def uF (a : Str) : Shp := ⟨[⟨a, a, [], false⟩], [(nmS, 0)], [(nmS, 0)], []⟩
def uG (a b : Str) : Shp := ⟨[⟨a ++ b, a, [⟨a.length, b⟩], false⟩], [(nmS, 0)], [(nmS, 0)], []⟩
def uU (l : Str) : Shp := ⟨[⟨l, l, [], false⟩], [], [(nmS, 0)], [⟨0, [], false⟩]⟩
def uV (l : Str) : Shp := ⟨[⟨l, l, [], false⟩], [], [], []⟩
/-- what is read behind a boot -/
def Rd (sh : Shp) (P : Str × Int → Prop) : Prop := ∀ n f k t ks, P (textD (bootD (Wd 100000 sh true n f k) t ks).1 nmS)
def Part (a : Str) (r : Str × Int) : Prop := r = ([], 7) ∨ ∃ m, m ≤ a.length ∧ r = (a.take m, 0)
section
variable {a b l : Str} {n : Int} {f k : Int × Int}
theorem bootPats_one (p : Pat) (s : Str) (ks : List Int) : (bootPats [p] s ks).1 = if (keepN ks p).1.b = [] then s else overL s (keepN ks p).1.place (keepN ks p).1.b := rfl
theorem ruA : Rd uA (fun r => Part a r) := fun n f k t ks => by
  unfold bootD
  generalize t.toNat = m
  rcases m with _ | m <;> exact .inl (by kernel_rfl)
theorem ruB : Rd uB (fun r => Part a r) := fun n f k t ks => by
  unfold bootD
  generalize t.toNat = m
  rcases m with _ | _ | m
  · exact .inl (by kernel_rfl)
  · exact .inr ⟨0, Nat.zero_le _, by kernel_rfl⟩
  · exact .inr ⟨0, Nat.zero_le _, by kernel_rfl⟩
theorem ruC : Rd (uC a) (fun r => Part a r) := fun n f k t ks => by
  have hb : (bootPats [⟨0, a⟩] [] ks).1 = a.take (nKeep ks ⟨0, a⟩) := by
    rw [bootPats_one, keepN_eq]
    show (if a.take (nKeep ks ⟨0, a⟩) = [] then [] else overL [] 0 (a.take (nKeep ks ⟨0, a⟩))) = _
    split
    · rename_i h; rw [h]
    · rw [overL_nil]
  unfold bootD
  generalize t.toNat = m
  rcases m with _ | _ | m
  · exact .inl (by kernel_rfl)
  · refine .inr ⟨_, nKeep_le ks ⟨0, a⟩, ?_⟩
    rw [← hb]
    kernel_rfl
  · refine .inr ⟨_, nKeep_le ks ⟨0, a⟩, ?_⟩
    rw [← hb]
    kernel_rfl
theorem ruD : Rd (uD a) (fun r => Part a r) := fun n f k t ks => by
  have ht : (a, (0 : Int)) = (a.take a.length, 0) := by simp
  unfold bootD
  generalize t.toNat = m
  rcases m with _ | _ | m
  · exact .inl (by kernel_rfl)
  · refine .inr ⟨a.length, Nat.le_refl _, ?_⟩
    rw [← ht]
    kernel_rfl
  · refine .inr ⟨a.length, Nat.le_refl _, ?_⟩
    rw [← ht]
    kernel_rfl
theorem ruF : Rd (uF a) (fun r => ∃ m, r = (a ++ b.take m, 0)) := fun n f k t ks => by
  refine ⟨0, ?_⟩
  rw [List.take_zero, List.append_nil]
  unfold bootD
  generalize t.toNat = m
  rcases m with _ | m <;> kernel_rfl
theorem ruG : Rd (uG a b) (fun r => ∃ m, r = (a ++ b.take m, 0)) := fun n f k t ks => by
  have hb : (bootPats [⟨a.length, b⟩] a ks).1 = a ++ b.take (nKeep ks ⟨a.length, b⟩) := by
    rw [bootPats_one, keepN_eq]
    show (if b.take (nKeep ks ⟨a.length, b⟩) = [] then a else overL a a.length (b.take (nKeep ks ⟨a.length, b⟩))) = _
    split
    · rename_i h; rw [h, List.append_nil]
    · rw [overL_end]
  refine ⟨nKeep ks ⟨a.length, b⟩, ?_⟩
  rw [← hb]
  unfold bootD
  generalize t.toNat = m
  rcases m with _ | m <;> kernel_rfl
theorem ruH : Rd (uF l) (fun r => r = (l, 0)) := fun n f k t ks => by
  unfold bootD
  generalize t.toNat = m
  rcases m with _ | m <;> kernel_rfl
theorem ruU : Rd (uU l) (fun r => r = (l, 0) ∨ r = ([], 7)) := fun n f k t ks => by
  unfold bootD
  generalize t.toNat = m
  rcases m with _ | _ | m
  · exact .inl (by kernel_rfl)
  · exact .inr (by kernel_rfl)
  · exact .inr (by kernel_rfl)
theorem ruV : Rd (uV l) (fun r => r = ([], 7)) := fun n f k t ks => by
  unfold bootD
  generalize t.toNat = m
  rcases m with _ | m <;> kernel_rfl
/-- with no failing call set -/
theorem sure_of {room : Int} {sh sh' : Shp} {r : Dsk × Int} (hf : f.1 = -1) (h : Out room sh sh' r f) : ∃ n' f' k', Tr f' k' ∧ f'.1 = -1 ∧ (r = (Wd room sh' false n' f' k', 0) ∨ r = (Wd room sh true n' f' k', 11)) := by
  obtain ⟨n', f', k', ht, hff, hc | ⟨h0, -, -⟩ | hc⟩ := h
  · exact ⟨n', f', k', ht, hff hf, .inl hc⟩
  · omega
  · exact ⟨n', f', k', ht, hff hf, .inr hc⟩
theorem createU (h : Tr f k) : Out 100000 uA uB (createD (Wd 100000 uA false n f k) nmS) f :=
  out_of (begins_create nmS) h (fun n' f' k' hc => by
    show createD _ nmS = _
    unfold createD
    rw [hc]
    kernel_rfl)
theorem appendU (h : Tr f k) (hn : a.length ≤ 1000) : Out 100000 uB (uC a) (appendD (Wd 100000 uB false n f k) nmS a) f :=
  out_of (begins_append nmS a) h (fun n' f' k' hc => by
    show appendD _ nmS a = _
    unfold appendD
    rw [touch_of hc (i := 0) (by kernel_rfl), if_neg (by show ¬ (0 : Int) ≠ 0; simp)]
    show writeD (Wd 100000 uB false n' f' k') 0 ⟨0, a⟩ = _
    unfold writeD
    rw [if_neg (by
      show ¬ (100000 : Int) - ((bytesN [newN] [(nmS, 0)] : Nat) : Int) < ((overL [] 0 a).length : Int) - (([] : Str).length : Int)
      rw [overL_nil]
      simp [bytesN, newN]
      omega)]
    show (putD (Wd 100000 uB false n' f' k') 0 (wroteN newN ⟨0, a⟩), (0 : Int)) = _
    unfold wroteN
    rw [show overL newN.seen (Pat.mk 0 a).place (Pat.mk 0 a).b = a from overL_nil a]
    kernel_rfl)
theorem syncU (h : Tr f k) : Out 100000 (uC a) (uD a) (syncD (Wd 100000 (uC a) false n f k) nmS) f :=
  out_of (begins_sync nmS) h (fun n' f' k' hc => by
    show syncD _ nmS = _
    unfold syncD
    rw [touch_of hc (i := 0) (by kernel_rfl)]
    kernel_rfl)
theorem dirU (h : Tr f k) : Out 100000 (uD a) (uF a) (syncDirD (Wd 100000 (uD a) false n f k)) f :=
  out_of begins_dir h (fun n' f' k' hc => by
    show syncDirD _ = _
    unfold syncDirD
    rw [hc]
    kernel_rfl)
theorem append2U (h : Tr f k) (ha : a.length ≤ 1000) (hn : b.length ≤ 1000) : Out 100000 (uF a) (uG a b) (appendD (Wd 100000 (uF a) false n f k) nmS b) f :=
  out_of (begins_append nmS b) h (fun n' f' k' hc => by
    show appendD _ nmS b = _
    unfold appendD
    rw [touch_of hc (i := 0) (by kernel_rfl), if_neg (by show ¬ (0 : Int) ≠ 0; simp)]
    show writeD (Wd 100000 (uF a) false n' f' k') 0 ⟨a.length, b⟩ = _
    unfold writeD
    rw [if_neg (by
      show ¬ (100000 : Int) - ((bytesN [⟨a, a, [], false⟩] [(nmS, 0)] : Nat) : Int) < ((overL a a.length b).length : Int) - (a.length : Int)
      rw [overL_end]
      simp [bytesN]
      omega)]
    show (putD (Wd 100000 (uF a) false n' f' k') 0 (wroteN ⟨a, a, [], false⟩ ⟨a.length, b⟩), (0 : Int)) = _
    unfold wroteN
    rw [show overL (Nod.mk a a [] false).seen (Pat.mk a.length b).place (Pat.mk a.length b).b = a ++ b from overL_end a b]
    kernel_rfl)
theorem sync2U (h : Tr f k) : Out 100000 (uG a b) (uF (a ++ b)) (syncD (Wd 100000 (uG a b) false n f k) nmS) f :=
  out_of (begins_sync nmS) h (fun n' f' k' hc => by
    show syncD _ nmS = _
    unfold syncD
    rw [touch_of hc (i := 0) (by kernel_rfl)]
    kernel_rfl)
theorem unlinkU (h : Tr f k) : Out 100000 (uF l) (uU l) (unlinkD (Wd 100000 (uF l) false n f k) nmS) f :=
  out_of (begins_unlink nmS) h (fun n' f' k' hc => by
    show unlinkD _ nmS = _
    unfold unlinkD
    rw [touch_of hc (i := 0) (by kernel_rfl)]
    kernel_rfl)
theorem dir2U (h : Tr f k) : Out 100000 (uU l) (uV l) (syncDirD (Wd 100000 (uU l) false n f k)) f :=
  out_of begins_dir h (fun n' f' k' hc => by
    show syncDirD _ = _
    unfold syncDirD
    rw [hc]
    kernel_rfl)
/-- what Make, Append, Drop answer, and what is read behind the boot -/
def SureRes (a b : Str) (drop : Bool) (x y z : Int) (d : Dsk) : Prop := ∃ off n f k sh, d = Wd 100000 sh off n f k ∧
  ((x = 11 ∧ y = 11 ∧ z = 11 ∧ Rd sh (fun r => Part a r)) ∨ (x = 0 ∧ y = 11 ∧ z = 11 ∧ Rd sh (fun r => ∃ m, r = (a ++ b.take m, 0)))
  ∨ (x = 0 ∧ y = 0 ∧ z = 11 ∧ drop = false ∧ Rd sh (fun r => r = (a ++ b, 0))) ∨ (x = 0 ∧ y = 0 ∧ z = 11 ∧ drop = true ∧ Rd sh (fun r => r = (a ++ b, 0) ∨ r = ([], 7))) ∨ (x = 0 ∧ y = 0 ∧ z = 0 ∧ drop = true ∧ Rd sh (fun r => r = ([], 7))))
theorem off_ops {d : Dsk} (h : d.off = true) (x b : Str) : sAppend x b d = (d, 11) ∧ sDrop x d = (d, 11) := by
  obtain ⟨-, h2, -, -, h5, -⟩ := off_all h x x b
  refine ⟨by unfold sAppend; rw [h2, thenD_11], ?_⟩
  unfold sDrop
  rw [if_neg (by simp [h]), h5, thenD_11]
theorem hasU {sh : Shp} (h : (Vd.look sh.seen nmS) = some 0) : hasD (Wd 100000 sh false n f k) nmS = true := by
  unfold hasD textD
  rw [if_neg (by simp [Wd]), show (Wd 100000 sh false n f k).seen = sh.seen from rfl, h]
  rfl
theorem smake_res (h : Tr f k) (hf : f.1 = -1) (ha : a.length ≤ 1000) : ∃ n' f' k', Tr f' k' ∧ f'.1 = -1 ∧ (sMake nmS a (Wd 100000 uA false n f k) = (Wd 100000 (uF a) false n' f' k', 0) ∨ ∃ sh, Rd sh (fun r => Part a r) ∧ sMake nmS a (Wd 100000 uA false n f k) = (Wd 100000 sh true n' f' k', 11)) := by
  unfold sMake
  rw [show hasD (Wd 100000 uA false n f k) nmS = false from by kernel_rfl, if_neg (by simp)]
  obtain ⟨n1, f1, k1, t1, e1, hc | hc⟩ := sure_of hf (createU (n := n) h)
  · rw [hc, if_neg (by show ¬ (0 : Int) ≠ 0; simp)]
    show ∃ n' f' k', Tr f' k' ∧ f'.1 = -1 ∧ (tidyD nmS (thenD (sAppend nmS a (Wd 100000 uB false n1 f1 k1)) sDir) = _ ∨ ∃ sh, _ ∧ tidyD nmS (thenD (sAppend nmS a (Wd 100000 uB false n1 f1 k1)) sDir) = _)
    unfold sAppend
    obtain ⟨n2, f2, k2, t2, e2, hc2 | hc2⟩ := sure_of e1 (appendU (n := n1) (a := a) t1 ha)
    · rw [hc2, thenD_go]
      obtain ⟨n3, f3, k3, t3, e3, hc3 | hc3⟩ := twice_out (room := 100000) (sh := uC a) (sh' := uD a) (o := fun d => syncD d nmS) (n := n2) (fun n f k h => syncU h) t2
      · rw [show sSync nmS (Wd 100000 (uC a) false n2 f2 k2) = _ from hc3, thenD_go]
        obtain ⟨n4, f4, k4, t4, e4, hc4 | hc4⟩ := twice_out (room := 100000) (sh := uD a) (sh' := uF a) (o := syncDirD) (n := n3) (fun n f k h => dirU h) t3
        · rw [show sDir (Wd 100000 (uD a) false n3 f3 k3) = _ from hc4]
          exact ⟨n4, f4, k4, t4, e4 (e3 e2), .inl (if_pos (.inl rfl))⟩
        · rw [show sDir (Wd 100000 (uD a) false n3 f3 k3) = _ from hc4]
          exact ⟨n4, f4, k4, t4, e4 (e3 e2), .inr ⟨_, ruD, if_pos (.inr rfl)⟩⟩
      · rw [show sSync nmS (Wd 100000 (uC a) false n2 f2 k2) = _ from hc3, thenD_11]
        exact ⟨n3, f3, k3, t3, e3 e2, .inr ⟨_, ruC, if_pos (.inr rfl)⟩⟩
    · rw [hc2, thenD_11, thenD_11]
      exact ⟨n2, f2, k2, t2, e2, .inr ⟨_, ruB, if_pos (.inr rfl)⟩⟩
  · rw [hc, if_pos (by show (11 : Int) ≠ 0; decide)]
    exact ⟨n1, f1, k1, t1, e1, .inr ⟨_, ruA, rfl⟩⟩
theorem sure_res (h : Tr f k) (hf : f.1 = -1) (ha : a.length ≤ 1000) (hb : b.length ≤ 1000) (drop : Bool) :
    let r1 := sMake nmS a (Wd 100000 uA false n f k)
    let r2 := sAppend nmS b r1.1
    let r3 := if drop then sDrop nmS r2.1 else (r2.1, 11)
    SureRes a b drop r1.2 r2.2 r3.2 r3.1 := by
  intro r1 r2 r3
  obtain ⟨n1, f1, k1, t1, e1, hc | ⟨sh, hrd, hc⟩⟩ := smake_res (n := n) h hf ha
  · have h1 : r1 = (Wd 100000 (uF a) false n1 f1 k1, 0) := hc
    have h2 : r2 = sAppend nmS b (Wd 100000 (uF a) false n1 f1 k1) := by show sAppend nmS b r1.1 = _; rw [h1]
    unfold sAppend at h2
    obtain ⟨n2, f2, k2, t2, e2, hc2 | hc2⟩ := sure_of e1 (append2U (n := n1) (a := a) (b := b) t1 ha hb)
    · rw [hc2, thenD_go] at h2
      obtain ⟨n3, f3, k3, t3, e3, hc3 | hc3⟩ := twice_out (room := 100000) (sh := uG a b) (sh' := uF (a ++ b)) (o := fun d => syncD d nmS) (n := n2) (fun n f k h => sync2U h) t2
      · rw [show sSync nmS (Wd 100000 (uG a b) false n2 f2 k2) = _ from hc3] at h2
        cases drop with
        | false =>
          have h3 : r3 = (Wd 100000 (uF (a ++ b)) false n3 f3 k3, 11) := by show (r2.1, (11 : Int)) = _; rw [h2]
          rw [h1, h2, h3]
          exact ⟨_, _, _, _, _, rfl, .inr (.inr (.inl ⟨rfl, rfl, rfl, rfl, ruH⟩))⟩
        | true =>
          have h3 : r3 = thenD (unlinkD (Wd 100000 (uF (a ++ b)) false n3 f3 k3) nmS) sDir := by
            show sDrop nmS r2.1 = _
            rw [h2]
            unfold sDrop
            rw [if_neg (by rw [hasU rfl]; simp)]
          obtain ⟨n4, f4, k4, t4, e4, hc4 | hc4⟩ := sure_of (e3 e2) (unlinkU (n := n3) (l := a ++ b) t3)
          · rw [hc4, thenD_go] at h3
            obtain ⟨n5, f5, k5, t5, e5, hc5 | hc5⟩ := twice_out (room := 100000) (sh := uU (a ++ b)) (sh' := uV (a ++ b)) (o := syncDirD) (n := n4) (fun n f k h => dir2U h) t4
            · rw [show sDir (Wd 100000 (uU (a ++ b)) false n4 f4 k4) = _ from hc5] at h3
              rw [h1, h2, h3]
              exact ⟨_, _, _, _, _, rfl, .inr (.inr (.inr (.inr ⟨rfl, rfl, rfl, rfl, ruV⟩)))⟩
            · rw [show sDir (Wd 100000 (uU (a ++ b)) false n4 f4 k4) = _ from hc5] at h3
              rw [h1, h2, h3]
              exact ⟨_, _, _, _, _, rfl, .inr (.inr (.inr (.inl ⟨rfl, rfl, rfl, rfl, ruU⟩)))⟩
          · rw [hc4, thenD_11] at h3
            rw [h1, h2, h3]
            exact ⟨_, _, _, _, _, rfl, .inr (.inr (.inr (.inl ⟨rfl, rfl, rfl, rfl, fun n f k t ks => .inl (ruH n f k t ks)⟩)))⟩
      · rw [show sSync nmS (Wd 100000 (uG a b) false n2 f2 k2) = _ from hc3] at h2
        have h3 : r3 = (Wd 100000 (uG a b) true n3 f3 k3, 11) := by
          show (if drop then sDrop nmS r2.1 else (r2.1, (11 : Int))) = _
          rw [h2]
          cases drop
          · rfl
          · exact (off_ops (d := Wd 100000 (uG a b) true n3 f3 k3) rfl nmS b).2
        rw [h1, h2, h3]
        exact ⟨_, _, _, _, _, rfl, .inr (.inl ⟨rfl, rfl, rfl, ruG⟩)⟩
    · rw [hc2, thenD_11] at h2
      have h3 : r3 = (Wd 100000 (uF a) true n2 f2 k2, 11) := by
        show (if drop then sDrop nmS r2.1 else (r2.1, (11 : Int))) = _
        rw [h2]
        cases drop
        · rfl
        · exact (off_ops (d := Wd 100000 (uF a) true n2 f2 k2) rfl nmS b).2
      rw [h1, h2, h3]
      exact ⟨_, _, _, _, _, rfl, .inr (.inl ⟨rfl, rfl, rfl, ruF⟩)⟩
  · have h1 : r1 = (Wd 100000 sh true n1 f1 k1, 11) := hc
    have h2 : r2 = (Wd 100000 sh true n1 f1 k1, 11) := by show sAppend nmS b r1.1 = _; rw [h1]; exact (off_ops rfl nmS b).1
    have h3 : r3 = (Wd 100000 sh true n1 f1 k1, 11) := by
      show (if drop then sDrop nmS r2.1 else (r2.1, (11 : Int))) = _
      rw [h2]
      cases drop
      · rfl
      · exact (off_ops (d := Wd 100000 sh true n1 f1 k1) rfl nmS b).2
    rw [h1, h2, h3]
    exact ⟨_, _, _, _, _, rfl, .inl ⟨rfl, rfl, rfl, hrd⟩⟩
end
end Sf
end Go.Proofs.Ytchjncnolmiejaa

/- SafeSure: its walk. Written by gen_safesure.py. -/
namespace Go.Proofs.Ytchjncnolmiejaa
open Go.RowKit
namespace Sf
open Vd
theorem tr_c (c : Int) : Tr (-1, 0) (setT c 11) := ⟨Int.le_refl _, (setT_in c 11).1, fun h => by have : (0 : Int) ≤ -1 := h; omega⟩
theorem few_U (f k : Int × Int) : Few (Wd 100000 uA false 0 f k) 1 :=
  ⟨by show (0 : Int) ≤ 0; omega, by show (0 : Int) ≤ 1; omega, Nat.zero_le _, Nat.zero_le _, fun y hy => absurd hy (List.not_mem_nil), Nat.zero_le _, Nat.zero_le _⟩
end Sf
end Go.Proofs.Ytchjncnolmiejaa

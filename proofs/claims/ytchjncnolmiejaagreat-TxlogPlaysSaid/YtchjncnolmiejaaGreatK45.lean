/- Several texts in one: SfGrow, TxTwo, TxRot, SaDo, RfNewPl, SaSame. -/
import Derived.Test.YtchjncnolmiejaaGreatSfTidy
import Derived.Test.YtchjncnolmiejaaGreatK44
import Derived.Test.YtchjncnolmiejaaGreatK36
import Derived.Test.YtchjncnolmiejaaGreatK20
import Derived.Test.YtchjncnolmiejaaGreatK13
import Derived.Test.YtchjncnolmiejaaGreatK19
import Derived.Test.YtchjncnolmiejaaGreatK34
import Derived.Test.YtchjncnolmiejaaGreatK38
import Derived.Test.YtchjncnolmiejaaGreatK41
import Derived.Test.YtchjncnolmiejaaGreatK09
/- How many nodes each call makes; Boot on both disks, side by side; the two disks begin alike. -/
namespace Go.Proofs.YtchjncnolmiejaaGreat
open Go.RowKit
namespace Sf
open Vd
/-- at most so many nodes are made -/
def Grows (n : Nat) (f : Dsk → Dsk × Int) : Prop := ∀ d, (f d).1.nodes.length ≤ d.nodes.length + n
theorem grows_change (d : Dsk) : (changeD d).1.nodes.length = d.nodes.length := by rw [(changeD_seen d).2.1]
theorem grows_touch (d : Dsk) (x : Str) : (touchD d x).1.nodes.length = d.nodes.length := by rw [touch_fst, grows_change]
theorem grows_create (x : Str) : Grows 1 (fun d => createD d x) := fun d => by
 have := grows_change d
 show (createD d x).1.nodes.length ≤ _
 unfold createD
 split
 ·omega
 ·split
  ·show (changeD d).1.nodes.length ≤ _; omega
  ·split
   ·show (changeD d).1.nodes.length ≤ _; omega
   ·split
    ·show (changeD d).1.nodes.length ≤ _; omega
    ·show (bornD (changeD d).1).nodes.length ≤ _
     simp [bornD]
     omega
theorem grows_write (d : Dsk) (i : Nat) (p : Pat) : (writeD d i p).1.nodes.length = d.nodes.length := by
 unfold writeD
 split
 ·rfl
 ·simp [putD]
theorem grows_append (x b : Str) : Grows 0 (fun d => appendD d x b) := fun d => by
 have := grows_touch d x
 show (appendD d x b).1.nodes.length ≤ _
 unfold appendD
 split
 ·show (touchD d x).1.nodes.length ≤ _; omega
 ·rw [grows_write]; omega
theorem grows_sync (x : Str) : Grows 0 (fun d => syncD d x) := fun d => by
 have := grows_touch d x
 show (syncD d x).1.nodes.length ≤ _
 unfold syncD
 split
 ·show (touchD d x).1.nodes.length ≤ _; omega
 ·show (List.set _ _ _).length ≤ _
  rw [List.length_set]; omega
theorem grows_rename (x y : Str) : Grows 0 (fun d => renameD d x y) := fun d => by
 have := grows_change d
 show (renameD d x y).1.nodes.length ≤ _
 unfold renameD
 split
 ·omega
 ·split
  ·show (changeD d).1.nodes.length ≤ _; omega
  ·split
   ·show (changeD d).1.nodes.length ≤ _; omega
   ·show (changeD d).1.nodes.length ≤ _; omega
theorem grows_unlink (x : Str) : Grows 0 (fun d => unlinkD d x) := fun d => by
 have := grows_touch d x
 show (unlinkD d x).1.nodes.length ≤ _
 unfold unlinkD
 split
 ·show (touchD d x).1.nodes.length ≤ _; omega
 ·show (touchD d x).1.nodes.length ≤ _; omega
theorem grows_syncDir : Grows 0 syncDirD := fun d => by
 have := grows_change d
 unfold syncDirD
 split
 ·omega
 ·show (List.map staleN _).length ≤ _
  rw [List.length_map]; omega
theorem grows_boot (d : Dsk) (t : Int) (ks : List Int) : (bootD d t ks).1.nodes.length = d.nodes.length := by
 unfold bootD
 split
 ·rfl
 ·show (List.map staleN _).length = _
  rw [List.length_map, bootIx_len]
theorem grows_twice {f : Dsk → Dsk × Int} (h : Grows 0 f) : Grows 0 (twice f) := fun d => by
 have h1 := h d
 have h2 := h (f d).1
 unfold twice
 split <;> omega
theorem grows_then {n m : Nat} {f g : Dsk → Dsk × Int} (h1 : Grows n f) (h2 : Grows m g) : Grows (n + m) (fun d => thenD (f d) g) := fun d => by
 have h1 := h1 d
 have h2 := h2 (f d).1
 show (thenD (f d) g).1.nodes.length ≤ _
 unfold thenD
 split <;> omega
theorem grows_sSync (x : Str) : Grows 0 (sSync x) := grows_twice (grows_sync x)
theorem grows_sDir : Grows 0 sDir := grows_twice grows_syncDir
theorem grows_sUnlink (x : Str) : Grows 0 (sUnlink x) := grows_twice (grows_unlink x)
theorem grows_sAppend (x b : Str) : Grows 0 (sAppend x b) := grows_then (grows_append x b) (grows_sSync x)
theorem grows_sMake (x b : Str) : Grows 1 (sMake x b) := fun d => by
 have h1 := grows_create x d
 have h2 := grows_then (grows_sAppend x b) grows_sDir (createD d x).1
 have h3 := grows_sUnlink x (thenD (sAppend x b (createD d x).1) sDir).1
 dsimp only at h1 h2 h3
 unfold sMake
 split
 ·show d.nodes.length ≤ _; omega
 ·split
  ·exact h1
  ·unfold tidyD
   split
   ·omega
   ·show (sUnlink x _).1.nodes.length ≤ _; omega
theorem grows_sSwap1 (x n b : Str) : Grows 1 (sSwap1 x n b) := fun d => by
 have h1 := grows_then (grows_then (grows_then (grows_create n) (grows_sAppend n b)) (grows_rename n x)) grows_sDir d
 have h2 := grows_sUnlink n (thenD (thenD (thenD (createD d n) (sAppend n b)) (fun d => renameD d n x)) sDir).1
 dsimp only at h1 h2
 unfold sSwap1 tidyS
 split
 ·omega
 ·show (sUnlink n _).1.nodes.length ≤ _; omega
theorem grows_sSwap (x b : Str) : Grows 1 (sSwap x b) := fun d => by
 have h1 := grows_sSwap1 x (x ++ dotN) b d
 have h2 := grows_unlink (x ++ dotN) d
 have h3 := grows_sSwap1 x (x ++ dotN) b (unlinkD d (x ++ dotN)).1
 dsimp only at h2
 unfold sSwap
 split
 ·show d.nodes.length ≤ _; omega
 ·split
  ·split
   ·omega
   ·omega
  ·exact h1
end Sf
namespace Rf
open Vd
open Go.Maps
section
variable {L : List Nat} {W w w' : World} {g m : Nat} {d d' : Dsk} {r : RDsk} {k k' c : Nat} {S M : Nat → Prop}
theorem boot_two (h : TwoAt L W w g d m r k) (hk : k ≤ 90000) (hd : DR d r c) (hn : d.nodes.length ≤ 1024) (t : Int) (ht : (Lit.int .i64 t).wf = true) {kv : Value} {keep : List Int} (hr : Rs.Stay2 L W w kv (keep.map (Value.int .i64))) : Calls Tryz.prog 20 #[.pointer (some ⟨g, 0, none⟩), .int .i64 t, kv] w (TwoDid L W w g (bootD d t keep).1 m r k (.int .i64 (bootD d t keep).2)) := by
 obtain ⟨S, M, h⟩ := h
 exact (boot_any w h.dsk t ht (fun w' hm => hr S w' h.mine hm) (fun j => Nat.le_trans (hd.oku.gone hd.mv j).len hn) (by omega) (by have := h.few.m; omega)).mono (fun e w' hh => h.did hh (few_boot_dr h.few hd t keep) (Nat.le_refl _))
theorem fit_of (h : TwoAt L W w g d m r k) : Fit d := by
 obtain ⟨S, M, h⟩ := h
 obtain ⟨_, _, _, _, _, hh⟩ := h.dsk
 exact hh.fit
theorem rboot_two {d0 : Dsk} (h : TwoAt L W w g d0 m r k) (hk : k ≤ 90000) (hd : DR d r c) (hfit : Fit d) (hnk : d.nodes.length ≤ k) (t : Int) (ht : (Lit.int .i64 t).wf = true) {kv : Value} {keep : List Int} (hr : Rs.Stay2 L W w kv (keep.map (Value.int .i64))) : Calls Tryz.prog 21 #[.pointer (some ⟨m, 0, none⟩), .int .i64 t, kv] w (TwoDid L W w g d0 m (bootR r t keep).1 k (.int .i64 (bootR r t keep).2)) := by
 have hrow := hr.row
 obtain ⟨S, M, h⟩ := h
 have hgone : ∀ j, goneR r.sure r.waits j = goneD d.sure d.moves j := fun j => by rw [← hd.sure]; exact hd.turns j
 refine (rboot_r h.ref (by omega) t ht hrow (fun i hi hkn p hp => ?_) (fun j => ?_) (fun j => ?_) (fun p hp => ?_)).mono (fun e w' hh => ⟨hh.1, h.refd hh.2.1 hh.2.2 (Nat.le_refl _)⟩)
 ·have hi2 : i < d.nodes.length := by rw [← hd.flen]; exact hi
  rw [known_alike hd hi2, known_based hd] at hkn
  have hf := hd.files i _ (List.getElem?_eq_getElem hi2) hkn
  rw [List.getElem?_eq_getElem hi] at hf
  rw [Option.some.inj hf] at hp
  exact hfit.ps _ (List.getElem_mem hi2) p hp
 ·rw [hgone]
  exact Nat.le_trans (hd.oku.gone hd.mv j).len hnk
 ·rw [hgone]
  exact (hd.oku.gone hd.mv j).asc
 ·rw [hgone] at hp
  rw [hd.flen]
  exact (hd.oku.gone hd.mv t.toNat).lt p hp
/-- the traps are set alike -/
theorem dr_fail (h : DR d r c) (n e : Int) (hc : c ≤ 1000000000000) : DR { d with fail := failT n e } { r with fail := failingR n e, err := e } c :=
 {h with
  fail := by
   show TrapR (failT n e).1 (failingR n e) r.calls
   have h0 := h.c0
   have h1 := h.count
   unfold failT failingR
   by_cases h11 : e = 11
   ·rw [if_pos h11, if_pos h11, setT_ok]
    exact trap_none _
   ·rw [if_neg h11, if_neg h11]
    unfold setT armR
    by_cases hn : n < 0
    ·rw [if_pos (.inl hn), if_pos (.inl hn)]
     exact trap_none _
    ·by_cases he : e = 0
     ·rw [if_pos (.inr (.inr he)), if_pos (.inr he)]
      exact trap_none _
     ·by_cases hf : 4611686018427387904 ≤ n
      ·rw [if_pos (.inr (.inl hf)), if_neg (by omega)]
       exact .inr ⟨rfl, by omega⟩
      ·rw [if_neg (by omega), if_neg (by omega)]
       exact .inl ⟨rfl, by show -1 ≤ n; omega, by show n ≤ _; omega⟩
  code := fun hh => by
   have hh : 0 ≤ (failT n e).1 := hh
   show (failT n e).2 = e
   unfold failT setT at hh ⊢
   by_cases h11 : e = 11
   ·rw [if_pos h11, if_pos (.inr (.inr rfl))] at hh
    exact absurd hh neg_one
   ·rw [if_neg h11] at hh ⊢
    split at hh
    ·exact absurd hh neg_one
    ·rw [if_neg ‹_›] }
theorem dr_crash (h : DR d r c) (n : Int) : DR { d with crash := setT n 11 } { r with crash := armR n 11 } c :=
 {h with
  crash := by
   show TrapR (setT n 11).1 (armR n 11) r.calls
   have h0 := h.c0
   have h1 := h.count
   unfold setT armR
   by_cases hn : n < 0
   ·rw [if_pos (.inl hn), if_pos (.inl hn)]
    exact trap_none _
   ·by_cases hf : 4611686018427387904 ≤ n
    ·rw [if_pos (.inr (.inl hf)), if_neg (by omega)]
     exact .inr ⟨rfl, by omega⟩
    ·rw [if_neg (by omega), if_neg (by omega)]
     exact .inl ⟨rfl, by show -1 ≤ n; omega, by show n ≤ _; omega⟩ }
end
end Rf
end Go.Proofs.YtchjncnolmiejaaGreat

/- txlog's Open and Add where both disks are: a disk beside another's blocks. -/
namespace Go.Proofs.YtchjncnolmiejaaGreat
open Go.RowKit
namespace Txl
open Vd Rf
section
variable {L : List Nat} {W w w' : World} {g m : Nat} {d d' : Dsk} {r : RDsk} {k k' : Nat} {S M : Nat → Prop}
open Classical in
/-- the other disk's blocks are set aside, one by one -/
theorem two_split (h : TwoAt L W w g d m r k) : ∃ L', (∀ y ∈ L, y ∈ L') ∧ OneAt L' W w g d k ∧ ∀ (Lx : List Nat) (T : Nat → Prop) (w' : World) (d' : Dsk) (k' : Nat), OneAt (Lx ++ L') W w' g d' k' → Mods T w w' → (∀ y, T y → W.heap.size ≤ y ∧ (y ∉ L' ∨ y ∈ L)) → (∀ b ∈ Lx, w.heap.size ≤ b) → k ≤ k' → TwoAt (Lx ++ L) W w' g d' m r k' := by
 obtain ⟨S, M, h⟩ := h
 have hin : ∀ y, M y → y ∈ L ++ (List.range w.heap.size).filter (fun y => decide (M y)) := fun y hy => List.mem_append.2 (.inr (List.mem_filter.2 ⟨List.mem_range.2 (h.lm y hy).2.1, decide_eq_true hy⟩))
 refine ⟨L ++ (List.range w.heap.size).filter (fun y => decide (M y)), fun y hy => List.mem_append.2 (.inl hy), ⟨S, ?_⟩, fun Lx T w' d' k' ho hm hT hx hk => ?_⟩
 ·refine ⟨h.dsk, fun y hy => ⟨(h.ls y hy).1, (h.ls y hy).2.1, fun hh => ?_⟩, fun y hy => ?_, h.keep, h.few⟩
  ·rcases List.mem_append.1 hh with hh | hh
   ·exact (h.ls y hy).2.2 hh
   ·exact h.ap y hy (of_decide_eq_true (List.mem_filter.1 hh).2)
  ·rcases List.mem_append.1 hy with hy | hy
   ·exact h.ll y hy
   ·exact List.mem_range.1 (List.mem_filter.1 hy).1
 ·obtain ⟨S', ho⟩ := ho
  have hnT : ∀ y, M y → ¬ T y := fun y hy ht => by
   rcases (hT y ht).2 with hh | hh
   ·exact hh (hin y hy)
   ·exact (h.lm y hy).2.2 hh
  exact ⟨S', M,
   {dsk := ho.dsk
    ref := (h.ref.apart hm hnT).more hk
    ap := fun y hy hh => (ho.ls y hy).2.2 (List.mem_append.2 (.inr (hin y hh)))
    ls := fun y hy => ⟨(ho.ls y hy).1, (ho.ls y hy).2.1, fun hh => (ho.ls y hy).2.2 (by
     rcases List.mem_append.1 hh with hh | hh
     ·exact List.mem_append.2 (.inl hh)
     ·exact List.mem_append.2 (.inr (List.mem_append.2 (.inl hh))))⟩
    lm := fun y hy => ⟨(h.lm y hy).1, Nat.lt_of_lt_of_le (h.lm y hy).2.1 hm.size, fun hh => by
     rcases List.mem_append.1 hh with hh | hh
     ·have := hx y hh
      have := (h.lm y hy).2.1
      omega
     ·exact (h.lm y hy).2.2 hh⟩
    ll := fun y hy => ho.ll y (by
     rcases List.mem_append.1 hy with hy | hy
     ·exact List.mem_append.2 (.inl hy)
     ·exact List.mem_append.2 (.inr (List.mem_append.2 (.inl hy))))
    keep := ho.keep, few := ho.few }⟩
/-- what Open leaves -/
def OpenTwo (L : List Nat) (W w : World) (g : Nat) (x : Str) (q : Dsk × Int × Str) (m : Nat) (r : RDsk) (k : Nat) (e : Ending) (w' : World) : Prop :=
 (q.2.1 ≠ 0 ∧ e = .returned (.tuple #[.pointer none, .slice none 0 0, .int .i64 q.2.1]) ∧ TwoAt L W w' g q.1 m r k ∧ Mods (fun y => W.heap.size ≤ y ∧ y ∉ L) w w') ∨
 (q.2.1 = 0 ∧ ∃ b tv X, e = .returned (.tuple #[.pointer (some ⟨b, 0, none⟩), tv, .int .i64 0]) ∧ w.heap.size ≤ b ∧ TwoAt (b :: L) W w' g q.1 m r k ∧ Mods (fun y => W.heap.size ≤ y ∧ y ∉ L) w w' ∧ Blk w' b 100 (logA g x (rep q.2.2).1.length (decide ((rep q.2.2).2 = (q.2.2.length : Int)))) ∧ TxsAt w' w.heap.size tv X ∧ X.map txP = (rep q.2.2).1)
theorem open_two (h : TwoAt L W w g d m r k) (hk : k ≤ 89900) (x : Str) (hx : x.length ≤ 100) : Calls Tryz.prog 9 #[.pointer (some ⟨g, 0, none⟩), .string (bstr x)] w (OpenTwo L W w g x (openD d x) m r (k + 8)) := by
 obtain ⟨L', hL, ho, hback⟩ := two_split h
 refine (open_any ho (by omega) x hx).mono (fun e w' hh => ?_)
 unfold OpenDid at hh
 have hless : ∀ {w' : World}, Mods (fun y => W.heap.size ≤ y ∧ y ∉ L') w w' → Mods (fun y => W.heap.size ≤ y ∧ y ∉ L) w w' := fun hm => hm.mono (fun y hy => ⟨hy.1, fun hh => hy.2 (hL y hh)⟩)
 by_cases he : (openD d x).2.1 = 0
 ·rw [if_pos he] at hh
  obtain ⟨b, tv, X, h1, h2, h3, h4, h5, h6, h7⟩ := hh
  exact .inr ⟨he, b, tv, X, h1, h2, hback [b] _ w' _ _ h3 h4 (fun y hy => ⟨hy.1, .inl hy.2⟩) (fun y hy => by rw [List.mem_singleton.1 hy]; exact h2) (by omega), hless h4, h5, h6, h7⟩
 ·rw [if_neg he] at hh
  exact .inl ⟨he, hh.1, hback [] _ w' _ _ hh.2.1 hh.2.2 (fun y hy => ⟨hy.1, .inl hy.2⟩) (fun y hy => absurd hy (List.not_mem_nil)) (by omega), hless hh.2.2⟩
/-- what Add, Rotate leave -/
def AddTwo (L : List Nat) (W w : World) (g b : Nat) (x : Str) (wh : Bool) (q : (Dsk × Nat) × Int) (m : Nat) (r : RDsk) (k : Nat) (e : Ending) (w' : World) : Prop := e = .returned (.int .i64 q.2) ∧ TwoAt L W w' g q.1.1 m r k ∧ Blk w' b 100 (logA g x q.1.2 wh) ∧ Mods (fun y => W.heap.size ≤ y ∧ (y ∉ L ∨ y = b)) w w'
theorem add_two {b n : Nat} {x : Str} {wh : Bool} (h : TwoAt L W w g d m r k) (hk : k ≤ 89900) (hb : b ∈ L) (hbW : W.heap.size ≤ b) (hB : Blk w b 100 (logA g x n wh)) (hn : n ≤ 1000000000000) (hx : x.length ≤ maxLen) (v : Value) (l : List (Value × List UInt8)) (hr : Row w v (l.map (·.1))) (hp : ∀ y ∈ l, Frm.payOk w y) : Calls Tryz.prog 31 #[.pointer (some ⟨b, 0, none⟩), v] w (AddTwo L W w g b x wh (addD d x n wh (l.map (·.2))) m r (k + 3)) := by
 obtain ⟨L', hL, ho, hback⟩ := two_split h
 refine (add_any ho (by omega) (hL b hb) hbW hB hn hx v l hr hp).mono (fun e w' hh => ?_)
 obtain ⟨h1, h2, h3, h4⟩ := hh
 refine ⟨h1, hback [] _ w' _ _ h2 h4 (fun y hy => ⟨hy.1, hy.2.imp id (fun e => by rw [e]; exact hb)⟩) (fun y hy => absurd hy (List.not_mem_nil)) (by omega), h3, h4.mono (fun y hy => ⟨hy.1, hy.2.imp (fun hn hh => hn (hL y hh)) id⟩)⟩
/-- safe.Swap, beside blocks that are none of the disk's -/
theorem OneAt.swap (h : OneAt L W w g d k) (hk : k ≤ 89960) {x b : Str} {p0 : Option Addr} {c0 : Nat} (hx : x.length ≤ 100) (hs : ∀ T w', (∀ y, T y → W.heap.size ≤ y ∧ y ∉ L) → Mods T w w' → Row w' (.slice p0 b.length c0) (b.map u8v)) (hbl : b.length ≤ 1000000000) : Calls Tryz.prog 55 #[.pointer (some ⟨g, 0, none⟩), .string (bstr x), .slice p0 b.length c0] w fun e w' => e = .returned (.int .i64 (Sf.sSwap x b d).2) ∧ OneRest L W w g (Sf.sSwap x b d).1 (k + 10) w' := by
 obtain ⟨S, h⟩ := h
 refine (Sf.sswap_on h.on hk hx (fun w2 hm => hs S w2 (fun y hy => ⟨(h.ls y hy).1, (h.ls y hy).2.2⟩) hm) hbl).mono ?_
 rintro e w' ⟨c, rfl, rfl, ho⟩
 exact ⟨rfl, h.rest ho⟩
end
end Txl
end Go.Proofs.YtchjncnolmiejaaGreat

/- txlog.Rotate, and where both disks are. -/
namespace Go.Proofs.YtchjncnolmiejaaGreat
open Go.RowKit
namespace Txl
open Vd Rf
def rotD (d : Dsk) (x : Str) (n : Nat) (wh : Bool) (items : List Item) : (Dsk × Nat × Bool) × Int :=
 if txE 1 items ≠ 0 then ((d, n, wh), txE 1 items)
 else if (Sf.sSwap x (txL 1 items) d).2 = 0 then (((Sf.sSwap x (txL 1 items) d).1, 1, true), 0)
 else (((Sf.sSwap x (txL 1 items) d).1, n, wh), (Sf.sSwap x (txL 1 items) d).2)
def RotDid (L : List Nat) (W w : World) (g b : Nat) (x : Str) (r : (Dsk × Nat × Bool) × Int) (k : Nat) (e : Ending) (w' : World) : Prop := e = .returned (.int .i64 r.2) ∧ OneAt L W w' g r.1.1 k ∧ Blk w' b 100 (logA g x r.1.2.1 r.1.2.2) ∧ Mods (fun y => W.heap.size ≤ y ∧ (y ∉ L ∨ y = b)) w w'
set_option maxRecDepth 100000 in
set_option maxHeartbeats 4000000 in
theorem rotate_any {L : List Nat} {W w : World} {g : Nat} {d : Dsk} {k b n : Nat} {x : Str} {wh : Bool} (h : OneAt L W w g d k) (hk : k ≤ 89900) (hb : b ∈ L) (hbW : W.heap.size ≤ b) (hB : Blk w b 100 (logA g x n wh)) (hx : x.length ≤ 100) (v : Value) (l : List (Value × List UInt8)) (hr : Row w v (l.map (·.1))) (hp : ∀ y ∈ l, Frm.payOk w y) : Calls Tryz.prog 15 #[.pointer (some ⟨b, 0, none⟩), v] w (RotDid L W w g b x (rotD d x n wh (l.map (·.2))) (k + 10)) := by
 have H := Lib.hid h
 have HB := Lib.hid hB
 have HL := Lib.hid hb
 have HBY := Lib.hid (txBytes_any 1 (by omega) v l w hr hp)
 obtain ⟨pv, cv, rfl, -, -⟩ := hr.form
 rw [List.length_map] at HBY ⊢
 have HX0 : Hid (rotD d x n wh (l.map (·.2)) = if txE 1 (l.map (·.2)) ≠ 0 then ((d, n, wh), txE 1 (l.map (·.2))) else if (Sf.sSwap x (txL 1 (l.map (·.2))) d).2 = 0 then (((Sf.sSwap x (txL 1 (l.map (·.2))) d).1, 1, true), 0) else (((Sf.sSwap x (txL 1 (l.map (·.2))) d).1, n, wh), (Sf.sSwap x (txL 1 (l.map (·.2))) d).2)) := Lib.hid rfl
 have HTL := Lib.hid (txL_len (n := 1) (items := l.map (·.2)))
 generalize rotD d x n wh (l.map (·.2)) = r at *
 clear h hB hb hr hp
 have HX1 := HX0
 generalize txL 1 (l.map (·.2)) = tl at *
 generalize txE 1 (l.map (·.2)) = te at *
 unfold Frm.RetSI at HBY
 clear HX0
 go_enter Tryz.func15, Tryz.ntmps15
 go_wp2_with fail
 refine HBY.out.mono ?_
 rintro e w1 ⟨tv, rfl, hown, hk1⟩
 have HO := Lib.hid hown
 have HK1 := Lib.hid hk1
 have HB1 := Lib.hid (HB.out.keeps hk1)
 have H1 := Lib.hid (H.out.keeps hk1)
 obtain ⟨pt, ct, rfl, -, -⟩ := hown.row.formB
 clear hown hk1 HBY
 by_cases he : te = 0
 ·have HX2 := Lib.hid (HX1.out.trans (if_neg (by simp [he])))
  have t0 : (te == 0) = true := by simp [he]
  -- the bytes' block, if there is one, is none of the disk's
  have HSA : Hid (∃ L1, (∀ y ∈ L, y ∈ L1) ∧ OneAt L1 W w1 g d k ∧ ∀ T w', (∀ y, T y → W.heap.size ≤ y ∧ y ∉ L1) → Mods T w1 w' → Row w' (.slice pt tl.length ct) (tl.map u8v)) := Lib.hid (by
   cases pt with
   | none =>
    refine ⟨L, fun y hy => hy, H1.out, fun T w' _ _ => ?_⟩
    rcases HO.out.row with h | ⟨_, _, _, hv, -⟩
    ·exact .inl h
    ·simp at hv
   | some a =>
    obtain ⟨q, qo, qs⟩ := a
    have hq : w.heap.size ≤ q := HO.out.base q (by simp [Value.ownBlock])
    have hq2 : q < w1.heap.size := HO.out.block_lt q (by simp [Value.ownBlock])
    obtain ⟨q3, cap3, hv3, -⟩ := (HO.out.length_lt).resolve_left (fun hh => by simp at hh)
    simp only [Value.slice.injEq, Option.some.injEq, Addr.mk.injEq] at hv3
    obtain ⟨⟨rfl, rfl, rfl⟩, -, -⟩ := hv3
    exact ⟨q :: L, fun y hy => List.mem_cons_of_mem _ hy, H.out.aside HK1.out hq hq2, fun T w' hT hm => row_modsB HO.out.row hm (fun hh => (hT _ hh).2 (List.mem_cons_self ..))⟩)
  obtain ⟨L1, hL1, hA1, hRow⟩ := HSA.out
  have HL1 := Lib.hid hL1
  have HA1 := Lib.hid hA1
  have HRW := Lib.hid hRow
  clear hL1 hA1 hRow HSA he
  go_upto_region 3 with fail
  have HAC := Lib.hid (OneAt.swap (HA1.out.keeps (Keeps.refl w1).drew) (x := x) (b := tl) (p0 := pt) (c0 := ct) (by omega) hx (fun T w' hT hm => HRW.out T w' hT (show Mods T w1 w' from (Mods.refl T w1).drew.trans hm (fun y hy _ => hy))) (by have := HTL.out; omega))
  have HMD := Lib.hid (show Mods (fun y => W.heap.size ≤ y ∧ (y ∉ L ∨ y = b)) w w1.drew from Mods.of_keeps (HK1.out.trans (Keeps.refl w1).drew))
  generalize Sf.sSwap x tl d = sa at *
  obtain ⟨d3, e3⟩ := sa
  simp only at HAC HX2
  refine wp_region_noPanic ?_
  refine wp_region_held_drew (S := fun w' => Mods (fun y => y ≠ b) w1 w') (by kernel_rfl) ((Mods.refl (fun y => y ≠ b) w1).drew) (fun _ => ?_)
  have hHeld : Mods (fun y => y ≠ b) w1 (w1).drew := (Mods.refl (fun y => y ≠ b) w1).drew
  generalize World.drew w1 = xs at *
  refine tq 0 14 ?_
  refine tq 1 15 ?_
  refine tq 2 16 ?_
  refine tq 3 17 ?_ (hy := fun w' hSw => by
   have hSw : Mods (fun y => y ≠ b) w1 w' := hSw
   have hBq := HB1.out.mods hSw (fun e => e rfl)
   have hx0 : World.cell? w' ⟨b, 0, none⟩ = some (.pointer (some ⟨g, 0, none⟩)) := by rw [hBq.cell]; rfl
   clear hSw
   go_simp
   try with_reducible rfl)
  refine tq 4 18 ?_
  refine tq 5 19 ?_
  refine tq 6 20 ?_
  refine tq 7 21 ?_ (hy := fun w' hSw => by
   have hSw : Mods (fun y => y ≠ b) w1 w' := hSw
   have hBq := HB1.out.mods hSw (fun e => e rfl)
   have hx0 : World.cell? w' ⟨b, 1, none⟩ = some (.string (bstr x)) := by rw [hBq.cell]; rfl
   clear hSw
   go_simp
   try with_reducible rfl)
  refine tq 8 22 ?_
  refine rd1 9 (fun K hK => ?_)
  go_simp
  refine HAC.out.mono ?_
  rintro e w2 ⟨rfl, ho, hm⟩
  have HO2 := Lib.hid ho
  have HM2 := Lib.hid (HMD.out.trans hm (T := fun y => W.heap.size ≤ y ∧ y ∉ L1) (fun y hy _ => ⟨hy.1, .inl (fun hh => hy.2 (HL1.out y hh))⟩))
  have hb := hHeld.trans hm (T := fun y => W.heap.size ≤ y ∧ y ∉ L1) (fun y hy _ e => hy.2 (by rw [e]; exact HL1.out b HL.out))
  clear ho hm HAC HMD
  go_wp2_with fail
  refine bkm hK hb ?_
  clear hK K hHeld
  have hHeld : Mods (fun y => y ≠ b) w1 w2 := hb
  clear hb
  refine tq 10 6 ?_
  refine wpAnyH_done (by kernel_rfl) ?_ _
  refine NoPanic.normal ?_
  have HB2 := Lib.hid (HB1.out.mods hHeld (fun e => e rfl))
  clear hHeld
  by_cases h3 : e3 = 0
  ·have HX := Lib.hid (HX2.out.trans (if_pos h3))
   have t3 : (e3 == 0) = true := by simp [h3]
   have z2 : w2.frozen? ⟨b, 2, none⟩ = false := HB2.out.frozen _
   have z3 : w2.frozen? ⟨b, 3, none⟩ = false := HB2.out.frozen _
   have c2 : w2.cell? ⟨b, 2, none⟩ = some (.int .i64 (n : Int)) := by rw [HB2.out.cell]; rfl
   have c3 : w2.cell? ⟨b, 3, none⟩ = some (.bool wh) := by rw [HB2.out.cell]; rfl
   subst h3
   go_wp2_with fail
   go_ret
   rw [HX.out]
   obtain ⟨S, h9⟩ := HO2.out
   have hM : Mods (fun y => y = b) w2 ((w2.setCell ⟨b, 2, none⟩ (.int .i64 1)).setCell ⟨b, 3, none⟩ (.bool true)) := ((Mods.refl (fun y => y = b) w2).setCell (p := ⟨b, 2, none⟩) (fun _ => rfl) _).setCell (p := ⟨b, 3, none⟩) (fun _ => rfl) _
   have h10 : One L1 W ((w2.setCell ⟨b, 2, none⟩ (.int .i64 1)).setCell ⟨b, 3, none⟩ (.bool true)) g d3 (k + 10) S := ⟨h9.dsk.apart hM (fun y hy e => by subst e; exact (h9.ls _ hy).2.2 (HL1.out _ HL.out)), fun y hy => by have := h9.ls y hy; exact ⟨this.1, Nat.lt_of_lt_of_le this.2.1 hM.size, this.2.2⟩, fun y hy => Nat.lt_of_lt_of_le (h9.ll y hy) hM.size, hM.keeps h9.keep (fun y hy => by subst hy; exact hbW), h9.few⟩
   refine ⟨rfl, (show OneAt L1 _ _ _ _ _ from ⟨S, h10⟩).drop HL1.out, ?_, HM2.out.trans hM (fun y hy _ => ⟨by subst hy; exact hbW, .inr hy⟩)⟩
   exact (HB2.out.set_ 2 (.int .i64 1)).set_ 3 (.bool true)
  ·have HX := Lib.hid (HX2.out.trans (if_neg h3))
   have t3 : (e3 == 0) = false := by simp [h3]
   clear h3
   go_wp2_with fail
   go_ret
   rw [HX.out]
   exact ⟨rfl, HO2.out.drop HL1.out, HB2.out, HM2.out⟩
 ·have HX := Lib.hid (HX1.out.trans (if_pos he))
  have t0 : (te == 0) = false := by simp [he]
  clear he
  go_wp2_with fail
  go_ret
  rw [HX.out]
  exact ⟨rfl, H1.out.more (by omega), HB1.out, Mods.of_keeps HK1.out⟩

def RotTwo (L : List Nat) (W w : World) (g b : Nat) (x : Str) (q : (Dsk × Nat × Bool) × Int) (m : Nat) (r : RDsk) (k : Nat) (e : Ending) (w' : World) : Prop := e = .returned (.int .i64 q.2) ∧ TwoAt L W w' g q.1.1 m r k ∧ Blk w' b 100 (logA g x q.1.2.1 q.1.2.2) ∧ Mods (fun y => W.heap.size ≤ y ∧ (y ∉ L ∨ y = b)) w w'
theorem rotate_two {L : List Nat} {W w : World} {g m : Nat} {d : Dsk} {r : RDsk} {k b n : Nat} {x : Str} {wh : Bool} (h : TwoAt L W w g d m r k) (hk : k ≤ 89800) (hb : b ∈ L) (hbW : W.heap.size ≤ b) (hB : Blk w b 100 (logA g x n wh)) (hx : x.length ≤ 100) (v : Value) (l : List (Value × List UInt8)) (hr : Row w v (l.map (·.1))) (hp : ∀ y ∈ l, Frm.payOk w y) : Calls Tryz.prog 15 #[.pointer (some ⟨b, 0, none⟩), v] w (RotTwo L W w g b x (rotD d x n wh (l.map (·.2))) m r (k + 10)) := by
 obtain ⟨L', hL, ho, hback⟩ := two_split h
 refine (rotate_any ho (by omega) (hL b hb) hbW hB hx v l hr hp).mono (fun e w' hh => ?_)
 obtain ⟨h1, h2, h3, h4⟩ := hh
 refine ⟨h1, hback [] _ w' _ _ h2 h4 (fun y hy => ⟨hy.1, hy.2.imp id (fun e => by rw [e]; exact hb)⟩) (fun y hy => absurd hy (List.not_mem_nil)) (by omega), h3, h4.mono (fun y hy => ⟨hy.1, hy.2.imp (fun hn hh => hn (hL y hh)) id⟩)⟩
end Txl
end Go.Proofs.YtchjncnolmiejaaGreat

/- law16's do: the two disks answer alike, and are alike behind it. (MADE BY gen_sado.py.) -/
namespace Go.Proofs.YtchjncnolmiejaaGreat
open Go.RowKit
namespace Sa
open Vd Rf Sf Rs
open Go.Maps
theorem bstr_data (l : List UInt8) : (bstr l).data.toList = l := by simp [bstr]
theorem wf_in {n : Int} (h : (Lit.int .i64 n).wf = true) : -9223372036854775808 ≤ n ∧ n ≤ 9223372036854775807 := by simpa [Lit.wf, IntKind.min, IntKind.max, IntKind.signed, IntKind.bits] using h
theorem armR_in {n e : Int} (h : -9223372036854775808 ≤ n ∧ n ≤ 9223372036854775807) : -1 ≤ armR n e ∧ armR n e ≤ 9223372036854775807 := by
 unfold armR
 split <;> omega
theorem failingR_in {n e : Int} (h : -9223372036854775808 ≤ n ∧ n ≤ 9223372036854775807) : -1 ≤ failingR n e ∧ failingR n e ≤ 9223372036854775807 := by
 unfold failingR
 split
 ·omega
 ·exact armR_in h
theorem str_bytes_lt {P : Program} (w : World) {t e u : TypeId} (ht : P.underlying t = some (.slice e)) (he : P.underlying e = some (.int .u8)) (hu : P.underlying u = some .string) (s : ByteArray) (hs : s.size ≤ maxLen) :
  ∃ c w', (convert u t (.string s)).run P w = .ok (.slice (some ⟨w.heap.size, 0, none⟩) s.size c) w' ∧ Row w' (.slice (some ⟨w.heap.size, 0, none⟩) s.size c) (s.data.toList.map u8v) ∧ Keeps w w' ∧ w.heap.size < w'.heap.size := by
 obtain ⟨c, w', h1, h2, h3⟩ := str_bytes w ht he hu s hs
 refine ⟨c, w', h1, h2, h3, ?_⟩
 have h4 := Lib.run_convert_string_bytes w u t e s hu ht he
 rw [h1] at h4
 simp only [Result.ok.injEq] at h4
 rw [h4.2, Lib.bytesWorld_size]
 omega
theorem traps {L : List Nat} {W w : World} {g m : Nat} {d : Dsk} {r : RDsk} {k : Nat} (h : TwoAt L W w g d m r k) : (-1 ≤ r.fail ∧ r.fail ≤ 9223372036854775807) ∧ (-1 ≤ r.crash ∧ r.crash ≤ 9223372036854775807) := by
 obtain ⟨S, M, h⟩ := h
 obtain ⟨fv, nv, sv, wv, fw, hh⟩ := h.ref
 exact ⟨hh.fit.t1, hh.fit.t2⟩
theorem stayW {L : List Nat} {W w : World} {g m : Nat} {d : Dsk} {r : RDsk} {k : Nat} (h : TwoAt L W w g d m r k) {v : Value} {l : List Value} (hr : Row W v l) : Stay2 L W w v l := fun T _ hT hm => hr.keeps (hm.keeps h.kp (fun y hy => (hT y hy).1))
/-- one answer, alike behind it -/
def SaDid (W : World) (g m n k c : Nat) (e : Ending) (w' : World) : Prop := ∃ d' r', e = .returned (.bool true) ∧ TwoAt [] W w' g d' m r' k ∧ DR d' r' c ∧ d'.nodes.length ≤ n
section
variable {W w : World} {g m : Nat} {d : Dsk} {r : RDsk} {k c : Nat}
end
end Sa
end Go.Proofs.YtchjncnolmiejaaGreat

/- The document's disk, plain: New of any files; it is alike with the disk's. -/
namespace Go.Proofs.YtchjncnolmiejaaGreat
open Go.RowKit
namespace Rf
open Vd
def filF (f : FileX) : RFil := ⟨f.2.1, f.2.1, []⟩
/-- the files and names, laid one behind the other; u: the bytes so far -/
def newG (cap : Int) : List FileX → List RFil → Nms → Nat → Option (List RFil × Nms)
 | [], rs, l, _ => some (rs, l)
 | f :: fs, rs, l, u => if namedB f.1 = false then none else if (Vd.look l f.1).isSome then none else if cap - (u : Int) < (f.2.1.length : Int) then none else newG cap fs (rs ++ [filF f]) (putN l f.1 rs.length) (u + f.2.1.length)
theorem newG_cons (cap : Int) (f : FileX) (fs : List FileX) (rs : List RFil) (l : Nms) (u : Nat) : newG cap (f :: fs) rs l u = if namedB f.1 = false then none else if (Vd.look l f.1).isSome then none else if cap - (u : Int) < (f.2.1.length : Int) then none else newG cap fs (rs ++ [filF f]) (putN l f.1 rs.length) (u + f.2.1.length) := rfl
def newR (fs : List FileX) (cap : Int) : Option RDsk :=
 if cap < 1 ∨ 4194304 < cap ∨ 1024 < fs.length then none
 else (newG cap fs [] [] 0).map fun r => ⟨r.1, r.2, r.2, [], cap, false, 0, -1, -1, 0⟩
structure NewOk (ns : List Nod) (l : Nms) : Prop where
 ok : NmsOk l ns.length
 old : ∀ x ∈ ns, x.fresh = false
 nl : ∀ p ∈ l, p.1.length ≤ 32
theorem bytes_more {ns : List Nod} {l : Nms} (h : ∀ p ∈ l, p.2 < ns.length) (x : Nod) : bytesN (ns ++ [x]) l = bytesN ns l := by
 unfold bytesN
 congr 1
 refine List.map_congr_left fun p hp => ?_
 rw [List.getElem?_append_left (h p hp)]
theorem sum_parts (f : Str × Nat → Nat) (x : Str) : ∀ l : Nms, (∀ p ∈ l, p.1 ≠ x) → ((l.filter fun p => decide (p.1 < x)).map f).sum + ((l.filter fun p => decide (x < p.1)).map f).sum = (l.map f).sum
 | [], _ => rfl
 | p :: l, h => by
  have ih := sum_parts f x l (fun q hq => h q (List.mem_cons_of_mem _ hq))
  have hne := h p (List.mem_cons_self ..)
  rw [List.filter_cons, List.filter_cons, List.map_cons, List.sum_cons]
  rcases str_tri p.1 x with h1 | h1 | h1
  ·have h2 : ¬ x < p.1 := fun hh => str_irrefl _ (str_trans h1 hh)
   rw [if_pos (decide_eq_true h1), if_neg (by simpa using h2), List.map_cons, List.sum_cons]
   omega
  ·exact absurd h1 hne
  ·have h2 : ¬ p.1 < x := fun hh => str_irrefl _ (str_trans h1 hh)
   rw [if_neg (by simpa using h2), if_pos (decide_eq_true h1), List.map_cons, List.sum_cons]
   omega
theorem bytes_put {ns : List Nod} {l : Nms} (h : NmsOk l ns.length) {x : Str} (hx : Vd.look l x = none) (b : Str) : bytesN (ns ++ [madeN b]) (putN l x ns.length) = bytesN ns l + b.length := by
 have h1 := bytes_more h.lt (madeN b)
 rw [← h1]
 have h2 := sum_parts (fun p => (((ns ++ [madeN b])[p.2]?).map (·.seen.length)).getD 0) x l (look_none.1 hx)
 unfold bytesN
 rw [← h2]
 unfold putN
 rw [List.map_append, List.sum_append, List.map_cons, List.sum_cons]
 have h3 : (((ns ++ [madeN b])[ns.length]?).map (·.seen.length)).getD 0 = b.length := by
  rw [List.getElem?_concat_length]
  rfl
 rw [h3]
 omega
theorem nms_put {l : Nms} {n : Nat} (h : NmsOk l n) {x : Str} (hx : x ≠ []) : NmsOk (putN l x n) (n + 1) := by
 have h1 := nms_give (m := ⟨n, x, true⟩) (h.more (Nat.le_succ n)) (Nat.lt_succ_self n)
 unfold giveN at h1
 rw [if_neg hx, drop_none h (Nat.le_refl n)] at h1
 exact h1
theorem newOk_step {ns : List Nod} {l : Nms} (h : NewOk ns l) {x : Str} (hn : namedB x = true) (b : Str) : NewOk (ns ++ [madeN b]) (putN l x ns.length) :=
 ⟨by rw [List.length_append]; exact nms_put h.ok (named_ne hn), fun y hy => by
  rcases List.mem_append.1 hy with hy | hy
  ·exact h.old y hy
  ·rw [List.mem_singleton.1 hy]; rfl, fun p hp => by
  rcases put_mem hp with hp | rfl
  ·exact h.nl p hp
  ·exact named_len hn⟩
theorem newG_is (cap : Int) : ∀ (fs : List FileX) (ns : List Nod) (l : Nms), NewOk ns l → newG cap fs (ns.map filOf) l (bytesN ns l) = (newF cap fs ns l).map (fun r => (r.1.map filOf, r.2)) ∧ ∀ r, newF cap fs ns l = some r → NewOk r.1 r.2
 | [], ns, l, h => ⟨rfl, fun r hr => by cases hr; exact h⟩
 | f :: fs, ns, l, h => by
  rw [newG_cons, newF_cons]
  by_cases h1 : namedB f.1 = false
  ·rw [if_pos h1, if_pos h1]
   split
   ·exact ⟨rfl, fun r hr => by cases hr⟩
   ·exact ⟨rfl, fun r hr => by cases hr⟩
  rw [if_neg h1, if_neg h1]
  by_cases h2 : (Vd.look l f.1).isSome = true
  ·rw [if_pos h2, if_pos h2]
   exact ⟨rfl, fun r hr => by cases hr⟩
  rw [if_neg h2, if_neg h2]
  by_cases h3 : cap - (bytesN ns l : Int) < (f.2.1.length : Int)
  ·rw [if_pos h3, if_pos h3]
   exact ⟨rfl, fun r hr => by cases hr⟩
  rw [if_neg h3, if_neg h3]
  have hl : Vd.look l f.1 = none := by simpa using h2
  have ih := newG_is cap fs (ns ++ [madeN f.2.1]) (putN l f.1 ns.length) (newOk_step h (by simpa using h1) f.2.1)
  rw [bytes_put h.ok hl, List.map_append] at ih
  rw [List.length_map]
  exact ih
theorem dr_made {cap : Int} {ns : List Nod} {l : Nms} (h : NewOk ns l) : DR ⟨cap, ns, l, l, [], false, 0, (-1, 0), (-1, 0)⟩ ⟨ns.map filOf, l, l, [], cap, false, 0, -1, -1, 0⟩ 0 :=
 have hfr : ∀ i, (nodD ⟨cap, ns, l, l, [], false, 0, (-1, 0), (-1, 0)⟩ i).fresh = false := fun i => by
  unfold nodD
  show (ns.getD i zeroN).fresh = false
  rw [List.getD_eq_getElem?_getD]
  cases hx : ns[i]? with
  | none => rfl
  | some y => exact h.old y (List.mem_of_getElem? hx)
 {room := rfl, off := rfl, count := rfl, seen := rfl, sure := rfl
  flen := by show (ns.map filOf).length = ns.length; rw [List.length_map]
  files := fun i x hx _ => by
   have hx : ns[i]? = some x := hx
   show (ns.map filOf)[i]? = _
   rw [List.getElem?_map, hx]
   rfl
  fail := trap_none _, code := fun hh => absurd hh neg_one, crash := trap_none _, wl := rfl
  turns := fun j => by simp [goneR, goneD]
  now := rfl
  made := fun i _ => hfr i
  file := fun t ht => absurd ht (List.not_mem_nil)
  ok := h.ok, oku := h.ok
  sb := fun p hp => by
   unfold basedB
   rw [List.any_eq_true.2 ⟨p, hp, decide_eq_true rfl⟩]
   rfl
  mb := fun p hp => absurd hp (List.not_mem_nil)
  mv := fun p hp => absurd hp (List.not_mem_nil)
  nl := h.nl, nu := h.nl
  nv := fun p hp => absurd hp (List.not_mem_nil)
  c0 := Int.le_refl _, c1 := Int.le_refl _ }
/-- both disks are made, alike, or neither -/
theorem new_alike (fs : List FileX) (cap : Int) : (newD fs cap = none ∧ newR fs cap = none) ∨ ∃ d r, newD fs cap = some d ∧ newR fs cap = some r ∧ DR d r 0 := by
 unfold newD newR
 by_cases hc : cap < 1 ∨ 4194304 < cap ∨ 1024 < fs.length
 ·rw [if_pos hc, if_pos hc]
  exact .inl ⟨rfl, rfl⟩
 rw [if_neg hc, if_neg hc]
 obtain ⟨h1, h2⟩ := newG_is cap fs [] [] ⟨⟨List.Pairwise.nil, fun a ha => absurd ha (List.not_mem_nil), fun p hp => absurd hp (List.not_mem_nil)⟩, fun x hx => absurd hx (List.not_mem_nil), fun p hp => absurd hp (List.not_mem_nil)⟩
 have h1 : newG cap fs [] [] 0 = (newF cap fs [] []).map (fun r => (r.1.map filOf, r.2)) := h1
 rw [h1]
 cases hf : newF cap fs [] [] with
 | none => exact .inl ⟨rfl, rfl⟩
 | some q => exact .inr ⟨_, _, rfl, rfl, dr_made (h2 q hf)⟩
end Rf
end Go.Proofs.YtchjncnolmiejaaGreat

/- law16's same: two disks that are alike tell the same files. -/
namespace Go.Proofs.YtchjncnolmiejaaGreat
open Go.RowKit
namespace Sa
open Vd Rf Sf Rs
open Go.Maps
section
variable {L : List Nat} {W w : World} {g m : Nat} {d : Dsk} {r : RDsk} {k c : Nat}
theorem calls_k (h : TwoAt L W w g d m r k) : Calls Tryz.prog 24 #[.pointer (some ⟨g, 0, none⟩)] w fun e w' => e = .returned (.int .i64 d.count) ∧ Keeps w w' := by
 obtain ⟨S, M, h⟩ := h
 exact (calls_any w h.dsk).mono (fun e w' hh => ⟨hh.1, by rw [← hh.2]; exact Keeps.refl _⟩)
end
end Sa
end Go.Proofs.YtchjncnolmiejaaGreat

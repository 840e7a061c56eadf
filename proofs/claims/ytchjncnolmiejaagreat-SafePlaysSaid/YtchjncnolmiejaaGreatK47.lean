/- Several texts in one: SfGrow, SaSame. -/
import Derived.Test.YtchjncnolmiejaaGreatSfTidy
import Derived.Test.YtchjncnolmiejaaGreatK46
import Derived.Test.YtchjncnolmiejaaGreatK36
import Derived.Test.YtchjncnolmiejaaGreatK12
/- How many nodes each call makes; Boot on both disks, side by side; the two disks begin alike. -/
namespace Go.Proofs.YtchjncnolmiejaaGreat
open Go.RowKit
namespace Sf
open Vd
/-- at most so many nodes are made -/
def Grows (n : Nat) (f : Dsk → Dsk × Int) : Prop := ∀ d, (f d).1.nodes.length ≤ d.nodes.length + n
theorem grows_change (d : Dsk) : (changeD d).1.nodes.length = d.nodes.length := by rw [(changeD_seen d).2.1]
theorem grows_touch (d : Dsk) (x : Str) : (touchD d x).1.nodes.length = d.nodes.length := by rw [touch_fst, grows_change]
theorem grows_create (x : Str) : Grows 1 (fun d => createD d x) := fun d => by
  have := grows_change d
  show (createD d x).1.nodes.length ≤ _
  unfold createD
  split
  · omega
  · split
    · show (changeD d).1.nodes.length ≤ _; omega
    · split
      · show (changeD d).1.nodes.length ≤ _; omega
      · split
        · show (changeD d).1.nodes.length ≤ _; omega
        · show (bornD (changeD d).1).nodes.length ≤ _
          simp [bornD]
          omega
theorem grows_write (d : Dsk) (i : Nat) (p : Pat) : (writeD d i p).1.nodes.length = d.nodes.length := by
  unfold writeD
  split
  · rfl
  · simp [putD]
theorem grows_append (x b : Str) : Grows 0 (fun d => appendD d x b) := fun d => by
  have := grows_touch d x
  show (appendD d x b).1.nodes.length ≤ _
  unfold appendD
  split
  · show (touchD d x).1.nodes.length ≤ _; omega
  · rw [grows_write]; omega
theorem grows_sync (x : Str) : Grows 0 (fun d => syncD d x) := fun d => by
  have := grows_touch d x
  show (syncD d x).1.nodes.length ≤ _
  unfold syncD
  split
  · show (touchD d x).1.nodes.length ≤ _; omega
  · show (List.set _ _ _).length ≤ _
    rw [List.length_set]; omega
theorem grows_rename (x y : Str) : Grows 0 (fun d => renameD d x y) := fun d => by
  have := grows_change d
  show (renameD d x y).1.nodes.length ≤ _
  unfold renameD
  split
  · omega
  · split
    · show (changeD d).1.nodes.length ≤ _; omega
    · split
      · show (changeD d).1.nodes.length ≤ _; omega
      · show (changeD d).1.nodes.length ≤ _; omega
theorem grows_unlink (x : Str) : Grows 0 (fun d => unlinkD d x) := fun d => by
  have := grows_touch d x
  show (unlinkD d x).1.nodes.length ≤ _
  unfold unlinkD
  split
  · show (touchD d x).1.nodes.length ≤ _; omega
  · show (touchD d x).1.nodes.length ≤ _; omega
theorem grows_syncDir : Grows 0 syncDirD := fun d => by
  have := grows_change d
  unfold syncDirD
  split
  · omega
  · show (List.map staleN _).length ≤ _
    rw [List.length_map]; omega
theorem grows_boot (d : Dsk) (t : Int) (ks : List Int) : (bootD d t ks).1.nodes.length = d.nodes.length := by
  unfold bootD
  split
  · rfl
  · show (List.map staleN _).length = _
    rw [List.length_map, bootIx_len]
theorem grows_twice {f : Dsk → Dsk × Int} (h : Grows 0 f) : Grows 0 (twice f) := fun d => by
  have h1 := h d
  have h2 := h (f d).1
  unfold twice
  split <;> omega
theorem grows_then {n m : Nat} {f g : Dsk → Dsk × Int} (h1 : Grows n f) (h2 : Grows m g) : Grows (n + m) (fun d => thenD (f d) g) := fun d => by
  have h1 := h1 d
  have h2 := h2 (f d).1
  show (thenD (f d) g).1.nodes.length ≤ _
  unfold thenD
  split <;> omega
theorem grows_sSync (x : Str) : Grows 0 (sSync x) := grows_twice (grows_sync x)
theorem grows_sDir : Grows 0 sDir := grows_twice grows_syncDir
theorem grows_sUnlink (x : Str) : Grows 0 (sUnlink x) := grows_twice (grows_unlink x)
theorem grows_sAppend (x b : Str) : Grows 0 (sAppend x b) := grows_then (grows_append x b) (grows_sSync x)
theorem grows_sMake (x b : Str) : Grows 1 (sMake x b) := fun d => by
  have h1 := grows_create x d
  have h2 := grows_then (grows_sAppend x b) grows_sDir (createD d x).1
  have h3 := grows_sUnlink x (thenD (sAppend x b (createD d x).1) sDir).1
  dsimp only at h1 h2 h3
  unfold sMake
  split
  · show d.nodes.length ≤ _; omega
  · split
    · exact h1
    · unfold tidyD
      split
      · omega
      · show (sUnlink x _).1.nodes.length ≤ _; omega
theorem grows_sDrop (x : Str) : Grows 0 (sDrop x) := fun d => by
  have h1 := grows_then (grows_unlink x) grows_sDir d
  dsimp only at h1
  unfold sDrop
  split
  · show d.nodes.length ≤ _; omega
  · exact h1
theorem grows_sSwap1 (x n b : Str) : Grows 1 (sSwap1 x n b) := fun d => by
  have h1 := grows_then (grows_then (grows_then (grows_create n) (grows_sAppend n b)) (grows_rename n x)) grows_sDir d
  have h2 := grows_sUnlink n (thenD (thenD (thenD (createD d n) (sAppend n b)) (fun d => renameD d n x)) sDir).1
  dsimp only at h1 h2
  unfold sSwap1 tidyS
  split
  · omega
  · show (sUnlink n _).1.nodes.length ≤ _; omega
theorem grows_sSwap (x b : Str) : Grows 1 (sSwap x b) := fun d => by
  have h1 := grows_sSwap1 x (x ++ dotN) b d
  have h2 := grows_unlink (x ++ dotN) d
  have h3 := grows_sSwap1 x (x ++ dotN) b (unlinkD d (x ++ dotN)).1
  dsimp only at h2
  unfold sSwap
  split
  · show d.nodes.length ≤ _; omega
  · split
    · split
      · omega
      · omega
    · exact h1
theorem grows_unlinks : ∀ (l : List Str), Grows 0 (unlinksD l)
  | [] => fun d => Nat.le_refl _
  | x :: l => fun d => by
    have h1 := grows_unlink x d
    have h2 := grows_unlinks l (unlinkD d x).1
    dsimp only at h1
    unfold unlinksD
    split <;> omega
theorem grows_sTidy (p : Str) : Grows 0 (sTidy p) := fun d => by
  unfold sTidy
  split
  · exact Nat.le_refl _
  · exact grows_unlinks _ d
end Sf
namespace Rf
open Vd
open Go.Maps
section
variable {L : List Nat} {W w w' : World} {g m : Nat} {d d' : Dsk} {r : RDsk} {k k' c : Nat} {S M : Nat → Prop}
theorem boot_two (h : TwoAt L W w g d m r k) (hk : k ≤ 90000) (hd : DR d r c) (hn : d.nodes.length ≤ 1024) (t : Int) (ht : (Lit.int .i64 t).wf = true) {kv : Value} {keep : List Int} (hr : Rs.Stay2 L W w kv (keep.map (Value.int .i64))) : Calls Tryz.prog 20 #[.pointer (some ⟨g, 0, none⟩), .int .i64 t, kv] w (TwoDid L W w g (bootD d t keep).1 m r k (.int .i64 (bootD d t keep).2)) := by
  obtain ⟨S, M, h⟩ := h
  exact (boot_any w h.dsk t ht (fun w' hm => hr S w' h.mine hm) (fun j => Nat.le_trans (hd.oku.gone hd.mv j).len hn) (by omega) (by have := h.few.m; omega)).mono (fun e w' hh => h.did hh (few_boot_dr h.few hd t keep) (Nat.le_refl _))
theorem fit_of (h : TwoAt L W w g d m r k) : Fit d := by
  obtain ⟨S, M, h⟩ := h
  obtain ⟨_, _, _, _, _, hh⟩ := h.dsk
  exact hh.fit
theorem rboot_two {d0 : Dsk} (h : TwoAt L W w g d0 m r k) (hk : k ≤ 90000) (hd : DR d r c) (hfit : Fit d) (hnk : d.nodes.length ≤ k) (t : Int) (ht : (Lit.int .i64 t).wf = true) {kv : Value} {keep : List Int} (hr : Rs.Stay2 L W w kv (keep.map (Value.int .i64))) : Calls Tryz.prog 21 #[.pointer (some ⟨m, 0, none⟩), .int .i64 t, kv] w (TwoDid L W w g d0 m (bootR r t keep).1 k (.int .i64 (bootR r t keep).2)) := by
  have hrow := hr.row
  obtain ⟨S, M, h⟩ := h
  have hgone : ∀ j, goneR r.sure r.waits j = goneD d.sure d.moves j := fun j => by rw [← hd.sure]; exact hd.turns j
  refine (rboot_r h.ref (by omega) t ht hrow (fun i hi hkn p hp => ?_) (fun j => ?_) (fun j => ?_) (fun p hp => ?_)).mono (fun e w' hh => ⟨hh.1, h.refd hh.2.1 hh.2.2 (Nat.le_refl _)⟩)
  · have hi2 : i < d.nodes.length := by rw [← hd.flen]; exact hi
    rw [known_alike hd hi2, known_based hd] at hkn
    have hf := hd.files i _ (List.getElem?_eq_getElem hi2) hkn
    rw [List.getElem?_eq_getElem hi] at hf
    rw [Option.some.inj hf] at hp
    exact hfit.ps _ (List.getElem_mem hi2) p hp
  · rw [hgone]
    exact Nat.le_trans (hd.oku.gone hd.mv j).len hnk
  · rw [hgone]
    exact (hd.oku.gone hd.mv j).asc
  · rw [hgone] at hp
    rw [hd.flen]
    exact (hd.oku.gone hd.mv t.toNat).lt p hp
theorem dr_new (cap : Int) : DR ⟨cap, [], [], [], [], false, 0, (-1, 0), (-1, 0)⟩ (rd0 cap) 0 :=
  have hnil : NmsOk [] 0 := ⟨List.Pairwise.nil, fun a ha => absurd ha (List.not_mem_nil), fun p hp => absurd hp (List.not_mem_nil)⟩
  { room := rfl, off := rfl, count := rfl, seen := rfl, sure := rfl, flen := rfl
    files := fun i x hx => by cases hx
    fail := trap_none _, code := fun h => absurd h neg_one, crash := trap_none _, wl := rfl
    turns := fun j => by simp [goneR, goneD, rd0]
    now := rfl
    made := fun i hi => absurd hi (Nat.not_lt_zero i)
    file := fun t ht => absurd ht (List.not_mem_nil)
    ok := hnil, oku := hnil
    sb := fun p hp => absurd hp (List.not_mem_nil)
    mb := fun p hp => absurd hp (List.not_mem_nil)
    mv := fun p hp => absurd hp (List.not_mem_nil)
    nl := fun p hp => absurd hp (List.not_mem_nil)
    nu := fun p hp => absurd hp (List.not_mem_nil)
    nv := fun p hp => absurd hp (List.not_mem_nil)
    c0 := Int.le_refl _, c1 := Int.le_refl _ }
/-- the traps are set alike -/
theorem dr_fail (h : DR d r c) (n e : Int) (hc : c ≤ 1000000000000) : DR { d with fail := failT n e } { r with fail := failingR n e, err := e } c :=
  { h with
    fail := by
      show TrapR (failT n e).1 (failingR n e) r.calls
      have h0 := h.c0
      have h1 := h.count
      unfold failT failingR
      by_cases h11 : e = 11
      · rw [if_pos h11, if_pos h11, setT_ok]
        exact trap_none _
      · rw [if_neg h11, if_neg h11]
        unfold setT armR
        by_cases hn : n < 0
        · rw [if_pos (.inl hn), if_pos (.inl hn)]
          exact trap_none _
        · by_cases he : e = 0
          · rw [if_pos (.inr (.inr he)), if_pos (.inr he)]
            exact trap_none _
          · by_cases hf : 4611686018427387904 ≤ n
            · rw [if_pos (.inr (.inl hf)), if_neg (by omega)]
              exact .inr ⟨rfl, by omega⟩
            · rw [if_neg (by omega), if_neg (by omega)]
              exact .inl ⟨rfl, by show -1 ≤ n; omega, by show n ≤ _; omega⟩
    code := fun hh => by
      have hh : 0 ≤ (failT n e).1 := hh
      show (failT n e).2 = e
      unfold failT setT at hh ⊢
      by_cases h11 : e = 11
      · rw [if_pos h11, if_pos (.inr (.inr rfl))] at hh
        exact absurd hh neg_one
      · rw [if_neg h11] at hh ⊢
        split at hh
        · exact absurd hh neg_one
        · rw [if_neg ‹_›] }
theorem dr_crash (h : DR d r c) (n : Int) : DR { d with crash := setT n 11 } { r with crash := armR n 11 } c :=
  { h with
    crash := by
      show TrapR (setT n 11).1 (armR n 11) r.calls
      have h0 := h.c0
      have h1 := h.count
      unfold setT armR
      by_cases hn : n < 0
      · rw [if_pos (.inl hn), if_pos (.inl hn)]
        exact trap_none _
      · by_cases hf : 4611686018427387904 ≤ n
        · rw [if_pos (.inr (.inl hf)), if_neg (by omega)]
          exact .inr ⟨rfl, by omega⟩
        · rw [if_neg (by omega), if_neg (by omega)]
          exact .inl ⟨rfl, by show -1 ≤ n; omega, by show n ≤ _; omega⟩ }
end
end Rf
end Go.Proofs.YtchjncnolmiejaaGreat

/- law16's same: two disks that are alike tell the same files. -/
namespace Go.Proofs.YtchjncnolmiejaaGreat
open Go.RowKit
namespace Sa
open Vd Rf Sf Rs
open Go.Maps
section
variable {L : List Nat} {W w : World} {g m : Nat} {d : Dsk} {r : RDsk} {k c : Nat}
theorem down_k (h : TwoAt L W w g d m r k) : Calls Tryz.prog 75 #[.pointer (some ⟨g, 0, none⟩)] w fun e w' => e = .returned (.bool d.off) ∧ Keeps w w' := by
  obtain ⟨S, M, h⟩ := h
  exact (down_any w h.dsk).mono (fun e w' hh => ⟨hh.1, by rw [← hh.2]; exact Keeps.refl _⟩)
theorem calls_k (h : TwoAt L W w g d m r k) : Calls Tryz.prog 24 #[.pointer (some ⟨g, 0, none⟩)] w fun e w' => e = .returned (.int .i64 d.count) ∧ Keeps w w' := by
  obtain ⟨S, M, h⟩ := h
  exact (calls_any w h.dsk).mono (fun e w' hh => ⟨hh.1, by rw [← hh.2]; exact Keeps.refl _⟩)
theorem names_two (h : TwoAt L W w g d m r k) : Calls Tryz.prog 76 #[.pointer (some ⟨g, 0, none⟩)] w (NamesDid w d) := by
  obtain ⟨S, M, h⟩ := h
  exact names_any w h.dsk
theorem waits_two (h : TwoAt L W w g d m r k) (hk : k ≤ 100000) : Calls Tryz.prog 77 #[.pointer (some ⟨g, 0, none⟩)] w (WaitsDid w d) := by
  obtain ⟨S, M, h⟩ := h
  exact waits_any w h.dsk (by have := h.few.n; omega) (fun y hy => by have := h.few.p y hy; omega)
theorem read_two' (h : TwoAt L W w g d m r k) (x : Str) (hx : x.length ≤ maxLen) : Calls Tryz.prog 40 #[.pointer (some ⟨g, 0, none⟩), .string (bstr x)] w (Vd.ReadDid w (textD d x)) := by
  obtain ⟨S, M, h⟩ := h
  exact Vd.read_any w h.dsk x hx
theorem rwrites_two (h : TwoAt L W w g d m r k) (hk : k ≤ 100000) : Calls Tryz.prog 78 #[.pointer (some ⟨m, 0, none⟩)] w fun e w' => e = .returned (.int .i64 (writesR r : Int)) ∧ w = w' := by
  obtain ⟨S, M, h⟩ := h
  exact writes_r h.ref hk
theorem text_of (hd : DR d r c) (ho : d.off = false) {j : Nat} (hj : j < d.seen.length) : ∃ hi : d.seen[j].2 < r.files.length, textD d d.seen[j].1 = (r.files[d.seen[j].2].now, 0) := by
  have hi := hd.ok.lt _ (List.getElem_mem hj)
  have hi2 : d.seen[j].2 < r.files.length := by rw [hd.flen]; exact hi
  refine ⟨hi2, ?_⟩
  have hl : Vd.look d.seen d.seen[j].1 = some d.seen[j].2 := (look_mem hd.ok.asc).2 (List.getElem_mem hj)
  have hf := hd.files _ _ (List.getElem?_eq_getElem hi) (hd.sb _ (List.getElem_mem hj))
  rw [List.getElem?_eq_getElem hi2] at hf
  unfold textD
  rw [ho, hl, Option.some.inj hf]
  show (((d.nodes[d.seen[j].2]?).map (·.seen)).getD [], (0 : Int)) = _
  rw [List.getElem?_eq_getElem hi]
  rfl
set_option maxRecDepth 100000 in
set_option maxHeartbeats 8000000 in
theorem same16_any (h : TwoAt L W w g d m r k) (hd : DR d r c) (hk : k ≤ 100000) : Calls Tryz.prog 28 #[.pointer (some ⟨g, 0, none⟩), .pointer (some ⟨m, 0, none⟩)] w fun e w' => e = .returned (.bool true) ∧ Keeps w w' := by
  have H := Lib.hid h
  have HD := Lib.hid hd
  obtain ⟨S, M, h⟩ := h
  obtain ⟨fv, nv, sv, wv, fw, hh⟩ := h.ref
  have HI := Lib.hid hh
  obtain ⟨c0, c1, -, c3, -, c5, c6, -⟩ := hh.cells
  obtain ⟨pf, cf, rfl, -, -⟩ := Frm.ownsRow_form hh.files
  obtain ⟨pn, cn, rfl, -, -⟩ := Frm.ownsRow_form hh.now
  obtain ⟨pw, cw, rfl, -, -⟩ := Frm.ownsRow_form hh.turns
  have hNk : r.now.length ≤ 100000 := Nat.le_trans hh.fit.n hk
  have hFk : r.files.length ≤ 100000 := Nat.le_trans hh.fit.f hk
  have hWk : r.waits.length ≤ 100000 := Nat.le_trans hh.fit.w hk
  rw [← hd.off] at c5
  rw [← hd.count] at c6
  have HC0 := Lib.hid c0
  have HC1 := Lib.hid c1
  have HC3 := Lib.hid c3
  have HC5 := Lib.hid c5
  clear h hh hd c0 c1 c3
  go_enter Tryz.func28, Tryz.ntmps28
  go_upto_region 1 with fail
  have HT := H
  have hbe : (d.off != d.off) = false := by cases d.off <;> rfl
  have hce : (d.count != d.count) = false := by simp
  refine wp_region_noPanic ?_
  refine wp_region_held_drew (S := fun w' => Keeps (w) w') (by kernel_rfl) ((Keeps.refl _).drew) (fun _ => ?_)
  have hHeld : Keeps (w) (w).drew := (Keeps.refl _).drew
  refine wpAnyH_take (i := 0) (v := ?vv1) (by rfl) (by kernel_rfl) (by kernel_rfl) (by kernel_rfl) (by intro _ _ _ h; exact h) (Or.inl ⟨by kernel_rfl, ?hy1⟩) (by assumption) ?rest1
  case hy1 =>
    intro w' hSw
    have hSw : Keeps _ w' := hSw
    clear hSw
    go_simp
    try with_reducible rfl
  change wpAnyH _ _ _ _ _ _ _ (Act.put _ (some 11) _) _
  try simp only [Act.put, List.setIfInBounds_toArray, List.set_cons_zero, List.set_cons_succ]
  refine wpAnyH_take (i := 2) (v := ?vv2) (by rfl) (by kernel_rfl) (by kernel_rfl) (by kernel_rfl) (by intro _ _ _ h; exact h) (Or.inl ⟨by kernel_rfl, ?hy2⟩) (by assumption) ?rest2
  case hy2 =>
    intro w' hSw
    have hSw : Keeps _ w' := hSw
    clear hSw
    go_simp
    try with_reducible rfl
  change wpAnyH _ _ _ _ _ _ _ (Act.put _ (some 13) _) _
  try simp only [Act.put, List.setIfInBounds_toArray, List.set_cons_zero, List.set_cons_succ]
  refine wpAnyH_take (i := 3) (v := ?vv3) (by rfl) (by kernel_rfl) (by kernel_rfl) (by kernel_rfl) (by intro _ _ _ h; exact h) (Or.inl ⟨by kernel_rfl, ?hy3⟩) (by assumption) ?rest3
  case hy3 =>
    intro w' hSw
    have hSw : Keeps _ w' := hSw
    clear hSw
    go_simp
    try with_reducible rfl
  change wpAnyH _ _ _ _ _ _ _ (Act.put _ (some 14) _) _
  try simp only [Act.put, List.setIfInBounds_toArray, List.set_cons_zero, List.set_cons_succ]
  refine wpAnyH_take (i := 4) (v := ?vv4) (by rfl) (by kernel_rfl) (by kernel_rfl) (by kernel_rfl) (by intro _ _ _ h; exact h) (Or.inl ⟨by kernel_rfl, ?hy4⟩) (by assumption) ?rest4
  case hy4 =>
    intro w' hSw
    have hSw : Keeps _ w' := hSw
    clear hSw
    go_simp
    try with_reducible rfl
  change wpAnyH _ _ _ _ _ _ _ (Act.put _ (some 15) _) _
  try simp only [Act.put, List.setIfInBounds_toArray, List.set_cons_zero, List.set_cons_succ]
  refine wpAnyH_take (i := 5) (v := ?vv5) (by rfl) (by kernel_rfl) (by kernel_rfl) (by kernel_rfl) (by intro _ _ _ h; exact h) (Or.inl ⟨by kernel_rfl, ?hy5⟩) (by assumption) ?rest5
  case hy5 =>
    intro w' hSw
    have hSw : Keeps _ w' := hSw
    have hx := keep1 hSw c5
    clear hSw
    go_simp
    try with_reducible rfl
  change wpAnyH _ _ _ _ _ _ _ (Act.put _ (some 16) _) _
  try simp only [Act.put, List.setIfInBounds_toArray, List.set_cons_zero, List.set_cons_succ]
  refine wpAnyH_ready (rs := [1]) (by kernel_rfl) (by simp) ?_
  refine AllReadyH.cons (o := _) rfl (fun K hK => ?_) AllReadyH.nil
  go_simp
  refine (down_k (HT.out.keeps hHeld)).mono ?_
  rintro e y1 ⟨rfl, hk⟩
  have hb : Keeps _ y1 := hHeld.trans hk
  have HT := Lib.hid ((HT.out.keeps hHeld).keeps hk)
  have c5 := keep1 (hHeld.trans hk) c5
  have c6 := keep1 (hHeld.trans hk) c6
  have HKA := Lib.hid (hHeld.trans hk)
  go_wp2_with fail
  refine hK.out _ _ hb (fun _ => ?_)
  clear hK K
  try simp only [Act.put, List.setIfInBounds_toArray, List.set_cons_zero, List.set_cons_succ]
  refine wpAnyH_more (S' := fun w' => Keeps y1 w') (fun _ h => hb.trans h) ?_
  clear hHeld hb hk
  have hHeld : Keeps y1 y1 := Keeps.refl _
  refine wpAnyH_take (i := 6) (v := ?vv6) (by rfl) (by kernel_rfl) (by kernel_rfl) (by kernel_rfl) (by intro _ _ _ h; exact h) (Or.inl ⟨by kernel_rfl, ?hy6⟩) (by assumption) ?rest6
  case hy6 =>
    intro w' hSw
    have hSw : Keeps _ w' := hSw
    clear hSw
    go_simp
    try with_reducible rfl
  change wpAnyH _ _ _ _ _ _ _ (Act.put _ (some 17) _) _
  try simp only [Act.put, List.setIfInBounds_toArray, List.set_cons_zero, List.set_cons_succ]
  refine wpAnyH_take (i := 7) (v := ?vv7) (by rfl) (by kernel_rfl) (by kernel_rfl) (by kernel_rfl) (by intro _ _ _ h; exact h) (Or.inl ⟨by kernel_rfl, ?hy7⟩) (by assumption) ?rest7
  case hy7 =>
    intro w' hSw
    have hSw : Keeps _ w' := hSw
    clear hSw
    go_simp
    try with_reducible rfl
  change wpAnyH _ _ _ _ _ _ _ (Act.put _ (some 18) _) _
  try simp only [Act.put, List.setIfInBounds_toArray, List.set_cons_zero, List.set_cons_succ]
  refine wpAnyH_take (i := 8) (v := ?vv8) (by rfl) (by kernel_rfl) (by kernel_rfl) (by kernel_rfl) (by intro _ _ _ h; exact h) (Or.inl ⟨by kernel_rfl, ?hy8⟩) (by assumption) ?rest8
  case hy8 =>
    intro w' hSw
    have hSw : Keeps _ w' := hSw
    clear hSw
    go_simp
    try with_reducible rfl
  change wpAnyH _ _ _ _ _ _ _ (Act.put _ (some 19) _) _
  try simp only [Act.put, List.setIfInBounds_toArray, List.set_cons_zero, List.set_cons_succ]
  refine wpAnyH_take (i := 10) (v := ?vv9) (by rfl) (by kernel_rfl) (by kernel_rfl) (by kernel_rfl) (by intro _ _ _ h; exact h) (Or.inl ⟨by kernel_rfl, ?hy9⟩) (by assumption) ?rest9
  case hy9 =>
    intro w' hSw
    have hSw : Keeps _ w' := hSw
    clear hSw
    go_simp
    try with_reducible rfl
  change wpAnyH _ _ _ _ _ _ _ (Act.put _ (some 21) _) _
  try simp only [Act.put, List.setIfInBounds_toArray, List.set_cons_zero, List.set_cons_succ]
  refine wpAnyH_take (i := 11) (v := ?vv10) (by rfl) (by kernel_rfl) (by kernel_rfl) (by kernel_rfl) (by intro _ _ _ h; exact h) (Or.inl ⟨by kernel_rfl, ?hy10⟩) (by assumption) ?rest10
  case hy10 =>
    intro w' hSw
    have hSw : Keeps _ w' := hSw
    clear hSw
    go_simp
    try with_reducible rfl
  change wpAnyH _ _ _ _ _ _ _ (Act.put _ (some 22) _) _
  try simp only [Act.put, List.setIfInBounds_toArray, List.set_cons_zero, List.set_cons_succ]
  refine wpAnyH_take (i := 12) (v := ?vv11) (by rfl) (by kernel_rfl) (by kernel_rfl) (by kernel_rfl) (by intro _ _ _ h; exact h) (Or.inl ⟨by kernel_rfl, ?hy11⟩) (by assumption) ?rest11
  case hy11 =>
    intro w' hSw
    have hSw : Keeps _ w' := hSw
    clear hSw
    go_simp
    try with_reducible rfl
  change wpAnyH _ _ _ _ _ _ _ (Act.put _ (some 23) _) _
  try simp only [Act.put, List.setIfInBounds_toArray, List.set_cons_zero, List.set_cons_succ]
  refine wpAnyH_take (i := 13) (v := ?vv12) (by rfl) (by kernel_rfl) (by kernel_rfl) (by kernel_rfl) (by intro _ _ _ h; exact h) (Or.inl ⟨by kernel_rfl, ?hy12⟩) (by assumption) ?rest12
  case hy12 =>
    intro w' hSw
    have hSw : Keeps _ w' := hSw
    have hx := keep1 hSw c6
    clear hSw
    go_simp
    try with_reducible rfl
  change wpAnyH _ _ _ _ _ _ _ (Act.put _ (some 24) _) _
  try simp only [Act.put, List.setIfInBounds_toArray, List.set_cons_zero, List.set_cons_succ]
  refine wpAnyH_ready (rs := [9]) (by kernel_rfl) (by simp) ?_
  refine AllReadyH.cons (o := _) rfl (fun K hK => ?_) AllReadyH.nil
  go_simp
  refine (calls_k (HT.out.keeps hHeld)).mono ?_
  rintro e y2 ⟨rfl, hk⟩
  have hb : Keeps _ y2 := hHeld.trans hk
  have HT := Lib.hid ((HT.out.keeps hHeld).keeps hk)
  have c5 := keep1 (hHeld.trans hk) c5
  have c6 := keep1 (hHeld.trans hk) c6
  have HKA := Lib.hid (HKA.out.trans (hHeld.trans hk))
  go_wp2_with fail
  refine hK.out _ _ hb (fun _ => ?_)
  clear hK K
  try simp only [Act.put, List.setIfInBounds_toArray, List.set_cons_zero, List.set_cons_succ]
  refine wpAnyH_more (S' := fun w' => Keeps y2 w') (fun _ h => hb.trans h) ?_
  clear hHeld hb hk
  have hHeld : Keeps y2 y2 := Keeps.refl _
  refine wpAnyH_take (i := 14) (v := ?vv13) (by rfl) (by kernel_rfl) (by kernel_rfl) (by kernel_rfl) (by intro _ _ _ h; exact h) (Or.inl ⟨by kernel_rfl, ?hy13⟩) (by assumption) ?rest13
  case hy13 =>
    intro w' hSw
    have hSw : Keeps _ w' := hSw
    clear hSw
    go_simp
    try with_reducible rfl
  change wpAnyH _ _ _ _ _ _ _ (Act.put _ (some 25) _) _
  try simp only [Act.put, List.setIfInBounds_toArray, List.set_cons_zero, List.set_cons_succ]
  refine wpAnyH_take (i := 15) (v := ?vv14) (by rfl) (by kernel_rfl) (by kernel_rfl) (by kernel_rfl) (by intro _ _ _ h; exact h) (Or.inl ⟨by kernel_rfl, ?hy14⟩) (by assumption) ?rest14
  case hy14 =>
    intro w' hSw
    have hSw : Keeps _ w' := hSw
    clear hSw
    go_simp
    try with_reducible rfl
  change wpAnyH _ _ _ _ _ _ _ (Act.put _ (some 26) _) _
  try simp only [Act.put, List.setIfInBounds_toArray, List.set_cons_zero, List.set_cons_succ]
  refine wpAnyH_done (by kernel_rfl) ?_ _
  refine NoPanic.normal ?_
  clear c5 c6 hHeld
  have HNM := Lib.hid (names_two HT.out)
  go_wp2_with fail
  refine HNM.out.mono ?_
  rintro e y3 ⟨v, rfl, hown, hk3⟩
  have HT3 := Lib.hid (HT.out.keeps hk3)
  have HK3 := Lib.hid (HKA.out.trans hk3)
  have HO := Lib.hid hown.row
  obtain ⟨pl, nl, cl, rfl⟩ := hown.sl
  have HNL := Lib.hid (show nl = (namesD d).length from by rw [own_n hown]; simp [nameV])
  have c5 := keep1 HK3.out HC5.out
  clear hown hk3 HNM HT HKA
  cases hoff : d.off with
  | true =>
    have hnl : nl = 0 := by rw [HNL.out]; unfold namesD; rw [hoff]; rfl
    subst hnl
    rw [hoff] at c5
    clear hoff
    go_wp2_with fail
    go_ret
    exact ⟨rfl, HK3.out⟩
  | false =>
    have HOF := Lib.hid hoff
    have HNS := Lib.hid (show namesD d = d.seen from by unfold namesD; rw [hoff]; rfl)
    rw [hoff] at c5
    clear hoff
    have HWT := Lib.hid (waits_two HT3.out hk)
    have HWD := Lib.hid (show waitsD d = (d.moves.length, writesD d) from by unfold waitsD; rw [HOF.out]; rfl)
    unfold WaitsDid at HWT
    rw [HWD.out] at HWT
    go_wp2_with fail
    refine HWT.out.mono ?_
    rintro e y4 ⟨rfl, hk4⟩
    have HT4 := Lib.hid (HT3.out.keeps hk4)
    have HK4 := Lib.hid (HK3.out.trans hk4)
    have HO4 := Lib.hid (HO.out.keeps hk4)
    clear hk4 HWT c5
    have c1 := keep1 HK4.out HC1.out
    have c3 := keep1 HK4.out HC3.out
    have HWR := Lib.hid (rwrites_two HT4.out hk)
    have hnr : nl = r.now.length := by rw [HNL.out, HNS.out, HD.out.seen]
    rw [← hnr] at c1 hNk
    have hwr : writesR r = writesD d := writes_alike HD.out
    have hml : r.waits.length = d.moves.length := HD.out.wl
    rw [hwr] at HWR
    rw [hml] at c3 hWk
    have HNR := Lib.hid hnr
    have HML := Lib.hid hml
    clear hnr hwr hml
    have e1 : ((nl : Int) != (nl : Int)) = false := by simp
    have e2 : ((d.moves.length : Int) != (d.moves.length : Int)) = false := by simp
    have e3 : ((writesD d : Int) != (writesD d : Int)) = false := by simp
    go_wp2_with fail
    refine HWR.out.mono ?_
    rintro e y5 ⟨rfl, rfl⟩
    go_wp2_with fail
    clear c1 c3 e1 e2 e3
    go_loopw [8] (fun ix wr => ∃ j : Nat, ix = .int .i64 (j : Int) ∧ j ≤ nl ∧ Hid (Keeps y4 wr)) (fun ix _ => nl - (RowKit.intOf ix).toNat)
    case atStart => exact ⟨0, rfl, Nat.zero_le _, Lib.hid (Keeps.refl _)⟩
    case round =>
      obtain ⟨j, rfl, hj, HQ⟩ := hrel
      by_cases hlt : j < nl
      · have hjs : j < d.seen.length := by rw [← HNS.out, ← HNL.out]; exact hlt
        have hjn : j < r.now.length := by rw [← HNR.out]; exact hlt
        have hlt' : (j : Int) < (nl : Int) := by omega
        obtain ⟨b, off, rfl, hcell⟩ := rowAtV (HO4.out.keeps HQ.out) (by simp [nameV]; rw [HNS.out]; exact hjs)
        have hcell2 : wr.cell? ⟨b, off + j, none⟩ = some (.string (bstr d.seen[j].1)) := by rw [hcell]; simp [nameV, HNS.out]
        obtain ⟨hif, htx⟩ := text_of HD.out HOF.out hjs
        have HRD := Lib.hid (read_two' (HT4.out.keeps HQ.out) d.seen[j].1 (by have := HD.out.nl _ (List.getElem_mem hjs); unfold maxLen; omega))
        rw [htx] at HRD
        have HIr := Lib.hid (HI.out.apart (T := fun _ => False) (Mods.of_keeps (HK4.out.trans HQ.out)) (fun _ _ h => h))
        have hsr : d.seen[j] = r.now[j] := by
          have := HD.out.seen
          simp only [this]
        obtain ⟨bn, on, cn', hvn, -, hn0, hn1⟩ := NmsAt.one (NmsOwn.at_ HIr.out.now) hjn
        rw [← hsr] at hn0 hn1
        rw [← HNR.out] at hvn
        simp only [Value.slice.injEq] at hvn
        obtain ⟨rfl, -, rfl⟩ := hvn
        obtain ⟨bf, of, cf', hvf, hrg⟩ := HIr.out.file hif
        simp only [Value.slice.injEq] at hvf
        obtain ⟨rfl, -, rfl⟩ := hvf
        have hf0 := hrg 0 _ rfl
        rw [Nat.add_zero] at hf0
        have hc1 := keep1 (HK4.out.trans HQ.out) HC1.out
        have hc0 := keep1 (HK4.out.trans HQ.out) HC0.out
        rw [← HNR.out] at hc1
        obtain ⟨F, hF⟩ : ∃ F, F = r.files.length := ⟨_, rfl⟩
        generalize r.files[d.seen[j].2].now = s at *
        generalize d.seen[j].1 = x at *
        generalize d.seen[j].2 = i at *
        rw [← hF] at hif hc0 hFk
        have hif' : (i : Int) < (F : Int) := by omega
        clear hcell htx hrg hsr hF
        go_wp2_with fail
        refine HRD.out.mono ?_
        rintro e z1 ⟨v9, rfl, hr9, hk9⟩
        obtain ⟨p9, c9, rfl, -, -⟩ := hr9.formB
        have HR9 := Lib.hid hr9
        have HK9 := Lib.hid (HQ.out.trans hk9)
        have d0 := keep1 hk9 hcell2
        have d1 := keep1 hk9 hn0
        have d2 := keep1 hk9 hn1
        have d3 := keep1 hk9 hf0
        have d4 := keep1 hk9 hc1
        have d5 := keep1 hk9 hc0
        have bx := bstr_toList x
        have bs := bstr_toList s
        have ex : (x == x) = true := by simp
        have es : (s == s) = true := by simp
        clear hcell2 hn0 hn1 hf0 hc1 hc0 hr9 hk9 HRD
        go_upto_region 13 with fail
        refine wp_region_noPanic ?_
        refine wp_region_held_drew (S := fun w' => Keeps (z1) w') (by kernel_rfl) ((Keeps.refl _).drew) (fun _ => ?_)
        have hHeld : Keeps (z1) (z1).drew := (Keeps.refl _).drew
        refine wpAnyH_take (i := 0) (v := ?vv15) (by rfl) (by kernel_rfl) (by kernel_rfl) (by kernel_rfl) (by intro _ _ _ h; exact h) (Or.inl ⟨by kernel_rfl, ?hy15⟩) (by assumption) ?rest15
        case hy15 =>
          intro w' hSw
          have hSw : Keeps _ w' := hSw
          clear hSw
          go_simp
          try with_reducible rfl
        change wpAnyH _ _ _ _ _ _ _ (Act.put _ (some 79) _) _
        try simp only [Act.put, List.setIfInBounds_toArray, List.set_cons_zero, List.set_cons_succ]
        refine wpAnyH_take (i := 1) (v := ?vv16) (by rfl) (by kernel_rfl) (by kernel_rfl) (by kernel_rfl) (by intro _ _ _ h; exact h) (Or.inl ⟨by kernel_rfl, ?hy16⟩) (by assumption) ?rest16
        case hy16 =>
          intro w' hSw
          have hSw : Keeps _ w' := hSw
          clear hSw
          go_simp
          try with_reducible rfl
        change wpAnyH _ _ _ _ _ _ _ (Act.put _ (some 80) _) _
        try simp only [Act.put, List.setIfInBounds_toArray, List.set_cons_zero, List.set_cons_succ]
        refine wpAnyH_take (i := 2) (v := ?vv17) (by rfl) (by kernel_rfl) (by kernel_rfl) (by kernel_rfl) (by intro _ _ _ h; exact h) (Or.inl ⟨by kernel_rfl, ?hy17⟩) (by assumption) ?rest17
        case hy17 =>
          intro w' hSw
          have hSw : Keeps _ w' := hSw
          clear hSw
          go_simp
          try with_reducible rfl
        change wpAnyH _ _ _ _ _ _ _ (Act.put _ (some 81) _) _
        try simp only [Act.put, List.setIfInBounds_toArray, List.set_cons_zero, List.set_cons_succ]
        refine wpAnyH_take (i := 3) (v := ?vv18) (by rfl) (by kernel_rfl) (by kernel_rfl) (by kernel_rfl) (by intro _ _ _ h; exact h) (Or.inl ⟨by kernel_rfl, ?hy18⟩) (by assumption) ?rest18
        case hy18 =>
          intro w' hSw
          have hSw : Keeps _ w' := hSw
          have hx := keep1 hSw d0
          clear hSw
          go_simp
          try with_reducible rfl
        change wpAnyH _ _ _ _ _ _ _ (Act.put _ (some 82) _) _
        try simp only [Act.put, List.setIfInBounds_toArray, List.set_cons_zero, List.set_cons_succ]
        refine wpAnyH_take (i := 4) (v := ?vv19) (by rfl) (by kernel_rfl) (by kernel_rfl) (by kernel_rfl) (by intro _ _ _ h; exact h) (Or.inl ⟨by kernel_rfl, ?hy19⟩) (by assumption) ?rest19
        case hy19 =>
          intro w' hSw
          have hSw : Keeps _ w' := hSw
          clear hSw
          go_simp
          try with_reducible rfl
        change wpAnyH _ _ _ _ _ _ _ (Act.put _ (some 83) _) _
        try simp only [Act.put, List.setIfInBounds_toArray, List.set_cons_zero, List.set_cons_succ]
        refine wpAnyH_take (i := 5) (v := ?vv20) (by rfl) (by kernel_rfl) (by kernel_rfl) (by kernel_rfl) (by intro _ _ _ h; exact h) (Or.inl ⟨by kernel_rfl, ?hy20⟩) (by assumption) ?rest20
        case hy20 =>
          intro w' hSw
          have hSw : Keeps _ w' := hSw
          clear hSw
          go_simp
          try with_reducible rfl
        change wpAnyH _ _ _ _ _ _ _ (Act.put _ (some 84) _) _
        try simp only [Act.put, List.setIfInBounds_toArray, List.set_cons_zero, List.set_cons_succ]
        refine wpAnyH_take (i := 6) (v := ?vv21) (by rfl) (by kernel_rfl) (by kernel_rfl) (by kernel_rfl) (by intro _ _ _ h; exact h) (Or.inl ⟨by kernel_rfl, ?hy21⟩) (by assumption) ?rest21
        case hy21 =>
          intro w' hSw
          have hSw : Keeps _ w' := hSw
          clear hSw
          go_simp
          try with_reducible rfl
        change wpAnyH _ _ _ _ _ _ _ (Act.put _ (some 85) _) _
        try simp only [Act.put, List.setIfInBounds_toArray, List.set_cons_zero, List.set_cons_succ]
        refine wpAnyH_take (i := 7) (v := ?vv22) (by rfl) (by kernel_rfl) (by kernel_rfl) (by kernel_rfl) (by intro _ _ _ h; exact h) (Or.inl ⟨by kernel_rfl, ?hy22⟩) (by assumption) ?rest22
        case hy22 =>
          intro w' hSw
          have hSw : Keeps _ w' := hSw
          have hx := keep1 hSw d4
          clear hSw
          go_simp
          try with_reducible rfl
        change wpAnyH _ _ _ _ _ _ _ (Act.put _ (some 86) _) _
        try simp only [Act.put, List.setIfInBounds_toArray, List.set_cons_zero, List.set_cons_succ]
        refine wpAnyH_take (i := 8) (v := ?vv23) (by rfl) (by kernel_rfl) (by kernel_rfl) (by kernel_rfl) (by intro _ _ _ h; exact h) (Or.inl ⟨by kernel_rfl, ?hy23⟩) (by assumption) ?rest23
        case hy23 =>
          intro w' hSw
          have hSw : Keeps _ w' := hSw
          clear hSw
          go_simp
          try with_reducible rfl
        change wpAnyH _ _ _ _ _ _ _ (Act.put _ (some 87) _) _
        try simp only [Act.put, List.setIfInBounds_toArray, List.set_cons_zero, List.set_cons_succ]
        refine wpAnyH_take (i := 9) (v := ?vv24) (by rfl) (by kernel_rfl) (by kernel_rfl) (by kernel_rfl) (by intro _ _ _ h; exact h) (Or.inl ⟨by kernel_rfl, ?hy24⟩) (by assumption) ?rest24
        case hy24 =>
          intro w' hSw
          have hSw : Keeps _ w' := hSw
          clear hSw
          go_simp
          try with_reducible rfl
        change wpAnyH _ _ _ _ _ _ _ (Act.put _ (some 88) _) _
        try simp only [Act.put, List.setIfInBounds_toArray, List.set_cons_zero, List.set_cons_succ]
        refine wpAnyH_take (i := 10) (v := ?vv25) (by rfl) (by kernel_rfl) (by kernel_rfl) (by kernel_rfl) (by intro _ _ _ h; exact h) (Or.inl ⟨by kernel_rfl, ?hy25⟩) (by assumption) ?rest25
        case hy25 =>
          intro w' hSw
          have hSw : Keeps _ w' := hSw
          clear hSw
          go_simp
          try with_reducible rfl
        change wpAnyH _ _ _ _ _ _ _ (Act.put _ (some 89) _) _
        try simp only [Act.put, List.setIfInBounds_toArray, List.set_cons_zero, List.set_cons_succ]
        refine wpAnyH_take (i := 11) (v := ?vv26) (by rfl) (by kernel_rfl) (by kernel_rfl) (by kernel_rfl) (by intro _ _ _ h; exact h) (Or.inl ⟨by kernel_rfl, ?hy26⟩) (by assumption) ?rest26
        case hy26 =>
          intro w' hSw
          have hSw : Keeps _ w' := hSw
          have hx := keep1 hSw d1
          clear hSw
          go_simp
          try with_reducible rfl
        change wpAnyH _ _ _ _ _ _ _ (Act.put _ (some 90) _) _
        try simp only [Act.put, List.setIfInBounds_toArray, List.set_cons_zero, List.set_cons_succ]
        refine wpAnyH_take (i := 12) (v := ?vv27) (by rfl) (by kernel_rfl) (by kernel_rfl) (by kernel_rfl) (by intro _ _ _ h; exact h) (Or.inl ⟨by kernel_rfl, ?hy27⟩) (by assumption) ?rest27
        case hy27 =>
          intro w' hSw
          have hSw : Keeps _ w' := hSw
          clear hSw
          go_simp
          try with_reducible rfl
        change wpAnyH _ _ _ _ _ _ _ (Act.put _ (some 91) _) _
        try simp only [Act.put, List.setIfInBounds_toArray, List.set_cons_zero, List.set_cons_succ]
        refine wpAnyH_take (i := 13) (v := ?vv28) (by rfl) (by kernel_rfl) (by kernel_rfl) (by kernel_rfl) (by intro _ _ _ h; exact h) (Or.inl ⟨by kernel_rfl, ?hy28⟩) (by assumption) ?rest28
        case hy28 =>
          intro w' hSw
          have hSw : Keeps _ w' := hSw
          clear hSw
          go_simp
          try with_reducible rfl
        change wpAnyH _ _ _ _ _ _ _ (Act.put _ (some 92) _) _
        try simp only [Act.put, List.setIfInBounds_toArray, List.set_cons_zero, List.set_cons_succ]
        refine wpAnyH_take (i := 14) (v := ?vv29) (by rfl) (by kernel_rfl) (by kernel_rfl) (by kernel_rfl) (by intro _ _ _ h; exact h) (Or.inl ⟨by kernel_rfl, ?hy29⟩) (by assumption) ?rest29
        case hy29 =>
          intro w' hSw
          have hSw : Keeps _ w' := hSw
          clear hSw
          go_simp
          try with_reducible rfl
        change wpAnyH _ _ _ _ _ _ _ (Act.put _ (some 93) _) _
        try simp only [Act.put, List.setIfInBounds_toArray, List.set_cons_zero, List.set_cons_succ]
        refine wpAnyH_take (i := 15) (v := ?vv30) (by rfl) (by kernel_rfl) (by kernel_rfl) (by kernel_rfl) (by intro _ _ _ h; exact h) (Or.inl ⟨by kernel_rfl, ?hy30⟩) (by assumption) ?rest30
        case hy30 =>
          intro w' hSw
          have hSw : Keeps _ w' := hSw
          have hc := Frm.str_at' (HR9.out.keeps hSw)
          clear hSw
          go_simp
          try with_reducible rfl
        change wpAnyH _ _ _ _ _ _ _ (Act.put _ (some 94) _) _
        try simp only [Act.put, List.setIfInBounds_toArray, List.set_cons_zero, List.set_cons_succ]
        refine wpAnyH_take (i := 16) (v := ?vv31) (by rfl) (by kernel_rfl) (by kernel_rfl) (by kernel_rfl) (by intro _ _ _ h; exact h) (Or.inl ⟨by kernel_rfl, ?hy31⟩) (by assumption) ?rest31
        case hy31 =>
          intro w' hSw
          have hSw : Keeps _ w' := hSw
          clear hSw
          go_simp
          try with_reducible rfl
        change wpAnyH _ _ _ _ _ _ _ (Act.put _ (some 95) _) _
        try simp only [Act.put, List.setIfInBounds_toArray, List.set_cons_zero, List.set_cons_succ]
        refine wpAnyH_take (i := 17) (v := ?vv32) (by rfl) (by kernel_rfl) (by kernel_rfl) (by kernel_rfl) (by intro _ _ _ h; exact h) (Or.inl ⟨by kernel_rfl, ?hy32⟩) (by assumption) ?rest32
        case hy32 =>
          intro w' hSw
          have hSw : Keeps _ w' := hSw
          clear hSw
          go_simp
          try with_reducible rfl
        change wpAnyH _ _ _ _ _ _ _ (Act.put _ (some 96) _) _
        try simp only [Act.put, List.setIfInBounds_toArray, List.set_cons_zero, List.set_cons_succ]
        refine wpAnyH_take (i := 18) (v := ?vv33) (by rfl) (by kernel_rfl) (by kernel_rfl) (by kernel_rfl) (by intro _ _ _ h; exact h) (Or.inl ⟨by kernel_rfl, ?hy33⟩) (by assumption) ?rest33
        case hy33 =>
          intro w' hSw
          have hSw : Keeps _ w' := hSw
          clear hSw
          go_simp
          try with_reducible rfl
        change wpAnyH _ _ _ _ _ _ _ (Act.put _ (some 97) _) _
        try simp only [Act.put, List.setIfInBounds_toArray, List.set_cons_zero, List.set_cons_succ]
        refine wpAnyH_take (i := 19) (v := ?vv34) (by rfl) (by kernel_rfl) (by kernel_rfl) (by kernel_rfl) (by intro _ _ _ h; exact h) (Or.inl ⟨by kernel_rfl, ?hy34⟩) (by assumption) ?rest34
        case hy34 =>
          intro w' hSw
          have hSw : Keeps _ w' := hSw
          have hx := keep1 hSw d5
          clear hSw
          go_simp
          try with_reducible rfl
        change wpAnyH _ _ _ _ _ _ _ (Act.put _ (some 98) _) _
        try simp only [Act.put, List.setIfInBounds_toArray, List.set_cons_zero, List.set_cons_succ]
        refine wpAnyH_take (i := 20) (v := ?vv35) (by rfl) (by kernel_rfl) (by kernel_rfl) (by kernel_rfl) (by intro _ _ _ h; exact h) (Or.inl ⟨by kernel_rfl, ?hy35⟩) (by assumption) ?rest35
        case hy35 =>
          intro w' hSw
          have hSw : Keeps _ w' := hSw
          clear hSw
          go_simp
          try with_reducible rfl
        change wpAnyH _ _ _ _ _ _ _ (Act.put _ (some 99) _) _
        try simp only [Act.put, List.setIfInBounds_toArray, List.set_cons_zero, List.set_cons_succ]
        refine wpAnyH_take (i := 21) (v := ?vv36) (by rfl) (by kernel_rfl) (by kernel_rfl) (by kernel_rfl) (by intro _ _ _ h; exact h) (Or.inl ⟨by kernel_rfl, ?hy36⟩) (by assumption) ?rest36
        case hy36 =>
          intro w' hSw
          have hSw : Keeps _ w' := hSw
          clear hSw
          go_simp
          try with_reducible rfl
        change wpAnyH _ _ _ _ _ _ _ (Act.put _ (some 100) _) _
        try simp only [Act.put, List.setIfInBounds_toArray, List.set_cons_zero, List.set_cons_succ]
        refine wpAnyH_take (i := 22) (v := ?vv37) (by rfl) (by kernel_rfl) (by kernel_rfl) (by kernel_rfl) (by intro _ _ _ h; exact h) (Or.inl ⟨by kernel_rfl, ?hy37⟩) (by assumption) ?rest37
        case hy37 =>
          intro w' hSw
          have hSw : Keeps _ w' := hSw
          clear hSw
          go_simp
          try with_reducible rfl
        change wpAnyH _ _ _ _ _ _ _ (Act.put _ (some 101) _) _
        try simp only [Act.put, List.setIfInBounds_toArray, List.set_cons_zero, List.set_cons_succ]
        refine wpAnyH_take (i := 23) (v := ?vv38) (by rfl) (by kernel_rfl) (by kernel_rfl) (by kernel_rfl) (by intro _ _ _ h; exact h) (Or.inl ⟨by kernel_rfl, ?hy38⟩) (by assumption) ?rest38
        case hy38 =>
          intro w' hSw
          have hSw : Keeps _ w' := hSw
          have hx := keep1 hSw d4
          clear hSw
          go_simp
          try with_reducible rfl
        change wpAnyH _ _ _ _ _ _ _ (Act.put _ (some 102) _) _
        try simp only [Act.put, List.setIfInBounds_toArray, List.set_cons_zero, List.set_cons_succ]
        refine wpAnyH_take (i := 24) (v := ?vv39) (by rfl) (by kernel_rfl) (by kernel_rfl) (by kernel_rfl) (by intro _ _ _ h; exact h) (Or.inl ⟨by kernel_rfl, ?hy39⟩) (by assumption) ?rest39
        case hy39 =>
          intro w' hSw
          have hSw : Keeps _ w' := hSw
          clear hSw
          go_simp
          try with_reducible rfl
        change wpAnyH _ _ _ _ _ _ _ (Act.put _ (some 103) _) _
        try simp only [Act.put, List.setIfInBounds_toArray, List.set_cons_zero, List.set_cons_succ]
        refine wpAnyH_take (i := 25) (v := ?vv40) (by rfl) (by kernel_rfl) (by kernel_rfl) (by kernel_rfl) (by intro _ _ _ h; exact h) (Or.inl ⟨by kernel_rfl, ?hy40⟩) (by assumption) ?rest40
        case hy40 =>
          intro w' hSw
          have hSw : Keeps _ w' := hSw
          clear hSw
          go_simp
          try with_reducible rfl
        change wpAnyH _ _ _ _ _ _ _ (Act.put _ (some 104) _) _
        try simp only [Act.put, List.setIfInBounds_toArray, List.set_cons_zero, List.set_cons_succ]
        refine wpAnyH_take (i := 26) (v := ?vv41) (by rfl) (by kernel_rfl) (by kernel_rfl) (by kernel_rfl) (by intro _ _ _ h; exact h) (Or.inl ⟨by kernel_rfl, ?hy41⟩) (by assumption) ?rest41
        case hy41 =>
          intro w' hSw
          have hSw : Keeps _ w' := hSw
          clear hSw
          go_simp
          try with_reducible rfl
        change wpAnyH _ _ _ _ _ _ _ (Act.put _ (some 105) _) _
        try simp only [Act.put, List.setIfInBounds_toArray, List.set_cons_zero, List.set_cons_succ]
        refine wpAnyH_take (i := 27) (v := ?vv42) (by rfl) (by kernel_rfl) (by kernel_rfl) (by kernel_rfl) (by intro _ _ _ h; exact h) (Or.inl ⟨by kernel_rfl, ?hy42⟩) (by assumption) ?rest42
        case hy42 =>
          intro w' hSw
          have hSw : Keeps _ w' := hSw
          have hx := keep1 hSw d2
          clear hSw
          go_simp
          try with_reducible rfl
        change wpAnyH _ _ _ _ _ _ _ (Act.put _ (some 106) _) _
        try simp only [Act.put, List.setIfInBounds_toArray, List.set_cons_zero, List.set_cons_succ]
        refine wpAnyH_take (i := 28) (v := ?vv43) (by rfl) (by kernel_rfl) (by kernel_rfl) (by kernel_rfl) (by intro _ _ _ h; exact h) (Or.inl ⟨by kernel_rfl, ?hy43⟩) (by assumption) ?rest43
        case hy43 =>
          intro w' hSw
          have hSw : Keeps _ w' := hSw
          clear hSw
          go_simp
          try with_reducible rfl
        change wpAnyH _ _ _ _ _ _ _ (Act.put _ (some 107) _) _
        try simp only [Act.put, List.setIfInBounds_toArray, List.set_cons_zero, List.set_cons_succ]
        refine wpAnyH_take (i := 29) (v := ?vv44) (by rfl) (by kernel_rfl) (by kernel_rfl) (by kernel_rfl) (by intro _ _ _ h; exact h) (Or.inl ⟨by kernel_rfl, ?hy44⟩) (by assumption) ?rest44
        case hy44 =>
          intro w' hSw
          have hSw : Keeps _ w' := hSw
          clear hSw
          go_simp
          try with_reducible rfl
        change wpAnyH _ _ _ _ _ _ _ (Act.put _ (some 108) _) _
        try simp only [Act.put, List.setIfInBounds_toArray, List.set_cons_zero, List.set_cons_succ]
        refine wpAnyH_take (i := 30) (v := ?vv45) (by rfl) (by kernel_rfl) (by kernel_rfl) (by kernel_rfl) (by intro _ _ _ h; exact h) (Or.inl ⟨by kernel_rfl, ?hy45⟩) (by assumption) ?rest45
        case hy45 =>
          intro w' hSw
          have hSw : Keeps _ w' := hSw
          have hx := keep1 hSw d3
          clear hSw
          go_simp
          try with_reducible rfl
        change wpAnyH _ _ _ _ _ _ _ (Act.put _ (some 109) _) _
        try simp only [Act.put, List.setIfInBounds_toArray, List.set_cons_zero, List.set_cons_succ]
        refine wpAnyH_take (i := 31) (v := ?vv46) (by rfl) (by kernel_rfl) (by kernel_rfl) (by kernel_rfl) (by intro _ _ _ h; exact h) (Or.inl ⟨by kernel_rfl, ?hy46⟩) (by assumption) ?rest46
        case hy46 =>
          intro w' hSw
          have hSw : Keeps _ w' := hSw
          clear hSw
          go_simp
          try with_reducible rfl
        change wpAnyH _ _ _ _ _ _ _ (Act.put _ (some 110) _) _
        try simp only [Act.put, List.setIfInBounds_toArray, List.set_cons_zero, List.set_cons_succ]
        refine wpAnyH_take (i := 32) (v := ?vv47) (by rfl) (by kernel_rfl) (by kernel_rfl) (by kernel_rfl) (by intro _ _ _ h; exact h) (Or.inl ⟨by kernel_rfl, ?hy47⟩) (by assumption) ?rest47
        case hy47 =>
          intro w' hSw
          have hSw : Keeps _ w' := hSw
          clear hSw
          go_simp
          try with_reducible rfl
        change wpAnyH _ _ _ _ _ _ _ (Act.put _ (some 111) _) _
        try simp only [Act.put, List.setIfInBounds_toArray, List.set_cons_zero, List.set_cons_succ]
        refine wpAnyH_done (by kernel_rfl) ?_ _
        refine NoPanic.normal ?_
        have HK10 := Lib.hid (HK9.out.trans hHeld)
        clear hHeld d0 d1 d2 d3 d4 d5
        go_wp2_with fail
        go_roundw
        case rel => exact ⟨j + 1, by simp, by omega, HK10⟩
        case measure =>
          simp only [RowKit.intOf]
          omega
      · obtain rfl : j = nl := by omega
        have hlt' : decide ((j : Int) < (j : Int)) = false := by simp
        go_wp2_with fail
        go_ret
        exact ⟨rfl, HK4.out.trans HQ.out⟩
end
end Sa
end Go.Proofs.YtchjncnolmiejaaGreat

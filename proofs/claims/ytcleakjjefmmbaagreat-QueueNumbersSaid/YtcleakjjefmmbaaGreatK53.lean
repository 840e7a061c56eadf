/- Several texts in one: QuLawP, QuAwake, QuNumbers. -/
import Derived.Test.YtcleakjjefmmbaaGreatK49
import Derived.Test.YtcleakjjefmmbaaGreatQuSet
import Derived.Test.YtcleakjjefmmbaaGreatK39
import Derived.Test.YtcleakjjefmmbaaGreatK47
import Derived.Test.YtcleakjjefmmbaaGreatK34
import Derived.Test.YtcleakjjefmmbaaGreatK45
import Derived.Test.YtcleakjjefmmbaaGreatK32
import Derived.Test.YtcleakjjefmmbaaGreatK12
import Derived.Test.YtcleakjjefmmbaaGreatK15
import Derived.Test.YtcleakjjefmmbaaGreatK28
import Derived.Test.YtcleakjjefmmbaaGreatLawKit
import Derived.Test.YtcleakjjefmmbaaGreatDrawn
import Derived.Test.YtcleakjjefmmbaaGreatK11
import Derived.Test.YtcleakjjefmmbaaGreatK29
/- queue: what an act of a law leaves, plain; a queue behind the law's world. -/
namespace Go.Proofs.YtcleakjjefmmbaaGreat
open Go.RowKit
namespace Que
open Vd Sf
open Env (JobP StP goodJ doneB)
/-- what the disk is as the document's: a ghost that bounds it; at most m nodes -/
def DN (d : Dsk) (c m : Nat) : Prop := (∃ r, DR d r c) ∧ d.nodes.length ≤ m
section
variable {d d' : Dsk} {c m : Nat}
theorem DN.more {c' m' : Nat} (h : DN d c m) (hc : c ≤ c') (hm : m ≤ m') : DN d c' m' := let ⟨⟨r, h1⟩, h2⟩ := h; ⟨⟨r, h1.more hc⟩, by omega⟩
theorem DN.seen (h : DN d c m) : d.seen.length ≤ m ∧ ∀ y ∈ d.seen, y.1.length ≤ 100 := by
 obtain ⟨⟨r, h1⟩, h2⟩ := h
 exact ⟨Nat.le_trans h1.ok.len h2, fun y hy => by have := h1.nl y hy; omega⟩
theorem DN.did {j i : Nat} {f : Dsk → Dsk × Int} {g : RDsk → RDsk × Int} (h : DN d c m) (ha : DAlike j f g) (hg : Grows i f) (hc : c + j ≤ 1000000000000) : DN (f d).1 (c + j) (m + i) := by
 obtain ⟨⟨r, h1⟩, h2⟩ := h
 have := hg d
 exact ⟨⟨_, (ha d r c hc h1).2⟩, by omega⟩
theorem DN.drop (h : DN d c m) (x : Str) (hc : c ≤ 1000000) : DN (sDrop x d).1 (c + 3) m := h.did (drop_al x) (grows_sDrop x) (by omega)
theorem DN.tidy (h : DN d c m) (p : Str) (hc : c + m ≤ 1000000) : DN (sTidy p d).1 (c + m) m := by
 obtain ⟨⟨r, h1⟩, h2⟩ := h
 have := grows_sTidy p d
 exact ⟨⟨_, (tidy_al p h2 (by omega) h1).2⟩, by omega⟩
theorem DN.add (h : DN d c m) (q : QuP) (j : JobP) (hc : c ≤ 900000) : DN (qAdd q d j).1.2 (c + 11) (m + 1) := by
 have h1 := h.did (make_al (nameQ q.next) (Env.bytesL (freshJ q j))) (grows_sMake _ _) (by omega)
 unfold qAdd
 split
 ·exact h.more (by omega) (by omega)
 ·split
  ·exact h.more (by omega) (by omega)
  ·split
   ·exact h1.more (by omega) (Nat.le_refl _)
   ·show DN (sweepA _ _ _) _ _
    unfold sweepA
    split
    ·exact (h1.drop _ (by omega)).more (by omega) (Nat.le_refl _)
    ·exact h1.more (by omega) (Nat.le_refl _)
theorem DN.set (h : DN d c m) (q : QuP) (id t : Int) (s : StP) (hc : c ≤ 900000) : DN (qSet q d id t s).1.2 (c + 13) (m + 1) := by
 unfold qSet
 split
 ·exact h.more (by omega) (by omega)
 ·rename_i k hk
  have h1 : DN (setD d id t s k).1 (c + 10) (m + 1) := by
   unfold setD
   split
   ·exact (h.did (append_al _ _) (grows_sAppend _ _) (by omega)).more (by omega) (by omega)
   ·exact h.did (swap_al _ _) (grows_sSwap _ _) (by omega)
  split
  ·exact h.more (by omega) (by omega)
  ·split
   ·exact h.more (by omega) (by omega)
   ·split
    ·exact h1.more (by omega) (Nat.le_refl _)
    ·split
     ·show DN (if id < q.last then _ else _) _ _
      split
      ·exact (h1.drop _ (by omega)).more (by omega) (Nat.le_refl _)
      ·exact h1.more (by omega) (Nat.le_refl _)
     ·exact h1.more (by omega) (Nat.le_refl _)
theorem DN.sweep (all : List (Str × (JobP × Bool))) (last : Int) : ∀ (l : List Str) (s : List (Int × (JobP × Bool)) × Dsk) {c : Nat}, DN s.2 c m → c + 3 * l.length ≤ 900000 → DN (sweepQ all last l s).2.2 (c + 3 * l.length) m
 | [], s, c, h, _ => h
 |x :: l, s, c, h, hc => by
  rw [List.length_cons] at hc ⊢
  have hd := h.drop x (by omega)
  rw [sweep_cons]
  split
  ·split
   ·exact hd.more (by omega) (Nat.le_refl _)
   ·exact (DN.sweep all last l (s.1, (sDrop x s.2).1) (c := c + 3) hd (by omega)).more (by omega) (Nat.le_refl _)
  ·split
   ·exact (DN.sweep all last l s (c := c) h (by omega)).more (by omega) (Nat.le_refl _)
   ·split
    ·exact (DN.sweep all last l s (c := c) h (by omega)).more (by omega) (Nat.le_refl _)
    ·refine DN.more (c := c + 3 * l.length) (m := m) ?_ (by omega) (Nat.le_refl _)
     exact DN.sweep all last l _ (c := c) (by exact h) (by omega)
theorem DN.opens (h : DN d c m) (least : Int) (hc : c + 4 * m ≤ 900000) : DN (openQ d least).2 (c + 4 * m) m := by
 have ht := h.tidy [113] (by omega)
 have hl : (namesQ (sTidy [113] d).1).length ≤ m := by
  unfold namesQ
  refine Nat.le_trans (List.length_filter_le _ _) ?_
  rw [List.length_map]
  exact ht.seen.1
 unfold openQ
 split
 ·exact h.more (by omega) (Nat.le_refl _)
 ·split
  ·exact ht.more (by omega) (Nat.le_refl _)
  ·split
   ·exact ht.more (by omega) (Nat.le_refl _)
   ·have hs := DN.sweep (scanQ (sTidy [113] d).1 (namesQ (sTidy [113] d).1) ⟨nextQ least, 0, []⟩).2.all (scanQ (sTidy [113] d).1 (namesQ (sTidy [113] d).1) ⟨nextQ least, 0, []⟩).2.last (namesQ (sTidy [113] d).1) ([], (sTidy [113] d).1) ht (by omega)
    dsimp only
    split
    ·exact hs.more (by omega) (Nat.le_refl _)
    ·exact hs.more (by omega) (Nat.le_refl _)
theorem DN.boot (h : DN d c m) (t : Int) (ks : List Int) : DN (bootD d t ks).1 c m := by
 obtain ⟨⟨r, h1⟩, h2⟩ := h
 exact ⟨⟨_, (boot_alike h1 t ks).2⟩, by rw [grows_boot]; exact h2⟩
theorem DN.fail (h : DN d c m) (n e : Int) (hc : c ≤ 900000) : DN { d with fail := failT n e } c m := by
 obtain ⟨⟨r, h1⟩, h2⟩ := h
 exact ⟨⟨_, Rf.dr_fail h1 n e (by omega)⟩, h2⟩
theorem DN.crash (h : DN d c m) (n : Int) : DN { d with crash := setT n 11 } c m := by
 obtain ⟨⟨r, h1⟩, h2⟩ := h
 exact ⟨⟨_, Rf.dr_crash h1 n⟩, h2⟩
end
/-- the numbers of a queue -/
def NB (q : QuP) : Prop := 1 ≤ q.next ∧ q.next ≤ 1099511627777
theorem NB.add {q : QuP} (h : NB q) (d : Dsk) (j : JobP) : NB (qAdd q d j).1.1 := by
 unfold NB at h ⊢
 unfold qAdd
 split
 ·exact h
 ·split
  ·exact h
  ·split
   ·exact h
   ·show 1 ≤ q.next + 1 ∧ q.next + 1 ≤ _
    omega
theorem NB.set {q : QuP} (h : NB q) (d : Dsk) (id t : Int) (s : StP) : NB (qSet q d id t s).1.1 := by
 unfold NB at h ⊢
 unfold qSet
 split
 ·exact h
 ·split
  ·exact h
  ·split
   ·exact h
   ·split
    ·exact h
    ·split
     ·exact h
     ·exact h
theorem scan_next (d : Dsk) : ∀ (l : List Str) (s : ScS), (1 ≤ s.next ∧ s.next ≤ 1099511627777) → 1 ≤ (scanQ d l s).2.next ∧ (scanQ d l s).2.next ≤ 1099511627777
 | [], s, h => h
 |x :: l, s, h => by
  rw [scan_cons]
  split
  ·exact h
  ·rename_i hz
   have hn := numQ_some hz
   have hb : 1 ≤ max s.next ((numQ x : Int) + 1) ∧ max s.next ((numQ x : Int) + 1) ≤ 1099511627777 := by
    have := hn.2.2
    unfold maxId at this
    omega
   split
   ·exact hb
   ·refine scan_next d l _ ?_
    unfold scanStep
    split <;> exact hb
theorem NB.opens {q : QuP} {d : Dsk} {least : Int} (h : (openQ d least).1.1 = some q) : NB q := by
 have hs := scan_next (sTidy [113] d).1 (namesQ (sTidy [113] d).1) ⟨nextQ least, 0, []⟩ (by show 1 ≤ nextQ least ∧ nextQ least ≤ 1099511627777; unfold nextQ; split <;> omega)
 unfold openQ at h
 split at h
 ·cases h
 ·split at h
  ·cases h
  ·split at h
   ·cases h
   ·dsimp only at h
    split at h
    ·cases h
    ·simp only [Option.some.injEq] at h
     subst h
     exact hs
section
variable {S S' J J' : Nat → Prop} {W w w' : World} {gd g b n k k' : Nat} {d d' : Dsk} {q : QuP} {jv : JL}
abbrev F0 : Nat → Prop := fun _ => False
/-- a disk alone, ahead of Open -/
theorem dx_of (h : DiskAt w S gd d) (hf : Few d k) (hl : ∀ y, S y → y < w.heap.size) : DX F0 S w w gd d k S F0 :=
 ⟨h, fun y hy => .inl hy, fun y hy => ⟨hl y hy, fun h => h, fun h => h⟩, fun y hy => hy.elim, fun y hy => hy.elim, Mods.refl _ _, hf⟩
/-- a new queue behind the law's world -/
theorem qx_base (hS : ∀ y, S y → W.heap.size ≤ y) (hk : Keeps W w) (h : QX F0 S w w' gd d k S' J g b n q jv) : QX F0 F0 W w' gd d k S' J g b n q jv := by
 have hs := hk.size
 refine ⟨⟨h.dx.dsk, fun y hy => .inr ?_, h.dx.lt, fun y hy => ⟨Nat.le_trans hs (h.dx.jl y hy).1, (h.dx.jl y hy).2⟩, h.dx.al, (Mods.of_keeps (S := F0) hk).trans h.dx.mods (fun y hy hlt => by have := hS y hy; omega), h.dx.few⟩, h.qu, h.gs.1, h.gs.2.1, h.gs.2.2.1, h.gs.2.2.2.1, Nat.le_trans hs h.gs.2.2.2.2.1, Nat.le_trans hs h.gs.2.2.2.2.2⟩
 rcases h.dx.sm y hy with h1 | h1
 ·exact hS y h1
 ·omega
/-- the elder queue beside the disk, behind Open -/
theorem qx_old (h : QX F0 F0 W w gd d k S J g b n q jv) (hd : DX F0 S w w' gd d' k' S' J') : QX F0 F0 W w' gd d' k' S' J g b n q jv := by
 have hs := h.dx.mods.size
 have hz := hd.mods.size
 have hg := h.qu.blk.lt
 have hb := h.qu.map.lt
 have hc : ∀ y, S' y → S y ∨ w.heap.size ≤ y := hd.sm
 refine ⟨⟨hd.dsk, fun y hy => .inr ?_, fun y hy => ⟨(hd.lt y hy).1, fun hj => ?_, fun h => h⟩, fun y hy => ⟨(h.dx.jl y hy).1, Nat.lt_of_lt_of_le (h.dx.jl y hy).2 hz⟩, fun y hy => hy.elim, h.dx.mods.trans hd.mods (fun y hy hlt => (h.dx.sm y hy).elim (fun h => h) (fun h1 => by omega)), hd.few⟩, h.qu.mods hd.mods (fun y hy => (h.dx.lt y hy).2.1) h.gs.1 h.gs.2.1, fun hy => ?_, fun hy => ?_, h.gs.2.2⟩
 ·rcases hc y hy with h1 | h1
  ·exact (h.dx.sm y h1).elim (fun h => h.elim) id
  ·omega
 ·rcases hc y hy with h1 | h1
  ·exact (h.dx.lt y h1).2.1 hj
  ·have := (h.dx.jl y hj).2; omega
 ·rcases hc g hy with h1 | h1
  ·exact h.gs.1 h1
  ·omega
 ·rcases hc b hy with h1 | h1
  ·exact h.gs.2.1 h1
  ·omega
/-- a call on the disk alone: Fail, Crash, Boot -/
theorem qx_did (h : QX F0 F0 W w gd d k S J g b n q jv) (hd : DiskAt w' (More S w w') gd d') (hm : Mods S w w') (hf : Few d' k') : QX F0 F0 W w' gd d' k' (More S w w') J g b n q jv :=
 h.call ⟨hd, hm, hf, fun y hy => (h.dx.lt y hy).1⟩
end
end Que
end Go.Proofs.YtcleakjjefmmbaaGreat

/- What the document tells of the queue: awake. -/
namespace Go.Proofs.YtcleakjjefmmbaaGreat
open Go.RowKit
namespace Que
open Vd Sf
open Env (JobP StP JobAt JobOwn jobA jobM stM Short stA stC tgC freshS)
open Frm (rowS_lit ownsRow_form)
def J23 : JobP := ⟨0, 3, [], [], [⟨1, [97], [120]⟩], [], [104, 105]⟩
def J23a : JobP := ⟨5, 3, [], [], [⟨1, [97], [120]⟩], [freshS 3], [104, 105]⟩
def d23 : Dsk := ⟨10000, [], [], [], [], false, 0, (-1, 0), (-1, 0)⟩
def q23 : QuP := ⟨6, 5, [(5, (J23a, true))]⟩
theorem add23 : (qAdd ⟨5, 0, []⟩ d23 J23).2 = (5, 0) ∧ (qAdd ⟨5, 0, []⟩ d23 J23).1.1 = q23 := by
 constructor <;> kernel_rfl
def d23a : Dsk := (qAdd ⟨5, 0, []⟩ d23 J23).1.2
theorem set23 : (qSet q23 d23a 5 0 ⟨1, 0, 0, 0⟩).2 = 0 ∧ (qSet q23 d23a 5 0 ⟨1, 0, 0, 0⟩).1.1.jobs.length = 0 ∧ (namesD (qSet q23 d23a 5 0 ⟨1, 0, 0, 0⟩).1.2).length = 1 := by
 refine ⟨?_, ?_, ?_⟩ <;> kernel_rfl
theorem name7 : nameQ 7 = [113, 48, 48, 48, 48, 48, 48, 48, 48, 48, 48, 48, 48, 55] := by decide
theorem good23 : Env.goodJ J23a = true := by kernel_rfl
theorem short23 : Short J23 := by
 refine ⟨by decide, by decide, ?_, by decide, by decide, by decide⟩
 intro t ht
 simp only [J23, List.mem_singleton] at ht
 subst ht
 exact ⟨by decide, by decide, by decide⟩
theorem open23 : openQ d23 5 = ((some ⟨5, 0, []⟩, 0), d23) := open_new _ _ _ _
set_option maxRecDepth 100000 in
set_option maxHeartbeats 8000000 in
theorem awake23_any (w : World) : Calls Tryz.prog 6 #[] w fun e w' => e = .returned (.bool true) ∧ Keeps w w' := by
 have kc := fun (w : World) (C : Array Value) (n c : Nat) => Lib.run_convert_bytes_const (P := Tryz.prog) w 53 5 C n c Tryz.underlying53 Tryz.underlying5
 go_enter Tryz.func6, Tryz.ntmps6
 go_wp2_with fail
 refine (new_at (Keeps.refl w) (.slice none 0 0) [] (Env.rs_nil _ _) (fun f hf => absurd hf List.not_mem_nil) 10000).mono ?_
 rintro e y1 ⟨hk1, hd1⟩
 rw [show newD [] 10000 = some d23 from rfl] at hd1
 obtain ⟨gd, rfl, hdsk⟩ := hd1
 have HD := Lib.hid hdsk
 have HK1 := Lib.hid hk1
 clear hk1 hdsk
 go_wp2_with fail
 refine (name_any y1 7).mono ?_
 rintro e y2 ⟨rfl, hk2⟩
 rw [name7]
 have hb7 := bstr_toList [113, 48, 48, 48, 48, 48, 48, 48, 48, 48, 48, 48, 48, 55]
 have HD2 := Lib.hid ((HD.out.keeps hk2).wide (T := Rng w.heap.size y2) (fun y hy => ⟨hy.1, Nat.lt_of_lt_of_le hy.2 hk2.size⟩))
 have HK2 := Lib.hid (HK1.out.trans hk2)
 clear hk2 HD HK1
 go_wp2_with fail
 have HO := Lib.hid (open_any (dx_of HD2.out (k := 0) ⟨by decide, by decide, by decide, by decide, fun y hy => absurd hy List.not_mem_nil, by decide, by decide⟩ (fun y hy => hy.2)) (N := 0) (by omega) (by decide) (by decide) (fun y hy => absurd hy List.not_mem_nil) (by exact fun y hy => absurd hy List.not_mem_nil) 5 (by decide))
 rw [open23] at HO
 refine HO.out.mono ?_
 rintro e y4 ⟨S', J', hdx, hh⟩
 rcases hh with ⟨hno, -⟩ | ⟨q', g, b', n', jv', hs, hn', rfl, hqx⟩
 ·cases hno
 simp only [Option.some.injEq] at hs
 have HQ := Lib.hid (show QAt F0 F0 w y4 gd d23 0 g 0 ⟨5, 0, []⟩ from by
  have hb := qx_base (W := w) (fun y hy => hy.1) HK2.out hqx
  rw [← hs] at hb
  exact ⟨_, _, _, _, hb.more (Nat.le_refl _) hn'⟩)
 clear hdx hqx hs hn' HO HD2 hb7
 go_wp2_with fail
 refine (next_any HQ.out).mono ?_
 rintro e y5 ⟨rfl, rfl⟩
 have kc2 := kc (y4.alloc (.cells #[.int .i64 1, .string ⟨#[97]⟩, .string ⟨#[120]⟩] 75)) #[.int .u8 104, .int .u8 105] 2 2
 rw [show (y4.alloc (.cells #[.int .i64 1, .string ⟨#[97]⟩, .string ⟨#[120]⟩] 75)).heap.size = y4.heap.size + 1 from by simp] at kc2
 clear kc
 have HAT := Lib.hid (show JobAt ((y4.alloc (.cells #[.int .i64 1, .string ⟨#[97]⟩, .string ⟨#[120]⟩] 75)).alloc (.cells #[.int .u8 104, .int .u8 105] 5 (2, 3))) J23 (.slice (some ⟨y4.heap.size, 0, none⟩) 1 1) (.slice none 0 0) (.slice (some ⟨y4.heap.size + 1, 0, none⟩) 2 2) from by
  refine ⟨?_, Env.rs_nil _ _, ?_⟩
  ·exact RowS.keeps (w := y4.alloc _) (rowS_lit (l := tgC ⟨1, [97], [120]⟩) rfl rfl rfl) ((Keeps.refl _).alloc _)
  ·exact Frm.row_mark (w := y4.alloc (.cells #[.int .i64 1, .string ⟨#[97]⟩, .string ⟨#[120]⟩] 75)) (b := y4.heap.size + 1) (cs := #[.int .u8 104, .int .u8 105]) (e := 5) (fr := (2, 3)) (l := ([104, 105] : List UInt8).map u8v) (by simp) rfl (by decide))
 have HKA := Lib.hid (show Keeps y4 ((y4.alloc (.cells #[.int .i64 1, .string ⟨#[97]⟩, .string ⟨#[120]⟩] 75)).alloc (.cells #[.int .u8 104, .int .u8 105] 5 (2, 3))) from ((Keeps.refl _).alloc _).alloc _)
 go_wp2_with fail
 refine (add_any (HQ.out.keeps HKA.out) (by omega) (by omega) (by decide) (by decide) J23 _ _ _ HAT.out short23).mono ?_
 rintro e y6 ⟨rfl, hqr⟩
 rw [add23.1]
 rw [add23.2] at hqr
 have HQ6 := Lib.hid (show QAt F0 F0 w y6 gd d23a 11 g 1 q23 from hqr.1)
 have HK6 := Lib.hid (show Keeps w y6 from by
  obtain ⟨S, J, b, jv, hx⟩ := hqr.1
  exact hx.dx.mods.keeps (Keeps.refl _) (fun y hy => hy.elim))
 clear hqr kc2 HAT HKA HQ
 go_wp2_with fail
 have HGT := Lib.hid (show Calls Tryz.prog 29 #[.pointer (some ⟨g, 0, none⟩), .int .i64 5] y6 (fun e w' => ∃ vt vs vb, e = .returned (.tuple #[.agg #[.int .i64 5, .int .i64 3, .string (bstr []), .string (bstr []), vt, vs, vb], .bool true]) ∧ JobOwn w' y6.heap.size J23a vt vs vb ∧ Keeps y6 w') from get_any HQ6.out (fun p hp => by
  simp only [q23, List.mem_singleton] at hp
  rw [hp]
  exact good23) (x := 5) (by decide))
 refine HGT.out.mono ?_
 rintro e y7 ⟨ut, us, ub, rfl, ho7, hk7⟩
 obtain ⟨qt, et, hut, -, -⟩ := ownsRow_form ho7.1
 obtain ⟨qs, es, hus, -, -⟩ := ownsRow_form ho7.2.1
 obtain ⟨qb, eb, hub, -, -⟩ := ho7.2.2.form
 replace hut : ut = .slice qt 1 et := hut
 replace hus : us = .slice qs 1 es := hus
 replace hub : ub = .slice qb 2 eb := hub
 subst hut
 subst hus
 subst hub
 have HO7 := Lib.hid (JobOwn.at_ ho7)
 have HQ7 := Lib.hid (HQ6.out.keeps hk7)
 have HK7 := Lib.hid (HK6.out.trans hk7)
 clear ho7 hk7 HQ6 HK6 HGT
 have HJB := Lib.hid (Blk.new y7 55 #[.int .i64 0, .int .i64 0, .string ⟨#[]⟩, .string ⟨#[]⟩, .slice none 0 0, .slice none 0 0, .slice none 0 0] rfl)
 have HK8 := Lib.hid ((Keeps.refl y7).alloc (.cells #[.int .i64 0, .int .i64 0, .string ⟨#[]⟩, .string ⟨#[]⟩, .slice none 0 0, .slice none 0 0, .slice none 0 0] 55))
 go_upto_region 9 with (refine wpList_st (ds := #[.int .i64 5, .int .i64 3, .string (bstr []), .string (bstr []), .slice qt 1 et, .slice qs 1 es, .slice qb 2 eb]) rfl jobM HJB.out rfl (by simp [Value.oneCell']) _ _ rfl rfl rfl rfl ?_; intro y8 hB8 hM8; have HB8 := Lib.hid hB8; have HM8 := Lib.hid hM8; clear hB8 hM8)
 have HKZ := Lib.hid (show Keeps y7 y8 from HM8.out.keeps HK8.out (fun y hy => by rw [hy]; exact Nat.le_refl _))
 obtain ⟨bj, hbj⟩ : ∃ z, y7.heap.size = z := ⟨_, rfl⟩
 rw [hbj] at HB8 ⊢
 have HQ8 := Lib.hid (HQ7.out.keeps HKZ.out)
 have HW8 := Lib.hid (HK7.out.trans HKZ.out)
 have HO8 := Lib.hid (HO7.out.keeps HKZ.out)
 clear HJB HK8 HM8 hbj HO7 HQ7 HK7 HKZ
 have k5 : y8.cell? ⟨bj, 5, none⟩ = some (.slice qs 1 es) := by rw [HB8.out.cell]; rfl
 have k6 : y8.cell? ⟨bj, 6, none⟩ = some (.slice qb 2 eb) := by rw [HB8.out.cell]; rfl
 have hconv : (convert 53 9 (.slice qb 2 eb)).run Tryz.prog y8 = .ok (.string (bstr [104, 105])) y8 := HO8.out.body.str Tryz.underlying53 Tryz.underlying5 Tryz.underlying9
 have hbt := bstr_toList [104, 105]
 obtain ⟨sb, so, sc, hqs, hrs⟩ := Env.rowS_at Env.stC_len (l := [freshS 3]) (j := 0) HO8.out.st (by decide)
 simp only [Value.slice.injEq] at hqs
 obtain ⟨rfl, -, -⟩ := hqs
 have k8 : y8.cell? ⟨sb, so + 2, none⟩ = some (.int .i64 3) := hrs 2 _ rfl
 have HST := Lib.hid (set_any HQ8.out (by omega) (by omega) (fun p hp => by
  simp only [q23, List.mem_singleton] at hp
  rw [hp]
  exact ⟨good23, rfl⟩) 5 0 (by decide) ⟨1, 0, 0, 0⟩)
 rw [set23.1] at HST
 unfold stA at HST
 clear hrs HO8 HB8
 go_wp2_with fail
 refine HST.out.mono ?_
 rintro e y9 ⟨rfl, hqr⟩
 obtain ⟨⟨q9, d9⟩, hr9⟩ : ∃ z, (qSet q23 d23a 5 0 ⟨1, 0, 0, 0⟩).1 = z := ⟨_, rfl⟩
 have h0 := set23.2
 rw [hr9] at hqr h0
 have HQ9 := Lib.hid hqr.1
 have H0 := Lib.hid h0
 have HK9 := Lib.hid (show Keeps w y9 from by
  obtain ⟨S, J, b, jv, hx⟩ := hqr.1
  exact hx.dx.mods.keeps (Keeps.refl _) (fun y hy => hy.elim))
 clear hqr h0 hr9 HST
 go_wp2_with fail
 refine (len_any HQ9.out).mono ?_
 rintro e ya ⟨rfl, rfl⟩
 rw [show q9.jobs.length = 0 from H0.out.1]
 have HNM := Lib.hid (show Calls Tryz.prog 31 #[.pointer (some ⟨gd, 0, none⟩)] y9 (NamesDid y9 d9) from by
  obtain ⟨S, J, b, jv, hx⟩ := HQ9.out
  exact names_any y9 hx.dx.dsk)
 unfold NamesDid at HNM
 have HL := Lib.hid (show (nameV (namesD d9)).length = 1 from by unfold nameV; rw [List.length_map]; exact H0.out.2)
 go_wp2_with fail
 refine HNM.out.mono ?_
 rintro e yb ⟨v, rfl, ho, hkb⟩
 obtain ⟨pn, cn, hv, -, -⟩ := ownsRow_form (show yb.ownsRow y9.heap.size 9 1 v (nameV (namesD d9)).length (nameV (namesD d9)) from ho)
 rw [HL.out] at hv
 subst hv
 have HKB := Lib.hid (HK9.out.trans hkb)
 clear ho hkb
 go_wp2_with fail
 go_ret
 exact ⟨rfl, HKB.out⟩
end Que
end Go.Proofs.YtcleakjjefmmbaaGreat

/- The law QueueNumbers: the walk. -/
namespace Go.Proofs.YtcleakjjefmmbaaGreat
open Go.RowKit
namespace Que
open Vd Sf
open Env (JobP StP JobX JobAt jobA jobM stM LightP Short stA)
theorem light_short {w : World} {x : JobX} (h : LightP x.j) (ho : Env.JobOk w x) : Short x.j :=
 ⟨by have := h.fl; omega, by have := h.fd; omega, fun t ht => ⟨by have := (h.all t ht).1; omega, by have := (h.all t ht).2; omega, (ho.ts t ht).u⟩, by have := h.tos; omega, by have := h.st; omega, by have := h.body; omega⟩
/-- behind i acts -/
structure NumS (W wr : World) (gd : Nat) (i : Nat) (g : Nat) (last : Int) (q : QuP) (d : Dsk) : Prop where
 at_ : QAt F0 F0 W wr gd d (100 + 300 * i) g (61 + i) q
 qi : QI last q d
 dn : DN d (100 + 300 * i) i
 nb : NB q
section
variable {W w w' : World} {gd g i k : Nat} {last : Int} {q : QuP} {d d' : Dsk}
theorem NumS.keeps (h : NumS W w gd i g last q d) (hk : Keeps w w') : NumS W w' gd i g last q d := ⟨h.at_.keeps hk, h.qi, h.dn, h.nb⟩
theorem NumS.kp (h : NumS W w gd i g last q d) : Keeps W w := by
 obtain ⟨S, J, b, jv, hx⟩ := h.at_
 exact hx.dx.mods.keeps (Keeps.refl _) (fun y hy => hy.elim)
theorem NumS.next (h : NumS W w gd i g last q d) : NumS W w gd (i + 1) g last q d := ⟨h.at_.more (by omega) (by omega), h.qi, h.dn.more (by omega) (by omega), h.nb⟩
theorem NumS.lx (h : NumS W w gd i g last q d) : 0 ≤ q.last ∧ q.last ≤ 1099511627777 := by
 have h1 := h.qi.l0
 have h2 := h.qi.ln
 have h3 := h.nb
 unfold NB at h3
 omega
def AddR (W : World) (gd i g : Nat) (last : Int) (e : Ending) (w' : World) : Prop := ∃ (n er : Int) (q' : QuP) (d' : Dsk), e = .returned (.tuple #[.int .i64 n, .int .i64 er]) ∧ ((er ≠ 0 ∧ NumS W w' gd (i + 1) g last q' d') ∨ (er = 0 ∧ last < n ∧ NumS W w' gd (i + 1) g n q' d'))
theorem NumS.add (h : NumS W w gd i g last q d) (hi : i ≤ 30) {j : JobP} {vt vs vb : Value} (hj : JobAt w j vt vs vb) (hs : Short j) : Calls Tryz.prog 20 #[.pointer (some ⟨g, 0, none⟩), .agg (jobA j vt vs vb)] w (AddR W gd i g last) :=
 (add_any h.at_ (by omega) (by omega) h.nb h.lx j vt vs vb hj hs).mono (fun e w' ⟨h1, h2⟩ => by
  have ha := h2.1.more (k' := 100 + 300 * (i + 1)) (m := 61 + (i + 1)) (by omega) (by omega)
  have hd := (h.dn.add q j (by omega)).more (c' := 100 + 300 * (i + 1)) (by omega) (Nat.le_refl _)
  have hn := h.nb.add d j
  rcases h.qi.add j with ⟨h3, h4⟩ | ⟨h3, h4, h5⟩
  ·exact ⟨_, _, _, _, h1, .inl ⟨h3, ha, h4, hd, hn⟩⟩
  ·exact ⟨_, _, _, _, h1, .inr ⟨h3, h4, ha, h5, hd, hn⟩⟩)
theorem NumS.set (h : NumS W w gd i g last q d) (hi : i ≤ 30) (id t : Int) (hid : (Lit.int .i64 id).wf = true) (s : StP) : Calls Tryz.prog 21 #[.pointer (some ⟨g, 0, none⟩), .int .i64 id, .int .i64 t, .agg (stA s)] w (fun e w' => ∃ c q' d', e = .returned (.int .i64 c) ∧ NumS W w' gd (i + 1) g last q' d') :=
 (set_any h.at_ (by omega) (by omega) h.qi.jobs id t hid s).mono (fun e w' ⟨h1, h2⟩ =>
  ⟨_, _, _, h1, h2.1.more (by omega) (by omega), h.qi.set id t s, (h.dn.set q id t s (by omega)).more (by omega) (Nat.le_refl _), h.nb.set d id t s⟩)
theorem few_fail {f c : Int × Int} (h : Few d k) : Few { d with fail := f, crash := c } k := ⟨h.c0, h.c1, h.m, h.n, h.p, h.s, h.u⟩
theorem NumS.fail (h : NumS W w gd i g last q d) (hi : i ≤ 30) (n er : Int) : Calls Tryz.prog 22 #[.pointer (some ⟨gd, 0, none⟩), .int .i64 n, .int .i64 er] w (fun e w' => ∃ d', e = .returned (.tuple #[]) ∧ NumS W w' gd (i + 1) g last q d') := by
 obtain ⟨S, J, b, jv, hx⟩ := h.at_
 refine (fail_any w hx.dx.dsk n er).mono (fun e w' ⟨h1, h2, h3⟩ => ⟨{ d with fail := failT n er }, h1, ?_⟩)
 exact ⟨⟨_, _, _, _, (qx_did hx (h2.wide (fun y hy => .inl hy)) h3 (few_fail (f := failT n er) (c := d.crash) hx.dx.few)).more (by omega) (by omega)⟩, h.qi.fail n er, (h.dn.fail n er (by omega)).more (by omega) (by omega), h.nb⟩
theorem NumS.crash (h : NumS W w gd i g last q d) (hi : i ≤ 30) (n : Int) : Calls Tryz.prog 23 #[.pointer (some ⟨gd, 0, none⟩), .int .i64 n] w (fun e w' => ∃ d', e = .returned (.tuple #[]) ∧ NumS W w' gd (i + 1) g last q d') := by
 obtain ⟨S, J, b, jv, hx⟩ := h.at_
 refine (crash_any w hx.dx.dsk n).mono (fun e w' ⟨h1, h2, h3⟩ => ⟨{ d with crash := setT n 11 }, h1, ?_⟩)
 exact ⟨⟨_, _, _, _, (qx_did hx (h2.wide (fun y hy => .inl hy)) h3 (few_fail (f := d.fail) (c := setT n 11) hx.dx.few)).more (by omega) (by omega)⟩, h.qi.crash n, (h.dn.crash n).more (by omega) (by omega), h.nb⟩
/-- Boot: i stays -/
theorem NumS.boot (h : NumS W w gd i g last q d) (hi : i ≤ 30) (t : Int) (ht : (Lit.int .i64 t).wf = true) {kv : Value} {keep : List Int} (hr : Row W kv (keep.map (Value.int .i64))) : Calls Tryz.prog 24 #[.pointer (some ⟨gd, 0, none⟩), .int .i64 t, kv] w (fun e w' => ∃ c d', e = .returned (.int .i64 c) ∧ NumS W w' gd i g last q d') := by
 obtain ⟨S, J, b, jv, hx⟩ := h.at_
 obtain ⟨⟨r, hr1⟩, hr2⟩ := h.dn
 refine (boot_any w hx.dx.dsk t ht (keep := keep) (fun w' hm => ?_) (fun j => ?_) (by omega) (by have := hx.dx.few.m; omega)).mono (fun e w' hd => ?_)
 ·have hk : Keeps W w' := hm.keeps h.kp (fun y hy => (hx.dx.sm y hy).elim (fun h => h.elim) id)
  exact hr.keeps hk
 ·exact Nat.le_trans (hr1.oku.gone hr1.mv j).len (by omega)
 ·obtain ⟨h1, h2, h3⟩ := hd
  exact ⟨_, _, h1, ⟨_, _, _, _, qx_did hx (h2.wide (fun y hy => by
   rcases hy with hy | hy
   ·exact .inl hy
   ·exact .inr hy)) ((Mods.refl S w).trans h3 (fun y hy hlt => hy.elim id (fun h => by omega))) (few_boot_dr hx.dx.few hr1 t keep)⟩, h.qi.boot t keep, h.dn.boot t keep, h.nb⟩
def OpenR (W : World) (gd i g : Nat) (last : Int) (e : Ending) (w' : World) : Prop := ∃ (p : Option Addr) (er : Int) (q' : QuP) (d' : Dsk) (g' : Nat), e = .returned (.tuple #[.pointer p, .int .i64 er]) ∧ ((p = none ∧ g' = g) ∨ p = some ⟨g', 0, none⟩) ∧ NumS W w' gd (i + 1) g' last q' d'
theorem NumS.open_ (h : NumS W w gd i g last q d) (hi : i ≤ 30) : Calls Tryz.prog 10 #[.pointer (some ⟨gd, 0, none⟩), .int .i64 1] w (OpenR W gd i g last) := by
 obtain ⟨S, J, b, jv, hx⟩ := h.at_
 have ht := h.dn.tidy [113] (by omega)
 have h1 := h.dn.seen
 have h2 := ht.seen
 refine (open_any (dx_of hx.dx.dsk hx.dx.few (fun y hy => (hx.dx.lt y hy).1)) (N := 60) (by omega) (by omega) (by omega) h1.2 h2.2 1 (by decide)).mono (fun e w' hd => ?_)
 obtain ⟨S', J', hdx, hh⟩ := hd
 have hq := h.qi.opens 1
 have hn := (h.dn.opens 1 (by omega)).more (c' := 100 + 300 * (i + 1)) (m' := i + 1) (by omega) (by omega)
 rcases hh with ⟨-, he⟩ | ⟨q', g', b', n', jv', hs, hn', he, hqx⟩
 ·exact ⟨_, _, q, _, g, he, .inl ⟨rfl, rfl⟩, ⟨_, _, _, _, (qx_old hx hdx).more (by omega) (by omega)⟩, hq.1, hn, h.nb⟩
 ·exact ⟨_, _, q', _, g', he, .inr rfl, ⟨_, _, _, _, (qx_base (fun y hy => (hx.dx.sm y hy).elim (fun h => h.elim) id) h.kp hqx).more (by omega) (by omega)⟩, hq.2 _ hs, hn, NB.opens hs⟩
end
abbrev zeroAct : Array Value := #[.int .i64 0, .int .i64 0, .int .i64 0, .int .i64 0, .int .i64 0, .string ⟨#[]⟩, .string ⟨#[]⟩, .slice none 0 0, .slice none 0 0, .slice none 0 0, .int .i64 0, .int .i64 0, .int .i64 0, .int .i64 0, .string ⟨#[]⟩, .int .i64 0, .slice none 0 0]
theorem actM : Mids Tryz.prog 60 17 := ⟨⟨_, Tryz.underlying60, rfl⟩, by kernel_rfl⟩
set_option maxRecDepth 100000 in
set_option maxHeartbeats 8000000 in
theorem queueNumbers_walk (W : World) (cap : Int) (v : Value) (l : List ActQ) (hcap : (Lit.int .i64 cap).wf = true) (r1 : RowS W 17 v l.length (l.flatMap aqC)) (w1 : ∀ x ∈ l, AqOk W x) :
  Calls Tryz.prog 4 #[.int .i64 cap, v] W fun e w' => e = .returned (.bool true) ∧ Keeps W w' := by
 have HOK := Lib.hid w1
 have HR := Lib.hid r1
 obtain ⟨p, cp, rfl, -, -⟩ := r1.form
 clear r1 w1
 go_enter Tryz.func4, Tryz.ntmps4
 go_wp2_with fail
 refine (awake23_any W).mono ?_
 rintro e y1 ⟨rfl, hk1⟩
 have HK1 := Lib.hid hk1
 clear hk1
 go_wp2_with fail
 refine (few23_any _ l y1 (HR.out.keeps HK1.out) (fun x hx => (HOK.out x hx).keeps HK1.out)).mono ?_
 rintro e y2 ⟨bf, rfl, hbf, hk2⟩
 have HK2 := Lib.hid (HK1.out.trans hk2)
 have HBF := Lib.hid hbf
 clear hk2 hbf HK1
 cases bf with
 |false =>
  go_wp2_with fail
  go_ret
  exact ⟨rfl, HK2.out⟩
 |true =>
 have HF := Lib.hid (HBF.out rfl)
 clear HBF
 go_wp2_with fail
 refine (new_at (Keeps.refl y2) (.slice none 0 0) [] (Env.rs_nil _ _) (fun f hf => absurd hf List.not_mem_nil) cap).mono ?_
 rintro e y3 ⟨hk3, hd3⟩
 have HK3 := Lib.hid (HK2.out.trans hk3)
 cases hnd : newD [] cap with
 |none =>
  rw [hnd] at hd3
  obtain rfl : e = .returned (.pointer none) := hd3
  clear hk3 hnd
  go_wp2_with fail
  go_ret
  exact ⟨rfl, HK3.out⟩
 |some d =>
 rw [hnd] at hd3
 obtain ⟨gd, rfl, hdsk⟩ := hd3
 have HND := Lib.hid (new_is cap hnd)
 have HD := Lib.hid hdsk
 have HY := Lib.hid hk3
 clear hk3 hnd hdsk
 go_wp2_with fail
 have HO := Lib.hid (open_any (dx_of HD.out (k := 0) (by rw [HND.out]; exact ⟨by simp, by simp, by simp, by simp, fun y hy => absurd hy List.not_mem_nil, by simp, by simp⟩) (fun y hy => hy.2)) (N := 0) (by omega) (by rw [HND.out]; simp) (by rw [HND.out]; exact (Nat.le_refl 0 : ([] : Vd.Nms).length ≤ 0)) (by rw [HND.out]; exact fun y hy => absurd hy List.not_mem_nil) (by rw [HND.out]; exact fun y hy => absurd hy List.not_mem_nil) 1 (by decide))
 refine HO.out.mono ?_
 rintro e y4 hod
 have hon : openQ d 1 = ((some ⟨1, 0, []⟩, 0), d) := by rw [HND.out]; exact open_new _ _ _ _
 rw [hon] at hod
 obtain ⟨S', J', hdx, hh⟩ := hod
 rcases hh with ⟨hno, -⟩ | ⟨q', g', b', n', jv', hs, hn', rfl, hqx⟩
 ·cases hno
 simp only [Option.some.injEq] at hs
 have HS0 := Lib.hid (show NumS y2 y4 gd 0 g' 0 ⟨1, 0, []⟩ d from by
  have hb := qx_base (W := y2) (fun y hy => hy.1) HY.out hqx
  rw [← hs] at hb
  refine ⟨⟨_, _, _, _, hb.more (by omega) (by omega)⟩, ?_, ⟨⟨_, by rw [HND.out]; exact (Rf.dr_new cap).more (by omega)⟩, by rw [HND.out]; simp⟩, by unfold NB; decide⟩
  rw [HND.out]
  exact QI.first _ _ _ (by decide))
 clear hon hdx hqx hs hn' HO
 go_wp2_with fail
 have HL := Lib.hid HF.out.1
 have hl30 := HF.out.1
 go_loopw [6, 8, 9] (fun qv lv iv wr => ∃ (i g : Nat) (last : Int) (q : QuP) (d : Dsk), qv = .pointer (some ⟨g, 0, none⟩) ∧ lv = .int .i64 last ∧ iv = .int .i64 (i : Int) ∧ Hid (i ≤ l.length ∧ NumS y2 wr gd i g last q d)) (fun _ _ iv _ => l.length - (RowKit.intOf iv).toNat)
 case atStart => exact ⟨0, g', 0, _, _, rfl, rfl, rfl, Lib.hid ⟨Nat.zero_le _, HS0.out⟩⟩
 case round =>
  obtain ⟨i, g, last, q, dz, rfl, rfl, rfl, HH⟩ := hrel
  by_cases hlt : i < l.length
  ·have hlt' : decide ((i : Int) < (l.length : Int)) = true := decide_eq_true (by omega)
   have hi30 : i ≤ 30 := by omega
   obtain ⟨b, off, cap2, hv, -, -, HC⟩ := HR.out.at_ (by omega)
   simp only [Value.slice.injEq] at hv
   obtain ⟨rfl, -, rfl⟩ := hv
   have HKR := Lib.hid (HK2.out.trans HH.out.2.kp)
   have hc : ∀ j (hj : j < 17), wr.cell? ⟨b, off + i * 17 + j, none⟩ = some ((aqC l[i])[j]'(by rw [aqC_len]; exact hj)) := fun j hj => by
    rw [Nat.add_assoc]
    exact keep1 HKR.out (HC.out (i * 17 + j) _ (by rw [aq_at hlt hj]; exact List.getElem?_eq_getElem _))
   have HAK := Lib.hid ((HOK.out _ (List.getElem_mem hlt)).keeps HKR.out)
   have HAW := Lib.hid ((HOK.out _ (List.getElem_mem hlt)).keeps HK2.out)
   have HLI := Lib.hid (HF.out.2 _ (List.getElem_mem hlt))
   generalize l[i] = x at *
   obtain ⟨k1, k2, k3, ⟨⟨id, arr, fl, fd, T, St, B⟩, vt, vs, vb⟩, ⟨s1, s2, s3, s4⟩, bb, cd, kv, ks⟩ := x
   obtain ⟨pt, ct, hvt, -, -⟩ := HAK.out.job.at_.tos.form
   obtain ⟨ps, cs, hvs, -, -⟩ := HAK.out.job.at_.st.form
   obtain ⟨pb, cb, hvb, -, -⟩ := HAK.out.job.at_.body.formB
   obtain ⟨pk, ck, hkv, -, -⟩ := HAK.out.row.form
   simp only [List.length_map] at hvt hvs hvb hkv
   subst hvt
   subst hvs
   subst hvb
   subst hkv
   have HRG := Lib.hid (show wr.rangeAt b (off + i * 17) [.int .i64 k1, .int .i64 k2, .int .i64 k3, .int .i64 id, .int .i64 arr, .string (bstr fl), .string (bstr fd), .slice pt T.length ct, .slice ps St.length cs, .slice pb B.length cb, .int .i64 s1, .int .i64 s2, .int .i64 s3, .int .i64 s4, .string (bstr bb), .int .i64 cd, .slice pk ks.length ck] from fun j y hy => by
    have hj : j < 17 := (List.getElem?_eq_some_iff.1 hy).1
    rw [hc j hj, ← hy, List.getElem?_eq_getElem hj]
    rfl)
   have HJL := Lib.hid hlt
   have HAB := Lib.hid (Blk.new wr 60 zeroAct rfl)
   have HKA := Lib.hid ((Keeps.refl wr).alloc (.cells zeroAct 60))
   clear hc HC hlt
   unfold zeroAct at HAB HKA
   go_upto_region 16 with (first | refine wpList_ldR rfl actM HRG.out _ rfl rfl ?_ | (refine wpList_st (ds := #[.int .i64 k1, .int .i64 k2, .int .i64 k3, .int .i64 id, .int .i64 arr, .string (bstr fl), .string (bstr fd), .slice pt T.length ct, .slice ps St.length cs, .slice pb B.length cb, .int .i64 s1, .int .i64 s2, .int .i64 s3, .int .i64 s4, .string (bstr bb), .int .i64 cd, .slice pk ks.length ck]) rfl actM HAB.out rfl (by simp [Value.oneCell']) _ _ rfl rfl rfl rfl ?_; intro z1 hB1 hM1; have HB1 := Lib.hid hB1; have HM1 := Lib.hid hM1; clear hB1 hM1))
   have HKZ := Lib.hid (show Keeps wr z1 from HM1.out.keeps HKA.out (fun y hy => by rw [hy]; exact Nat.le_refl _))
   have HS := Lib.hid (HH.out.2.keeps HKZ.out)
   have HJA := Lib.hid (HAK.out.job.at_.keeps HKZ.out)
   obtain ⟨ba, hba⟩ : ∃ z, wr.heap.size = z := ⟨_, rfl⟩
   rw [hba] at HB1 ⊢
   have HRJ := Lib.hid (show z1.rangeAt ba 3 [.int .i64 id, .int .i64 arr, .string (bstr fl), .string (bstr fd), .slice pt T.length ct, .slice ps St.length cs, .slice pb B.length cb] from fun j y hy => by
    rw [HB1.out.cell]
    have hj := (List.getElem?_eq_some_iff.1 hy).1
    simp at hj
    have : j = 0 ∨ j = 1 ∨ j = 2 ∨ j = 3 ∨ j = 4 ∨ j = 5 ∨ j = 6 := by omega
    rcases this with rfl | rfl | rfl | rfl | rfl | rfl | rfl <;> exact hy)
   have HRS := Lib.hid (show z1.rangeAt ba 10 [.int .i64 s1, .int .i64 s2, .int .i64 s3, .int .i64 s4] from fun j y hy => by
    rw [HB1.out.cell]
    have hj := (List.getElem?_eq_some_iff.1 hy).1
    simp at hj
    have : j = 0 ∨ j = 1 ∨ j = 2 ∨ j = 3 := by omega
    rcases this with rfl | rfl | rfl | rfl <;> exact hy)
   have b0 : z1.cell? ⟨ba, 0, none⟩ = some (.int .i64 k1) := by rw [HB1.out.cell]; rfl
   have b1 : z1.cell? ⟨ba, 1, none⟩ = some (.int .i64 k2) := by rw [HB1.out.cell]; rfl
   have b2 : z1.cell? ⟨ba, 2, none⟩ = some (.int .i64 k3) := by rw [HB1.out.cell]; rfl
   have b15 : z1.cell? ⟨ba, 15, none⟩ = some (.int .i64 cd) := by rw [HB1.out.cell]; rfl
   have b16 : z1.cell? ⟨ba, 16, none⟩ = some (.slice pk ks.length ck) := by rw [HB1.out.cell]; rfl
   have hw : IntKind.i64.wrap ((i : Int) + 1) = (i : Int) + 1 := IntWalk.i64_in _ (by omega)
   have HSJ := Lib.hid (light_short HLI.out HAK.out.job)
   clear HAB HKA HM1 HH hba HRG
   by_cases h0 : k1 = 0
   ·subst h0
    clear b1 b2 b15 b16
    go_wp2_with (refine wpList_ldR rfl jobM HRJ.out _ rfl rfl ?_)
    refine (HS.out.add hi30 (j := ⟨id, arr, fl, fd, T, St, B⟩) HJA.out HSJ.out).mono ?_
    rintro e z2 ⟨n, er, q', d', rfl, hh⟩
    by_cases he : er = 0
    ·subst he
     have HN := Lib.hid (show last < n ∧ NumS y2 z2 gd (i + 1) g n q' d' from by
      rcases hh with ⟨h1, -⟩ | ⟨-, h2, h3⟩
      ·exact absurd rfl h1
      ·exact ⟨h2, h3⟩)
     have hln : decide (n ≤ last) = false := decide_eq_false (by have := HN.out.1; omega)
     have HN := Lib.hid HN.out.2
     clear hh
     go_wp2_with fail
     go_roundw
     case rel => exact ⟨i + 1, g, n, q', d', rfl, rfl, by simp, Lib.hid ⟨by have := HJL.out; omega, HN.out⟩⟩
     case measure => simp only [RowKit.intOf]; have := HJL.out; omega
    ·have e1 : (er == 0) = false := by simp [he]
     have HN := Lib.hid (show NumS y2 z2 gd (i + 1) g last q' d' from by
      rcases hh with ⟨-, h1⟩ | ⟨h2, -⟩
      ·exact h1
      ·exact absurd h2 he)
     clear hh he
     go_wp2_with fail
     go_roundw
     case rel => exact ⟨i + 1, g, last, q', d', rfl, rfl, by simp, Lib.hid ⟨by have := HJL.out; omega, HN.out⟩⟩
     case measure => simp only [RowKit.intOf]; have := HJL.out; omega
   have e0 : (k1 == 0) = false := by simp [h0]
   by_cases h1 : k1 = 1
   ·subst h1
    go_wp2_with (refine wpList_ldR rfl stM HRS.out _ rfl rfl ?_)
    refine (HS.out.set hi30 k2 k3 HAK.out.n ⟨s1, s2, s3, s4⟩).mono ?_
    rintro e z2 ⟨c, q', d', rfl, hns⟩
    have HN := Lib.hid hns
    clear hns
    go_wp2_with fail
    go_roundw
    case rel => exact ⟨i + 1, g, last, q', d', rfl, rfl, by simp, Lib.hid ⟨by have := HJL.out; omega, HN.out⟩⟩
    case measure => simp only [RowKit.intOf]; have := HJL.out; omega
   have e1 : (k1 == 1) = false := by simp [h1]
   by_cases h2 : k1 = 2
   ·subst h2
    go_wp2_with fail
    refine (HS.out.fail hi30 k2 cd).mono ?_
    rintro e z2 ⟨d', rfl, hns⟩
    have HN := Lib.hid hns
    clear hns
    go_wp2_with fail
    go_roundw
    case rel => exact ⟨i + 1, g, last, q, d', rfl, rfl, by simp, Lib.hid ⟨by have := HJL.out; omega, HN.out⟩⟩
    case measure => simp only [RowKit.intOf]; have := HJL.out; omega
   have e2 : (k1 == 2) = false := by simp [h2]
   by_cases h3 : k1 = 3
   ·subst h3
    go_wp2_with fail
    refine (HS.out.crash hi30 k2).mono ?_
    rintro e z2 ⟨d', rfl, hns⟩
    have HN := Lib.hid hns
    clear hns
    go_wp2_with fail
    go_roundw
    case rel => exact ⟨i + 1, g, last, q, d', rfl, rfl, by simp, Lib.hid ⟨by have := HJL.out; omega, HN.out⟩⟩
    case measure => simp only [RowKit.intOf]; have := HJL.out; omega
   have e3 : (k1 == 3) = false := by simp [h3]
   by_cases h4 : k1 = 4
   ·subst h4
    go_wp2_with fail
    refine (HS.out.boot hi30 k2 HAK.out.n HAW.out.row).mono ?_
    rintro e z2 ⟨c, d2, rfl, hns⟩
    have HN2 := Lib.hid hns
    clear hns
    go_wp2_with fail
    refine (NumS.open_ HN2.out hi30).mono ?_
    rintro e z3 ⟨po, er, q', d', gn, rfl, hpo, hns⟩
    have HN := Lib.hid hns
    clear hns
    rcases hpo with ⟨rfl, rfl⟩ | rfl
    ·go_wp2_with fail
     go_roundw
     case rel => exact ⟨i + 1, gn, last, q', d', rfl, rfl, by simp, Lib.hid ⟨by have := HJL.out; omega, HN.out⟩⟩
     case measure => simp only [RowKit.intOf]; have := HJL.out; omega
    ·go_wp2_with fail
     go_roundw
     case rel => exact ⟨i + 1, gn, last, q', d', rfl, rfl, by simp, Lib.hid ⟨by have := HJL.out; omega, HN.out⟩⟩
     case measure => simp only [RowKit.intOf]; have := HJL.out; omega
   have e4 : (k1 == 4) = false := by simp [h4]
   by_cases h5 : k1 = 5
   ·subst h5
    go_wp2_with fail
    refine (NumS.open_ HS.out hi30).mono ?_
    rintro e z3 ⟨po, er, q', d', gn, rfl, hpo, hns⟩
    have HN := Lib.hid hns
    clear hns
    rcases hpo with ⟨rfl, rfl⟩ | rfl
    ·go_wp2_with fail
     go_roundw
     case rel => exact ⟨i + 1, gn, last, q', d', rfl, rfl, by simp, Lib.hid ⟨by have := HJL.out; omega, HN.out⟩⟩
     case measure => simp only [RowKit.intOf]; have := HJL.out; omega
    ·go_wp2_with fail
     go_roundw
     case rel => exact ⟨i + 1, gn, last, q', d', rfl, rfl, by simp, Lib.hid ⟨by have := HJL.out; omega, HN.out⟩⟩
     case measure => simp only [RowKit.intOf]; have := HJL.out; omega
   have e5 : (k1 == 5) = false := by simp [h5]
   have HN := Lib.hid HS.out.next
   clear h0 h1 h2 h3 h4 h5
   go_wp2_with fail
   go_roundw
   case rel => exact ⟨i + 1, g, last, q, dz, rfl, rfl, by simp, Lib.hid ⟨by have := HJL.out; omega, HN.out⟩⟩
   case measure => simp only [RowKit.intOf]; have := HJL.out; omega
  ·have hlt' : decide ((i : Int) < (l.length : Int)) = false := decide_eq_false (by omega)
   have hlt2 : decide (i < l.length) = false := decide_eq_false hlt
   have HE := Lib.hid (HK2.out.trans HH.out.2.kp)
   clear hlt
   go_wp2_with fail
   go_ret
   exact ⟨rfl, HE.out⟩
end Que
end Go.Proofs.YtcleakjjefmmbaaGreat

/- Several texts in one: SfSwap, SfTwin, RsSmall, RsMake, RsSwap, RfBootPl. -/
import Derived.Test.YtchjncnolmiejaaGreatK41
import Derived.Test.YtchjncnolmiejaaGreatFrameRef
import Derived.Test.YtchjncnolmiejaaGreatK35
import Derived.Test.YtchjncnolmiejaaGreatK39
/- safe: Swap. -/
namespace Go.Proofs.YtchjncnolmiejaaGreat
open Go.RowKit
namespace Sf
open Vd
def dotN : Str := [46, 110]
/-- the new file is taken away, if it is there still -/
def tidyS (n : Str) (q : Dsk × Int) : Dsk × Int := if q.2 = 0 ∨ q.2 = 11 ∨ hasD q.1 n = false then q else ((sUnlink n q.1).1, q.2)
def sSwap1 (x n b : Str) (d : Dsk) : Dsk × Int := tidyS n (thenD (thenD (thenD (createD d n) (sAppend n b)) (fun d => renameD d n x)) sDir)
def sSwap (x b : Str) (d : Dsk) : Dsk × Int :=
  if 30 < x.length then (d, 3) else if hasD d (x ++ dotN) then (if (unlinkD d (x ++ dotN)).2 ≠ 0 then unlinkD d (x ++ dotN) else sSwap1 x (x ++ dotN) b (unlinkD d (x ++ dotN)).1) else sSwap1 x (x ++ dotN) b d
section
variable {S : Nat → Prop} {w1 w wb w2 w3 : World} {g : Nat} {d d2 : Dsk} {k k2 : Nat}
set_option maxRecDepth 100000 in
set_option maxHeartbeats 2000000 in
theorem sswap_on (h : On S w1 w g d k) (hk : k ≤ 89960) {x b : Str} {p0 : Option Addr} {c0 : Nat} (hx : x.length ≤ 100) (hs : Stays S w1 (.slice p0 b.length c0) (b.map u8v)) (hbl : b.length ≤ 1000000000) : Calls Tryz.prog 55 #[.pointer (some ⟨g, 0, none⟩), .string (bstr x), .slice p0 b.length c0] w (Says (Tells S w1 g (sSwap x b d) (k + 10))) := by
  have H := Lib.hid h
  have HS := Lib.hid hs
  have hsx := bstr_size x
  have HX0 : Hid (sSwap x b d = if 30 < x.length then (d, 3) else if hasD d (x ++ dotN) then (if (unlinkD d (x ++ dotN)).2 ≠ 0 then unlinkD d (x ++ dotN) else sSwap1 x (x ++ dotN) b (unlinkD d (x ++ dotN)).1) else sSwap1 x (x ++ dotN) b d) := Lib.hid rfl
  clear h hs
  go_enter Tryz.func55, Tryz.ntmps55
  go_upto_region 1 with fail
  generalize hW : World.alloc _ _ = wa
  have HB := Lib.hid (show Boxes wa w.heap.size (w.heap.size + 1) g x from by
    rw [← hW]
    exact ⟨((Blk.new _ _ _ rfl).alloc _).alloc _, (Blk.new _ _ _ (by rw [Frm.alloc_size])).alloc _⟩)
  have HR := Lib.hid (show Blk wa (w.heap.size + 1 + 1) 22 #[.slice p0 b.length c0] from by
    rw [← hW]
    exact Blk.new _ _ _ (by rw [Frm.alloc_size, Frm.alloc_size]))
  have HK := Lib.hid (show Keeps w wa from by rw [← hW]; exact (((Keeps.refl _).alloc _).alloc _).alloc _)
  clear hW
  have b1 : wa.cell? ⟨w.heap.size + 1, 0, none⟩ = some (.string (bstr x)) := by rw [HB.out.nm.cell]; rfl
  by_cases h30 : 30 < x.length
  · have HX : Hid (sSwap x b d = (d, 3)) := Lib.hid (HX0.out.trans (if_pos h30))
    clear HX0
    go_wp2_with fail
    go_ret
    refine ⟨3, rfl, ?_⟩
    rw [HX.out]
    exact ⟨rfl, On.more (H.out.back HK.out (H.out.base HK.out)) (by omega)⟩
  · have HX1 := Lib.hid (HX0.out.trans (if_neg h30))
    clear HX0
    obtain ⟨n, hn⟩ : ∃ n, n = x ++ dotN := ⟨_, rfl⟩
    have hnl : n.length ≤ 100 := by rw [hn]; simp [dotN]; omega
    have happ : bstr x ++ (⟨#[46, 110]⟩ : ByteArray) = bstr n := by rw [hn]; exact Frm.bstr_append x dotN
    rw [← hn] at HX1
    have hs2 : (⟨#[46, 110]⟩ : ByteArray).size = 2 := rfl
    clear hn
    go_upto_region 4 with fail
    have hnm : n.length ≤ maxLen := by unfold maxLen; omega
    generalize hW : World.alloc wa _ = wb
    have HKab := Lib.hid (show Keeps wa wb from by rw [← hW]; exact (Keeps.refl _).alloc _)
    have HNB := Lib.hid (show Blk wb wa.heap.size 9 #[.string (bstr n)] from by rw [← hW]; exact Blk.new _ _ _ rfl)
    clear hW b1 happ hs2 hsx
    have HKb := Lib.hid (HK.out.trans HKab.out)
    have HBb := Lib.hid (show Boxes wb w.heap.size (w.heap.size + 1) g x from ⟨HB.out.dp.keeps HKab.out, HB.out.nm.keeps HKab.out⟩)
    have HRb := Lib.hid (HR.out.keeps HKab.out)
    have hq0 : w.heap.size + 3 ≤ wa.heap.size := by have := HR.out.lt; omega
    obtain ⟨p, hp⟩ : ∃ p, p = w.heap.size := ⟨_, rfl⟩
    obtain ⟨q, hqe⟩ : ∃ q, q = wa.heap.size := ⟨_, rfl⟩
    rw [← hp] at HBb HRb hq0 ⊢
    rw [← hqe] at HNB hq0 ⊢
    have HPW := Lib.hid hp
    have hqb : q < wb.heap.size := HNB.out.lt
    clear hp hqe HB HR HKab
    have HOB := Lib.hid (H.out.base HKb.out)
    have HHS := Lib.hid (has_on HOB.out n hnm)
    have b0 : wb.cell? ⟨p, 0, none⟩ = some (.pointer (some ⟨g, 0, none⟩)) := by rw [HBb.out.dp.cell]; rfl
    have bn : wb.cell? ⟨q, 0, none⟩ = some (.string (bstr n)) := by rw [HNB.out.cell]; rfl
    go_wp2_with fail
    refine HHS.out.mono ?_
    rintro e w2 ⟨rfl, rfl⟩
    clear HHS
    obtain ⟨hh, hhe⟩ : ∃ hh, hh = hasD d n := ⟨_, rfl⟩
    rw [← hhe] at HX1 ⊢
    clear hhe
    go_upto_if 17 with fail
    go_cut [] (fun wx => ∃ d2 k2, Hid (On (More S w1 w) wb wx g d2 k2 ∧ k2 ≤ k + 1 ∧ sSwap x b d = sSwap1 x n b d2))
    case first =>
      cases hh with
      | false =>
        have HX2 := Lib.hid (HX1.out.trans (if_neg (by simp)))
        go_wp2_with fail
        go_meet
        exact ⟨d, k, Lib.hid ⟨HOB.out, by omega, HX2.out⟩⟩
      | true =>
        have HX2 := Lib.hid (HX1.out.trans (if_pos rfl))
        have HUL := Lib.hid (unlink_on HOB.out (by omega) n hnm)
        generalize unlinkD d n = r at *
        obtain ⟨d2, er⟩ := r
        go_wp2_with fail
        refine HUL.out.mono ?_
        rintro e w2 ⟨rfl, ho2⟩
        have HO2 := Lib.hid ho2
        clear ho2 HUL b0 bn
        by_cases he : er = 0
        · subst he
          have HX3 := Lib.hid (HX2.out.trans (if_neg (by simp)))
          go_wp2_with fail
          go_meet
          exact ⟨d2, k + 1, Lib.hid ⟨HO2.out, Nat.le_refl _, HX3.out⟩⟩
        · have HX3 : Hid (sSwap x b d = (d2, er)) := Lib.hid (HX2.out.trans (if_pos he))
          have he' : (er != 0) = true := by simp [he]
          clear he
          go_wp2_with fail
          go_ret
          refine ⟨er, rfl, ?_⟩
          rw [HX3.out]
          exact ⟨rfl, On.more (H.out.back HKb.out HO2.out) (by omega)⟩
    case rest =>
    obtain ⟨d2, k2, HC⟩ := hcut
    obtain ⟨w2, rfl⟩ : ∃ z : World, z = wc := ⟨_, rfl⟩
    have HO2 := Lib.hid HC.out.1
    have hk2 := HC.out.2.1
    have HX2 := Lib.hid HC.out.2.2
    clear HC HX1 b0 bn
    have HN : Hid (∀ b, p ≤ b → b < wb.heap.size → ¬ More (More S w1 w) wb w2 b) := Lib.hid (fun b h1 h2 => off_set H.out HO2.out (by have := HPW.out; omega) h2)
    have HB2 := Lib.hid (show Boxes w2 p q g n from ⟨H.out.blk HO2.out HBb.out.dp (by have := HPW.out; omega), H.out.blk HO2.out HNB.out (by have := HPW.out; omega)⟩)
    have HX2' := Lib.hid (H.out.blk HO2.out HBb.out.nm (by have := HPW.out; omega))
    have HR2 := Lib.hid (H.out.blk HO2.out HRb.out (by have := HPW.out; omega))
    go_wp2_with fail
    generalize hW : World.alloc w2 _ = w3
    have HK3 := Lib.hid (show Keeps w2 w3 from by rw [← hW]; exact (Keeps.refl _).alloc _)
    have HBB := Lib.hid (show Blk w3 w2.heap.size 135 #[cloV (103, #[], #[.pointer (some ⟨p, 0, none⟩), .pointer (some ⟨q, 0, none⟩)]), cloV (104, #[], #[.pointer (some ⟨p, 0, none⟩), .pointer (some ⟨q, 0, none⟩), .pointer (some ⟨p + 1 + 1, 0, none⟩)]), cloV (105, #[], #[.pointer (some ⟨p, 0, none⟩), .pointer (some ⟨q, 0, none⟩), .pointer (some ⟨p + 1, 0, none⟩)]), cloV (107, #[], #[.pointer (some ⟨p, 0, none⟩)])] from by
      rw [← hW]
      exact Blk.new _ _ _ rfl)
    clear hW
    have HO3 := Lib.hid (HO2.out.base HK3.out)
    have HS3 := Lib.hid ((HS.out.base H.out HKb.out).base HO2.out HK3.out)
    have HBX := Lib.hid (fun w' d' k' (ho : On (More (More S w1 w) wb w2) w3 w' g d' k') => show Boxes w' p q g n from ⟨On.kept ho (HB2.out.dp.keeps HK3.out) (HN.out _ (Nat.le_refl _) (by omega)), On.kept ho (HB2.out.nm.keeps HK3.out) (HN.out _ (by omega) hqb)⟩)
    have HST := Lib.hid (steps4_on HO3.out HBB.out (fun hy => by
        have h0 := HO2.out.mods.size
        rcases hy with hy | hy
        · have := HO2.out.lt _ hy
          omega
        · omega) (enters_of Tryz.func103 (by kernel_rfl) rfl _) (enters_of Tryz.func104 (by kernel_rfl) rfl _) (enters_of Tryz.func105 (by kernel_rfl) rfl _) (enters_of Tryz.func107 (by kernel_rfl) rfl _)
      (fun d => createD d n) (sAppend n b) (fun d => renameD d n x) sDir (k1 := k2 + 1) (k2 := k2 + 4) (k3 := k2 + 5) (k4 := k2 + 7) (by omega) (by omega) (by omega)
      (fun w' ho => swap1_on ho (by omega) hnl (HBX.out _ _ _ ho))
      (fun w' d' ho => swap2_on ho (by omega) hnl HS3.out hbl (HBX.out _ _ _ ho) (On.kept ho (HR2.out.keeps HK3.out) (HN.out _ (by omega) (by omega))))
      (fun w' d' ho => swap3_on ho (by omega) hnl (by omega) (HBX.out _ _ _ ho) (On.kept ho (HX2'.out.keeps HK3.out) (HN.out _ (by omega) (by omega))))
      (fun w' d' ho => swap4_on ho (by omega) (HBX.out _ _ _ ho).dp))
    have HX3 : Hid (sSwap x b d = tidyS n (thenD (thenD (thenD (createD d2 n) (sAppend n b)) (fun d => renameD d n x)) sDir)) := Lib.hid HX2.out
    generalize thenD (thenD (thenD (createD d2 n) (sAppend n b)) (fun d => renameD d n x)) sDir = qq at *
    obtain ⟨d4, eq⟩ := qq
    refine HST.out.mono ?_
    rintro e w4 ⟨c, rfl, hc, ho⟩
    have hc : c = eq := hc
    subst hc
    have HO4 := Lib.hid ho
    have HB4 := Lib.hid (HBX.out _ _ _ ho)
    clear ho HST
    have b0 : w4.cell? ⟨p, 0, none⟩ = some (.pointer (some ⟨g, 0, none⟩)) := by rw [HB4.out.dp.cell]; rfl
    have b1 : w4.cell? ⟨q, 0, none⟩ = some (.string (bstr n)) := by rw [HB4.out.nm.cell]; rfl
    by_cases h0 : c = 0
    · subst h0
      have HX : Hid (sSwap x b d = (d4, 0)) := Lib.hid (HX3.out.trans (if_pos (.inl rfl)))
      go_wp2_with fail
      go_ret
      refine ⟨0, rfl, ?_⟩
      rw [HX.out]
      exact ⟨rfl, On.more (H.out.back HKb.out (HO2.out.back HK3.out HO4.out)) (by omega)⟩
    · by_cases h11 : c = 11
      · subst h11
        have HX : Hid (sSwap x b d = (d4, 11)) := Lib.hid (HX3.out.trans (if_pos (.inr (.inl rfl))))
        go_wp2_with fail
        go_ret
        refine ⟨11, rfl, ?_⟩
        rw [HX.out]
        exact ⟨rfl, On.more (H.out.back HKb.out (HO2.out.back HK3.out HO4.out)) (by omega)⟩
      · have HH4 := Lib.hid (has_on HO4.out n hnm)
        have e1 : (c != 0) = true := by simp [h0]
        have e2 : (c != 11) = true := by simp [h11]
        cases hh4 : hasD d4 n with
        | false =>
          have HX : Hid (sSwap x b d = (d4, c)) := Lib.hid (HX3.out.trans (if_pos (.inr (.inr hh4))))
          rw [hh4] at HH4
          clear h0 h11 hh4
          go_wp2_with fail
          refine HH4.out.mono ?_
          rintro e w5 ⟨rfl, rfl⟩
          go_wp2_with fail
          go_ret
          refine ⟨c, rfl, ?_⟩
          rw [HX.out]
          exact ⟨rfl, On.more (H.out.back HKb.out (HO2.out.back HK3.out HO4.out)) (by omega)⟩
        | true =>
          have HX : Hid (sSwap x b d = ((sUnlink n d4).1, c)) := Lib.hid (HX3.out.trans (if_neg (by simp [h0, h11, hh4])))
          rw [hh4] at HH4
          have HUL := Lib.hid (sunlink_on HO4.out (by omega) n hnm)
          clear h0 h11 hh4
          go_wp2_with fail
          refine HH4.out.mono ?_
          rintro e w5 ⟨rfl, rfl⟩
          go_wp2_with fail
          refine HUL.out.mono ?_
          rintro e w5 ⟨rfl, ho5⟩
          have HO5 := Lib.hid ho5
          clear ho5 HUL b0 b1
          go_wp2_with fail
          go_ret
          refine ⟨c, rfl, ?_⟩
          rw [HX.out]
          exact ⟨rfl, On.more (H.out.back HKb.out (HO2.out.back HK3.out HO5.out)) (by omega)⟩
end
end Sf
end Go.Proofs.YtchjncnolmiejaaGreat

/- safe's calls on both disks: one answer, and alike behind it. Plain. -/
namespace Go.Proofs.YtchjncnolmiejaaGreat
open Go.RowKit
namespace Sf
open Vd
def twiceR (f : RDsk → RDsk × Int) (r : RDsk) : RDsk × Int := if (f r).2 = 0 ∨ (f r).2 = 11 then f r else f (f r).1
def thenR (q : RDsk × Int) (f : RDsk → RDsk × Int) : RDsk × Int := if q.2 = 0 then f q.1 else q
def hasR (r : RDsk) (x : Str) : Bool := !r.down && (Vd.look r.now x).isSome
def rSync (x : Str) : RDsk → RDsk × Int := twiceR (fun r => syncR r x)
def rDir : RDsk → RDsk × Int := twiceR syncDirR
def rUnlink (x : Str) : RDsk → RDsk × Int := twiceR (fun r => unlinkR r x)
def rAppend (x b : Str) (r : RDsk) : RDsk × Int := thenR (appendR r x b) (rSync x)
def tidyR0 (x : Str) (q : RDsk × Int) : RDsk × Int := if q.2 = 0 ∨ q.2 = 11 then q else ((rUnlink x q.1).1, q.2)
def rMake (x b : Str) (r : RDsk) : RDsk × Int :=
  if hasR r x then (r, 8) else if (createR r x).2 ≠ 0 then createR r x
  else tidyR0 x (thenR (rAppend x b (createR r x).1) rDir)
def rDrop (x : Str) (r : RDsk) : RDsk × Int := if r.down = false ∧ hasR r x = false then (r, 0) else thenR (unlinkR r x) rDir
def tidyR (n : Str) (q : RDsk × Int) : RDsk × Int := if q.2 = 0 ∨ q.2 = 11 ∨ hasR q.1 n = false then q else ((rUnlink n q.1).1, q.2)
def rSwap1 (x n b : Str) (r : RDsk) : RDsk × Int := tidyR n (thenR (thenR (thenR (createR r n) (rAppend n b)) (fun r => renameR r n x)) rDir)
def rSwap (x b : Str) (r : RDsk) : RDsk × Int :=
  if 30 < x.length then (r, 3) else if hasR r (x ++ dotN) then (if (unlinkR r (x ++ dotN)).2 ≠ 0 then unlinkR r (x ++ dotN) else rSwap1 x (x ++ dotN) b (unlinkR r (x ++ dotN)).1) else rSwap1 x (x ++ dotN) b r
/-- names that begin and end so -/
def tidyN (p x : Str) : Bool := decide (p.length ≤ x.length ∧ x.take p.length = p) && decide (2 ≤ x.length ∧ x.drop (x.length - 2) = dotN)
def unlinksD : List Str → Dsk → Dsk × Int
  | [], d => (d, 0)
  | x :: l, d => if (unlinkD d x).2 ≠ 0 then unlinkD d x else unlinksD l (unlinkD d x).1
def unlinksR : List Str → RDsk → RDsk × Int
  | [], r => (r, 0)
  | x :: l, r => if (unlinkR r x).2 ≠ 0 then unlinkR r x else unlinksR l (unlinkR r x).1
def tidyL (p : Str) (l : Nms) : List Str := (l.map (·.1)).filter (tidyN p)
def sTidy (p : Str) (d : Dsk) : Dsk × Int := if d.off then (d, 0) else unlinksD (tidyL p d.seen) d
def rTidy (p : Str) (r : RDsk) : RDsk × Int := if r.down then (r, 0) else unlinksR (tidyL p r.now) r

theorem dalike_more {j j' : Nat} {f : Dsk → Dsk × Int} {g : RDsk → RDsk × Int} (h : DAlike j f g) (hj : j ≤ j') : DAlike j' f g := fun d r k hk hd => by
  obtain ⟨h1, h2⟩ := h d r k (by omega) hd
  exact ⟨h1, h2.more (by omega)⟩
theorem twice_alike {j : Nat} {f : Dsk → Dsk × Int} {g : RDsk → RDsk × Int} (h : DAlike j f g) : DAlike (j + j) (twice f) (twiceR g) := fun d r k hk hd => by
  obtain ⟨h1, h2⟩ := h d r k (by omega) hd
  unfold twice twiceR
  rw [← h1]
  by_cases hc : (f d).2 = 0 ∨ (f d).2 = 11
  · rw [if_pos hc, if_pos hc]
    exact ⟨h1, h2.more (by omega)⟩
  · rw [if_neg hc, if_neg hc]
    obtain ⟨h3, h4⟩ := h _ _ (k + j) (by omega) h2
    exact ⟨h3, h4.more (by omega)⟩
theorem then_alike {j1 j2 : Nat} {f1 f2 : Dsk → Dsk × Int} {g1 g2 : RDsk → RDsk × Int} (h1 : DAlike j1 f1 g1) (h2 : DAlike j2 f2 g2) : DAlike (j1 + j2) (fun d => thenD (f1 d) f2) (fun r => thenR (g1 r) g2) := fun d r k hk hd => by
  obtain ⟨e1, r1⟩ := h1 d r k (by omega) hd
  unfold thenD thenR
  dsimp only
  rw [← e1]
  by_cases hc : (f1 d).2 = 0
  · rw [if_pos hc, if_pos hc]
    obtain ⟨e2, r2⟩ := h2 _ _ (k + j1) (by omega) r1
    exact ⟨e2, r2.more (by omega)⟩
  · rw [if_neg hc, if_neg hc]
    exact ⟨e1, r1.more (by omega)⟩
theorem has_alike {d : Dsk} {r : RDsk} {k : Nat} (h : DR d r k) (x : Str) : hasD d x = hasR r x := by
  unfold hasD hasR textD
  rw [← h.off, ← h.seen]
  cases d.off with
  | true => rfl
  | false =>
    cases Vd.look d.seen x <;> rfl
theorem sync_al (x : Str) : DAlike 2 (sSync x) (rSync x) := twice_alike (sync_alike x)
theorem dir_al : DAlike 2 sDir rDir := twice_alike syncDir_alike
theorem unlink_al (x : Str) : DAlike 2 (sUnlink x) (rUnlink x) := twice_alike (unlink_alike x)
theorem append_al (x b : Str) : DAlike 3 (sAppend x b) (rAppend x b) := then_alike (append_alike x b) (sync_al x)
/-- a step of the state alone -/
theorem tidyD_al {j : Nat} {f : Dsk → Dsk × Int} {g : RDsk → RDsk × Int} (x : Str) (h : DAlike j f g) : DAlike (j + 2) (fun d => tidyD x (f d)) (fun r => tidyR0 x (g r)) := fun d r k hk hd => by
  obtain ⟨e1, r1⟩ := h d r k (by omega) hd
  unfold tidyD tidyR0
  dsimp only
  rw [← e1]
  by_cases hc : (f d).2 = 0 ∨ (f d).2 = 11
  · rw [if_pos hc, if_pos hc]
    exact ⟨e1, r1.more (by omega)⟩
  · rw [if_neg hc, if_neg hc]
    obtain ⟨-, r2⟩ := unlink_al x _ _ (k + j) (by omega) r1
    exact ⟨rfl, r2.more (by omega)⟩
theorem tidyS_al {j : Nat} {f : Dsk → Dsk × Int} {g : RDsk → RDsk × Int} (x : Str) (h : DAlike j f g) : DAlike (j + 2) (fun d => tidyS x (f d)) (fun r => tidyR x (g r)) := fun d r k hk hd => by
  obtain ⟨e1, r1⟩ := h d r k (by omega) hd
  unfold tidyS tidyR
  dsimp only
  rw [← e1, ← has_alike r1]
  by_cases hc : (f d).2 = 0 ∨ (f d).2 = 11 ∨ hasD (f d).1 x = false
  · rw [if_pos hc, if_pos hc]
    exact ⟨e1, r1.more (by omega)⟩
  · rw [if_neg hc, if_neg hc]
    obtain ⟨-, r2⟩ := unlink_al x _ _ (k + j) (by omega) r1
    exact ⟨rfl, r2.more (by omega)⟩
theorem make_al (x b : Str) : DAlike 8 (sMake x b) (rMake x b) := fun d r k hk hd => by
  unfold sMake rMake
  rw [← has_alike hd]
  cases hasD d x with
  | true => exact ⟨rfl, hd.more (by omega)⟩
  | false =>
    simp only [Bool.false_eq_true, if_false]
    obtain ⟨e1, r1⟩ := create_alike x d r k (by omega) hd
    dsimp only at e1 r1
    rw [← e1]
    by_cases hc : (createD d x).2 ≠ 0
    · rw [if_pos hc, if_pos hc]
      exact ⟨e1, r1.more (by omega)⟩
    · rw [if_neg hc, if_neg hc]
      obtain ⟨e2, r2⟩ := tidyD_al x (then_alike (append_al x b) dir_al) _ _ (k + 1) (by omega) r1
      exact ⟨e2, r2.more (by omega)⟩
theorem drop_al (x : Str) : DAlike 3 (sDrop x) (rDrop x) := fun d r k hk hd => by
  unfold sDrop rDrop
  rw [← has_alike hd, ← hd.off]
  by_cases hc : d.off = false ∧ hasD d x = false
  · rw [if_pos hc, if_pos hc]
    exact ⟨rfl, hd.more (by omega)⟩
  · rw [if_neg hc, if_neg hc]
    exact then_alike (unlink_alike x) dir_al d r k hk hd
theorem swap1_al (x n b : Str) : DAlike 9 (sSwap1 x n b) (rSwap1 x n b) := tidyS_al n (then_alike (then_alike (then_alike (create_alike n) (append_al n b)) (rename_alike n x)) dir_al)
theorem swap_al (x b : Str) : DAlike 10 (sSwap x b) (rSwap x b) := fun d r k hk hd => by
  unfold sSwap rSwap
  by_cases h30 : 30 < x.length
  · rw [if_pos h30, if_pos h30]
    exact ⟨rfl, hd.more (by omega)⟩
  rw [if_neg h30, if_neg h30, ← has_alike hd]
  cases hasD d (x ++ dotN) with
  | false =>
    simp only [Bool.false_eq_true, if_false]
    obtain ⟨e2, r2⟩ := swap1_al x (x ++ dotN) b _ _ k (by omega) hd
    exact ⟨e2, r2.more (by omega)⟩
  | true =>
    simp only [if_true]
    obtain ⟨e1, r1⟩ := unlink_alike (x ++ dotN) d r k (by omega) hd
    dsimp only at e1 r1
    rw [← e1]
    by_cases hc : (unlinkD d (x ++ dotN)).2 ≠ 0
    · rw [if_pos hc, if_pos hc]
      exact ⟨e1, r1.more (by omega)⟩
    · rw [if_neg hc, if_neg hc]
      obtain ⟨e2, r2⟩ := swap1_al x (x ++ dotN) b _ _ (k + 1) (by omega) r1
      exact ⟨e2, r2.more (by omega)⟩
theorem unlinks_al : ∀ l : List Str, DAlike l.length (unlinksD l) (unlinksR l)
  | [] => fun d r k _ hd => ⟨rfl, hd⟩
  | x :: l => fun d r k hk hd => by
    rw [List.length_cons] at hk ⊢
    unfold unlinksD unlinksR
    obtain ⟨e1, r1⟩ := unlink_alike x d r k (by omega) hd
    dsimp only at e1 r1
    rw [← e1]
    by_cases hc : (unlinkD d x).2 ≠ 0
    · rw [if_pos hc, if_pos hc]
      exact ⟨e1, r1.more (by omega)⟩
    · rw [if_neg hc, if_neg hc]
      obtain ⟨e2, r2⟩ := unlinks_al l _ _ (k + 1) (by omega) r1
      exact ⟨e2, r2.more (by omega)⟩
theorem tidyL_len (p : Str) (l : Nms) : (tidyL p l).length ≤ l.length := by
  unfold tidyL
  refine Nat.le_trans (List.length_filter_le ..) ?_
  rw [List.length_map]
  exact Nat.le_refl _
theorem tidy_al (p : Str) {d : Dsk} {r : RDsk} {k j : Nat} (hj : d.nodes.length ≤ j) (hk : k + j ≤ 1000000000000) (hd : DR d r k) : (sTidy p d).2 = (rTidy p r).2 ∧ DR (sTidy p d).1 (rTidy p r).1 (k + j) := by
  unfold sTidy rTidy
  rw [← hd.off, ← hd.seen]
  cases d.off with
  | true => exact ⟨rfl, hd.more (by omega)⟩
  | false =>
    simp only [Bool.false_eq_true, if_false]
    have h1 := tidyL_len p d.seen
    have h2 := hd.ok.len
    exact dalike_more (unlinks_al (tidyL p d.seen)) (by omega : _ ≤ j) d r k hk hd
end Sf
end Go.Proofs.YtchjncnolmiejaaGreat

/- ref16's bad, Sync, SyncDir, away, Has, Append, both disks side by side. (MADE BY gen_rs.py.) -/
namespace Go.Proofs.YtchjncnolmiejaaGreat
open Go.RowKit
namespace Rs
open Vd Rf Sf
open Go.Maps
def badB (c : Int) : Bool := c != 0 && c != 11
theorem bad_no {c : Int} (h : c = 0 ∨ c = 11) : badB c = false := by
  rcases h with rfl | rfl <;> rfl
theorem bad_yes {c : Int} (h : ¬ (c = 0 ∨ c = 11)) : badB c = true := by
  unfold badB
  have h1 : c ≠ 0 := fun e => h (.inl e)
  have h2 : c ≠ 11 := fun e => h (.inr e)
  simp [h1, h2]
theorem bad_r (c : Int) (w : World) : Calls Tryz.prog 53 #[.int .i64 c] w fun e w' => e = .returned (.bool (badB c)) ∧ w = w' := by
  by_cases h0 : c = 0
  · subst h0
    go_enter Tryz.func53, Tryz.ntmps53
    go_wp2_with fail
    go_ret
    exact ⟨rfl, rfl⟩
  · have e1 : (c != 0) = true := by simp [h0]
    have HX := Lib.hid (show badB c = (c != 11) from by unfold badB; rw [e1]; rfl)
    clear h0
    go_enter Tryz.func53, Tryz.ntmps53
    go_wp2_with fail
    go_ret
    exact ⟨by rw [HX.out]; rfl, rfl⟩
section
variable {L : List Nat} {W w : World} {g m : Nat} {d : Dsk} {r : RDsk} {k : Nat}
set_option maxRecDepth 100000 in
set_option maxHeartbeats 2000000 in
theorem rssync_two (h : TwoAt L W w g d m r k) (hk : k ≤ 89990) (x : Str) : Calls Tryz.prog 95 #[.pointer (some ⟨m, 0, none⟩), .string (bstr x)] w (TwoDid L W w g d m (rSync x r).1 (k + 6) (.int .i64 (rSync x r).2)) := by
  have H := Lib.hid h
  have HC := Lib.hid (rsync_two h (by omega) x)
  have HX0 : Hid ((rSync x r) = if (syncR r x).2 = 0 ∨ (syncR r x).2 = 11 then syncR r x else syncR ((syncR r x).1) x) := Lib.hid rfl
  clear h
  generalize syncR r x = q1 at *
  obtain ⟨r1, c1⟩ := q1
  simp only at HX0 HC
  go_enter Tryz.func95, Tryz.ntmps95
  go_wp2_with fail
  refine HC.out.mono ?_
  rintro e w1 ⟨rfl, h1, m1⟩
  have H1 := Lib.hid h1
  have HM := Lib.hid m1
  clear h1 m1 HC
  have HB := Lib.hid (bad_r c1 w1)
  by_cases hc : c1 = 0 ∨ c1 = 11
  · have HX := Lib.hid (HX0.out.trans (if_pos hc))
    rw [bad_no hc] at HB
    clear hc HX0
    go_wp2_with fail
    refine HB.out.mono ?_
    rintro e w2 ⟨rfl, rfl⟩
    go_wp2_with fail
    go_ret
    rw [HX.out]
    exact ⟨rfl, H1.out.more (by omega), HM.out⟩
  · have HX := Lib.hid (HX0.out.trans (if_neg hc))
    rw [bad_yes hc] at HB
    have HC2 := Lib.hid (rsync_two H1.out (by omega) x)
    clear hc HX0
    go_wp2_with fail
    refine HB.out.mono ?_
    rintro e w2 ⟨rfl, rfl⟩
    go_wp2_with fail
    refine HC2.out.mono ?_
    rintro e w3 ⟨rfl, h3, m3⟩
    have H3 := Lib.hid h3
    have HM3 := Lib.hid (HM.out.trans m3 (fun y hy _ => hy))
    clear h3 m3 HC2
    go_wp2_with fail
    go_ret
    rw [HX.out]
    exact ⟨rfl, H3.out.more (by omega), HM3.out⟩
set_option maxRecDepth 100000 in
set_option maxHeartbeats 2000000 in
theorem rsdir_two (h : TwoAt L W w g d m r k) (hk : k ≤ 89990) : Calls Tryz.prog 52 #[.pointer (some ⟨m, 0, none⟩)] w (TwoDid L W w g d m (rDir r).1 (k + 6) (.int .i64 (rDir r).2)) := by
  have H := Lib.hid h
  have HC := Lib.hid (rsyncDir_two h (by omega))
  have HX0 : Hid ((rDir r) = if (syncDirR r).2 = 0 ∨ (syncDirR r).2 = 11 then syncDirR r else syncDirR ((syncDirR r).1)) := Lib.hid rfl
  clear h
  generalize syncDirR r = q1 at *
  obtain ⟨r1, c1⟩ := q1
  simp only at HX0 HC
  go_enter Tryz.func52, Tryz.ntmps52
  go_wp2_with fail
  refine HC.out.mono ?_
  rintro e w1 ⟨rfl, h1, m1⟩
  have H1 := Lib.hid h1
  have HM := Lib.hid m1
  clear h1 m1 HC
  have HB := Lib.hid (bad_r c1 w1)
  by_cases hc : c1 = 0 ∨ c1 = 11
  · have HX := Lib.hid (HX0.out.trans (if_pos hc))
    rw [bad_no hc] at HB
    clear hc HX0
    go_wp2_with fail
    refine HB.out.mono ?_
    rintro e w2 ⟨rfl, rfl⟩
    go_wp2_with fail
    go_ret
    rw [HX.out]
    exact ⟨rfl, H1.out.more (by omega), HM.out⟩
  · have HX := Lib.hid (HX0.out.trans (if_neg hc))
    rw [bad_yes hc] at HB
    have HC2 := Lib.hid (rsyncDir_two H1.out (by omega))
    clear hc HX0
    go_wp2_with fail
    refine HB.out.mono ?_
    rintro e w2 ⟨rfl, rfl⟩
    go_wp2_with fail
    refine HC2.out.mono ?_
    rintro e w3 ⟨rfl, h3, m3⟩
    have H3 := Lib.hid h3
    have HM3 := Lib.hid (HM.out.trans m3 (fun y hy _ => hy))
    clear h3 m3 HC2
    go_wp2_with fail
    go_ret
    rw [HX.out]
    exact ⟨rfl, H3.out.more (by omega), HM3.out⟩
set_option maxRecDepth 100000 in
set_option maxHeartbeats 2000000 in
theorem rsaway_two (h : TwoAt L W w g d m r k) (hk : k ≤ 89990) (x : Str) : Calls Tryz.prog 54 #[.pointer (some ⟨m, 0, none⟩), .string (bstr x)] w (TwoDid L W w g d m (rUnlink x r).1 (k + 6) (.tuple #[])) := by
  have H := Lib.hid h
  have HC := Lib.hid (runlink_two h (by omega) x)
  have HX0 : Hid ((rUnlink x r) = if (unlinkR r x).2 = 0 ∨ (unlinkR r x).2 = 11 then unlinkR r x else unlinkR ((unlinkR r x).1) x) := Lib.hid rfl
  clear h
  generalize unlinkR r x = q1 at *
  obtain ⟨r1, c1⟩ := q1
  simp only at HX0 HC
  go_enter Tryz.func54, Tryz.ntmps54
  go_wp2_with fail
  refine HC.out.mono ?_
  rintro e w1 ⟨rfl, h1, m1⟩
  have H1 := Lib.hid h1
  have HM := Lib.hid m1
  clear h1 m1 HC
  have HB := Lib.hid (bad_r c1 w1)
  by_cases hc : c1 = 0 ∨ c1 = 11
  · have HX := Lib.hid (HX0.out.trans (if_pos hc))
    rw [bad_no hc] at HB
    clear hc HX0
    go_wp2_with fail
    refine HB.out.mono ?_
    rintro e w2 ⟨rfl, rfl⟩
    go_wp2_with fail
    go_end0
    rw [HX.out]
    exact ⟨rfl, H1.out.more (by omega), HM.out⟩
  · have HX := Lib.hid (HX0.out.trans (if_neg hc))
    rw [bad_yes hc] at HB
    have HC2 := Lib.hid (runlink_two H1.out (by omega) x)
    clear hc HX0
    go_wp2_with fail
    refine HB.out.mono ?_
    rintro e w2 ⟨rfl, rfl⟩
    go_wp2_with fail
    refine HC2.out.mono ?_
    rintro e w3 ⟨rfl, h3, m3⟩
    have H3 := Lib.hid h3
    have HM3 := Lib.hid (HM.out.trans m3 (fun y hy _ => hy))
    clear h3 m3 HC2
    go_wp2_with fail
    go_end0
    rw [HX.out]
    exact ⟨rfl, H3.out.more (by omega), HM3.out⟩

theorem rshas_two (h : TwoAt L W w g d m r k) (x : Str) : Calls Tryz.prog 48 #[.pointer (some ⟨m, 0, none⟩), .string (bstr x)] w fun e w' => e = .returned (.bool (hasR r x)) ∧ w = w' := by
  obtain ⟨S, M, h⟩ := h
  have HF := Lib.hid (rfind_r h.ref x)
  obtain ⟨fv, nv, sv, wv, fw, hh⟩ := h.ref
  obtain ⟨-, -, -, -, -, c5, -⟩ := hh.cells
  have HX : Hid (hasR r x = (!r.down && (Vd.look r.now x).isSome)) := Lib.hid rfl
  have HY : Hid (findR r.now x = match Vd.look r.now x with | none => -1 | some i => (i : Int)) := Lib.hid rfl
  clear h hh
  cases hd : r.down with
  | true =>
    rw [hd] at c5 HX
    go_enter Tryz.func48, Tryz.ntmps48
    go_wp2_with fail
    go_ret
    exact ⟨by rw [HX.out]; rfl, rfl⟩
  | false =>
    rw [hd] at c5 HX
    clear hd
    cases hl : Vd.look r.now x with
    | none =>
      rw [hl] at HX HY
      rw [HY.out] at HF
      clear hl HY
      go_enter Tryz.func48, Tryz.ntmps48
      go_wp2_with fail
      refine HF.out.mono ?_
      rintro e w2 ⟨rfl, rfl⟩
      go_wp2_with fail
      go_ret
      exact ⟨by rw [HX.out]; rfl, rfl⟩
    | some i =>
      rw [hl] at HX HY
      rw [HY.out] at HF
      have hi0 : (0 : Int) ≤ (i : Int) := by omega
      clear hl HY
      go_enter Tryz.func48, Tryz.ntmps48
      go_wp2_with fail
      refine HF.out.mono ?_
      rintro e w2 ⟨rfl, rfl⟩
      go_wp2_with fail
      go_ret
      exact ⟨by rw [HX.out]; rfl, rfl⟩
/-- a row that no change of the disks touches -/
def Stay2 (L : List Nat) (W w : World) (v : Value) (l : List Value) : Prop := ∀ T w', (∀ y, T y → W.heap.size ≤ y ∧ y ∉ L) → Mods T w w' → Row w' v l
theorem Stay2.row {v : Value} {l : List Value} (h : Stay2 L W w v l) : Row w v l := h (fun _ => False) w (fun _ hh => hh.elim) (Mods.refl _ _)
theorem Stay2.mods {w' : World} {v : Value} {l : List Value} (h : Stay2 L W w v l) (hm : Mods (fun y => W.heap.size ≤ y ∧ y ∉ L) w w') : Stay2 L W w' v l := fun T w2 hT hm2 => h _ w2 (fun _ hy => hy) (hm.trans hm2 (fun y hy _ => hT y hy))
set_option maxRecDepth 100000 in
set_option maxHeartbeats 2000000 in
theorem rsappend_two (h : TwoAt L W w g d m r k) (hk : k ≤ 89980) (x : Str) {b : Str} {p0 : Option Addr} {c0 : Nat} (hb : Stay2 L W w (.slice p0 b.length c0) (b.map u8v)) (hbl : b.length ≤ 1000000000) : Calls Tryz.prog 45 #[.pointer (some ⟨m, 0, none⟩), .string (bstr x), .slice p0 b.length c0] w (TwoDid L W w g d m (rAppend x b r).1 (k + 9) (.int .i64 (rAppend x b r).2)) := by
  have H := Lib.hid h
  have HC := Lib.hid (rappend_two h (by omega) x hb.row hbl)
  have HX0 : Hid (rAppend x b r = if (appendR r x b).2 = 0 then rSync x (appendR r x b).1 else appendR r x b) := Lib.hid rfl
  clear h hb
  generalize appendR r x b = q1 at *
  obtain ⟨r1, c1⟩ := q1
  simp only at HX0 HC
  go_enter Tryz.func45, Tryz.ntmps45
  go_wp2_with fail
  refine HC.out.mono ?_
  rintro e w1 ⟨rfl, h1, m1⟩
  have H1 := Lib.hid h1
  have HM := Lib.hid m1
  clear h1 m1 HC
  by_cases hc : c1 = 0
  · subst hc
    have HX := Lib.hid (HX0.out.trans (if_pos rfl))
    have HC2 := Lib.hid (rssync_two H1.out (by omega) x)
    clear HX0
    go_wp2_with fail
    refine HC2.out.mono ?_
    rintro e w3 ⟨rfl, h3, m3⟩
    have H3 := Lib.hid h3
    have HM3 := Lib.hid (HM.out.trans m3 (fun y hy _ => hy))
    clear h3 m3 HC2
    go_wp2_with fail
    go_ret
    rw [HX.out]
    exact ⟨rfl, H3.out.more (by omega), HM3.out⟩
  · have HX := Lib.hid (HX0.out.trans (if_neg hc))
    have hc' : (c1 != 0) = true := by simp [hc]
    clear hc HX0
    go_wp2_with fail
    go_ret
    rw [HX.out]
    exact ⟨rfl, H1.out.more (by omega), HM.out⟩
end
end Rs
end Go.Proofs.YtchjncnolmiejaaGreat

/- ref16's Make, Drop, both disks side by side. -/
namespace Go.Proofs.YtchjncnolmiejaaGreat
open Go.RowKit
namespace Rs
open Vd Rf Sf
open Go.Maps
section
variable {L : List Nat} {W w : World} {g m : Nat} {d : Dsk} {r : RDsk} {k : Nat}
set_option maxRecDepth 100000 in
set_option maxHeartbeats 4000000 in
theorem rsmake_two (h : TwoAt L W w g d m r k) (hk : k ≤ 89900) (x : Str) (hx : x.length ≤ 9000000000000000000) {b : Str} {p0 : Option Addr} {c0 : Nat} (hb : Stay2 L W w (.slice p0 b.length c0) (b.map u8v)) (hbl : b.length ≤ 1000000000) : Calls Tryz.prog 43 #[.pointer (some ⟨m, 0, none⟩), .string (bstr x), .slice p0 b.length c0] w (TwoDid L W w g d m (rMake x b r).1 (k + 30) (.int .i64 (rMake x b r).2)) := by
  have H := Lib.hid h
  have HS := Lib.hid hb
  have HHA := Lib.hid (rshas_two h x)
  have HX0 : Hid (rMake x b r = if hasR r x then (r, 8) else if (createR r x).2 ≠ 0 then createR r x else tidyR0 x (thenR (rAppend x b (createR r x).1) rDir)) := Lib.hid rfl
  have HC := Lib.hid (rcreate_two h (by omega) x hx)
  clear h hb
  generalize hasR r x = hh at *
  generalize createR r x = q1 at *
  obtain ⟨r1, c1⟩ := q1
  simp only at HX0 HC
  cases hh with
  | true =>
    have HX : Hid (rMake x b r = (r, 8)) := Lib.hid (HX0.out.trans (if_pos rfl))
    go_enter Tryz.func43, Tryz.ntmps43
    go_wp2_with fail
    refine HHA.out.mono ?_
    rintro e w2 ⟨rfl, rfl⟩
    go_wp2_with fail
    go_ret
    rw [HX.out]
    exact ⟨rfl, H.out.more (by omega), Mods.refl _ _⟩
  | false =>
    have HX1 := Lib.hid (HX0.out.trans (if_neg (by simp)))
    clear HX0
    go_enter Tryz.func43, Tryz.ntmps43
    go_wp2_with fail
    refine HHA.out.mono ?_
    rintro e w2 ⟨rfl, rfl⟩
    go_wp2_with fail
    refine HC.out.mono ?_
    rintro e w1 ⟨rfl, h1, m1⟩
    have H1 := Lib.hid h1
    have HM := Lib.hid m1
    have HS1 := Lib.hid (HS.out.mods m1)
    clear h1 m1 HC HHA
    by_cases hc : c1 = 0
    · subst hc
      have HX2 : Hid (rMake x b r = tidyR0 x (thenR (rAppend x b r1) rDir)) := Lib.hid (HX1.out.trans (if_neg (by simp)))
      have HA := Lib.hid (rsappend_two H1.out (by omega) x HS1.out hbl)
      have HT0 : Hid (thenR (rAppend x b r1) rDir = if (rAppend x b r1).2 = 0 then rDir (rAppend x b r1).1 else rAppend x b r1) := Lib.hid rfl
      generalize rAppend x b r1 = q2 at *
      obtain ⟨r2, c2⟩ := q2
      simp only at HA HT0
      clear HX1
      go_wp2_with fail
      refine HA.out.mono ?_
      rintro e w2 ⟨rfl, h2, m2⟩
      have H2 := Lib.hid h2
      have HM2 := Lib.hid (HM.out.trans m2 (fun y hy _ => hy))
      clear h2 m2 HA
      go_upto_if 23 with fail
      go_cut [8] (fun ev wx => ∃ r3 c3, ev = .int .i64 c3 ∧ Hid (thenR (r2, c2) rDir = (r3, c3) ∧ TwoAt L W wx g d m r3 (k + 18) ∧ Mods (fun y => W.heap.size ≤ y ∧ y ∉ L) w wx))
      case first =>
        by_cases hc : c2 = 0
        · subst hc
          have HT := Lib.hid (HT0.out.trans (if_pos rfl))
          have HD := Lib.hid (rsdir_two H2.out (by omega))
          generalize rDir r2 = q3 at *
          obtain ⟨r3, c3⟩ := q3
          go_wp2_with fail
          refine HD.out.mono ?_
          rintro e w3 ⟨rfl, h3, m3⟩
          have H3 := Lib.hid h3
          have HM3 := Lib.hid (HM2.out.trans m3 (fun y hy _ => hy))
          clear h3 m3 HD
          go_wp2_with fail
          go_meet
          exact ⟨r3, c3, rfl, Lib.hid ⟨HT.out, H3.out.more (by omega), HM3.out⟩⟩
        · have HT := Lib.hid (HT0.out.trans (if_neg hc))
          have hc' : (c2 == 0) = false := by simp [hc]
          clear hc
          go_wp2_with fail
          go_meet
          exact ⟨r2, c2, rfl, Lib.hid ⟨HT.out, H2.out.more (by omega), HM2.out⟩⟩
      case rest =>
      obtain ⟨r3, c3, rfl, HQ⟩ := hcut
      obtain ⟨w3, rfl⟩ : ∃ z : World, z = wc := ⟨_, rfl⟩
      have HX3 : Hid (rMake x b r = tidyR0 x (r3, c3)) := Lib.hid (by rw [HX2.out, HQ.out.1])
      have HB := Lib.hid (bad_r c3 w3)
      by_cases hc : c3 = 0 ∨ c3 = 11
      · have HX : Hid (rMake x b r = (r3, c3)) := Lib.hid (HX3.out.trans (if_pos hc))
        rw [bad_no hc] at HB
        clear hc
        go_wp2_with fail
        refine HB.out.mono ?_
        rintro e w4 ⟨rfl, rfl⟩
        go_wp2_with fail
        go_ret
        rw [HX.out]
        exact ⟨rfl, HQ.out.2.1.more (by omega), HQ.out.2.2⟩
      · have HX : Hid (rMake x b r = ((rUnlink x r3).1, c3)) := Lib.hid (HX3.out.trans (if_neg hc))
        rw [bad_yes hc] at HB
        have HU := Lib.hid (rsaway_two HQ.out.2.1 (by omega) x)
        clear hc
        go_wp2_with fail
        refine HB.out.mono ?_
        rintro e w4 ⟨rfl, rfl⟩
        go_wp2_with fail
        refine HU.out.mono ?_
        rintro e w5 ⟨rfl, h5, m5⟩
        have H5 := Lib.hid h5
        have HM5 := Lib.hid (HQ.out.2.2.trans m5 (fun y hy _ => hy))
        clear h5 m5
        go_wp2_with fail
        go_ret
        rw [HX.out]
        exact ⟨rfl, H5.out.more (by omega), HM5.out⟩
    · have HX : Hid (rMake x b r = (r1, c1)) := Lib.hid (HX1.out.trans (if_pos hc))
      have hc' : (c1 != 0) = true := by simp [hc]
      clear hc HX1
      go_wp2_with fail
      go_ret
      rw [HX.out]
      exact ⟨rfl, H1.out.more (by omega), HM.out⟩
set_option maxRecDepth 100000 in
set_option maxHeartbeats 4000000 in
theorem rsdrop_two (h : TwoAt L W w g d m r k) (hk : k ≤ 89900) (x : Str) : Calls Tryz.prog 69 #[.pointer (some ⟨m, 0, none⟩), .string (bstr x)] w (TwoDid L W w g d m (rDrop x r).1 (k + 9) (.int .i64 (rDrop x r).2)) := by
  have H := Lib.hid h
  have HX0 : Hid (rDrop x r = if r.down = false ∧ hasR r x = false then (r, 0) else if (unlinkR r x).2 = 0 then rDir (unlinkR r x).1 else unlinkR r x) := Lib.hid rfl
  have HHR : Hid (hasR r x = (!r.down && (Vd.look r.now x).isSome)) := Lib.hid rfl
  have HY : Hid (findR r.now x = match Vd.look r.now x with | none => -1 | some i => (i : Int)) := Lib.hid rfl
  have HU := Lib.hid (runlink_two h (by omega) x)
  obtain ⟨S, M, h⟩ := h
  have HF := Lib.hid (rfind_r h.ref x)
  obtain ⟨fv, nv, sv, wv, fw, hh⟩ := h.ref
  obtain ⟨-, -, -, -, -, c5, -⟩ := hh.cells
  clear h hh
  generalize unlinkR r x = q1 at *
  obtain ⟨r1, c1⟩ := q1
  simp only at HX0 HU
  have HREST : Hid (¬ (r.down = false ∧ hasR r x = false) → ∀ (w1 : World), TwoAt L W w1 g d m r1 (k + 3) → Mods (fun y => W.heap.size ≤ y ∧ y ∉ L) w w1 → c1 ≠ 0 → TwoDid L W w g d m (rDrop x r).1 (k + 9) (.int .i64 (rDrop x r).2) (.returned (.int .i64 c1)) w1) := Lib.hid (fun hn w1 h1 m1 hc => by
    rw [HX0.out, if_neg hn, if_neg hc]
    exact ⟨rfl, h1.more (by omega), m1⟩)
  have HDIR : Hid (¬ (r.down = false ∧ hasR r x = false) → c1 = 0 → rDrop x r = rDir r1) := Lib.hid (fun hn hc => by rw [HX0.out, if_neg hn, if_pos hc])
  cases hd : r.down with
  | true =>
    rw [hd] at c5
    have HN := Lib.hid (show ¬ (r.down = false ∧ hasR r x = false) from by rw [hd]; simp)
    clear hd HX0 HHR HY HF
    go_enter Tryz.func69, Tryz.ntmps69
    go_wp2_with fail
    refine HU.out.mono ?_
    rintro e w1 ⟨rfl, h1, m1⟩
    have H1 := Lib.hid h1
    have HM := Lib.hid m1
    clear h1 m1 HU c5
    by_cases hc : c1 = 0
    · subst hc
      have HX := Lib.hid (HDIR.out HN.out rfl)
      have HD := Lib.hid (rsdir_two H1.out (by omega))
      clear HREST HDIR
      go_wp2_with fail
      refine HD.out.mono ?_
      rintro e w3 ⟨rfl, h3, m3⟩
      have H3 := Lib.hid h3
      have HM3 := Lib.hid (HM.out.trans m3 (fun y hy _ => hy))
      clear h3 m3 HD
      go_wp2_with fail
      go_ret
      rw [HX.out]
      exact ⟨rfl, H3.out.more (by omega), HM3.out⟩
    · have hc' : (c1 != 0) = true := by simp [hc]
      have HE := Lib.hid (HREST.out HN.out _ H1.out HM.out hc)
      clear hc HREST HDIR
      go_wp2_with fail
      go_ret
      exact HE.out
  | false =>
    rw [hd] at c5 HHR
    cases hl : Vd.look r.now x with
    | none =>
      rw [hl] at HY HHR
      rw [HY.out] at HF
      have HX : Hid (rDrop x r = (r, 0)) := Lib.hid (by rw [HX0.out, if_pos ⟨hd, HHR.out⟩])
      clear hl hd HY HHR HX0 HREST HDIR HU
      go_enter Tryz.func69, Tryz.ntmps69
      go_wp2_with fail
      refine HF.out.mono ?_
      rintro e w2 ⟨rfl, rfl⟩
      go_wp2_with fail
      go_ret
      rw [HX.out]
      exact ⟨rfl, H.out.more (by omega), Mods.refl _ _⟩
    | some i =>
      rw [hl] at HY HHR
      rw [HY.out] at HF
      have HN := Lib.hid (show ¬ (r.down = false ∧ hasR r x = false) from by rw [HHR.out]; simp)
      have hi0 : decide ((i : Int) < 0) = false := by simp
      clear hl hd HY HHR HX0
      go_enter Tryz.func69, Tryz.ntmps69
      go_wp2_with fail
      refine HF.out.mono ?_
      rintro e w2 ⟨rfl, rfl⟩
      go_wp2_with fail
      refine HU.out.mono ?_
      rintro e w1 ⟨rfl, h1, m1⟩
      have H1 := Lib.hid h1
      have HM := Lib.hid m1
      clear h1 m1 HU c5
      by_cases hc : c1 = 0
      · subst hc
        have HX := Lib.hid (HDIR.out HN.out rfl)
        have HD := Lib.hid (rsdir_two H1.out (by omega))
        clear HREST HDIR
        go_wp2_with fail
        refine HD.out.mono ?_
        rintro e w3 ⟨rfl, h3, m3⟩
        have H3 := Lib.hid h3
        have HM3 := Lib.hid (HM.out.trans m3 (fun y hy _ => hy))
        clear h3 m3 HD
        go_wp2_with fail
        go_ret
        rw [HX.out]
        exact ⟨rfl, H3.out.more (by omega), HM3.out⟩
      · have hc' : (c1 != 0) = true := by simp [hc]
        have HE := Lib.hid (HREST.out HN.out _ H1.out HM.out hc)
        clear hc HREST HDIR
        go_wp2_with fail
        go_ret
        exact HE.out
end
end Rs
end Go.Proofs.YtchjncnolmiejaaGreat

/- ref16's Swap, both disks side by side. (MADE BY gen_rsswap.py.) -/
namespace Go.Proofs.YtchjncnolmiejaaGreat
open Go.RowKit
namespace Rs
open Vd Rf Sf
open Go.Maps
section
variable {L : List Nat} {W w : World} {g m : Nat} {d : Dsk} {r : RDsk} {k : Nat}
set_option maxRecDepth 100000 in
set_option maxHeartbeats 8000000 in
theorem rsswap_two (h : TwoAt L W w g d m r k) (hk : k ≤ 89900) (x : Str) (hx : x.length ≤ 1000000000) {b : Str} {p0 : Option Addr} {c0 : Nat} (hb : Stay2 L W w (.slice p0 b.length c0) (b.map u8v)) (hbl : b.length ≤ 1000000000) : Calls Tryz.prog 14 #[.pointer (some ⟨m, 0, none⟩), .string (bstr x), .slice p0 b.length c0] w (TwoDid L W w g d m (rSwap x b r).1 (k + 40) (.int .i64 (rSwap x b r).2)) := by
  have H := Lib.hid h
  have HS := Lib.hid hb
  have hsx := bstr_size x
  have HX0 : Hid (rSwap x b r = if 30 < x.length then (r, 3) else if hasR r (x ++ dotN) then (if (unlinkR r (x ++ dotN)).2 ≠ 0 then unlinkR r (x ++ dotN) else rSwap1 x (x ++ dotN) b (unlinkR r (x ++ dotN)).1) else rSwap1 x (x ++ dotN) b r) := Lib.hid rfl
  clear h hb
  by_cases h30 : 30 < x.length
  · have HX := Lib.hid (HX0.out.trans (if_pos h30))
    have h30' : (30 : Int) < (x.length : Int) := by omega
    go_enter Tryz.func14, Tryz.ntmps14
    go_wp2_with fail
    go_ret
    rw [HX.out]
    exact ⟨rfl, H.out.more (by omega), Mods.refl _ _⟩
  have HX1 := Lib.hid (HX0.out.trans (if_neg h30))
  have h30' : decide ((30 : Int) < (x.length : Int)) = false := by simp; omega
  obtain ⟨n, hn⟩ : ∃ n, n = x ++ dotN := ⟨_, rfl⟩
  have hnl : n.length ≤ 100 := by rw [hn]; simp [dotN]; omega
  have happ : bstr x ++ (⟨#[46, 110]⟩ : ByteArray) = bstr n := by rw [hn]; exact Frm.bstr_append x dotN
  rw [← hn] at HX1
  have hs2 : (⟨#[46, 110]⟩ : ByteArray).size = 2 := rfl
  clear hn HX0
  have HHA := Lib.hid (rshas_two H.out n)
  have HU := Lib.hid (runlink_two H.out (by omega) n)
  generalize hasR r n = hh at *
  generalize unlinkR r n = q1 at *
  obtain ⟨r1, c1⟩ := q1
  simp only at HX1 HU
  go_enter Tryz.func14, Tryz.ntmps14
  go_wp2_with fail
  refine HHA.out.mono ?_
  rintro e w2 ⟨rfl, rfl⟩
  clear HHA happ hs2 hsx
  go_upto_if 17 with fail
  go_cut [] (fun wx => ∃ r0, Hid (rSwap x b r = rSwap1 x n b r0 ∧ TwoAt L W wx g d m r0 (k + 3) ∧ Mods (fun y => W.heap.size ≤ y ∧ y ∉ L) w wx))
  case first =>
    cases hh with
    | false =>
      have HX2 := Lib.hid (HX1.out.trans (if_neg (by simp)))
      go_wp2_with fail
      go_meet
      exact ⟨r, Lib.hid ⟨HX2.out, H.out.more (by omega), Mods.refl _ _⟩⟩
    | true =>
      have HX2 := Lib.hid (HX1.out.trans (if_pos rfl))
      go_wp2_with fail
      refine HU.out.mono ?_
      rintro e w1 ⟨rfl, h1, m1⟩
      have H1 := Lib.hid h1
      have HM := Lib.hid m1
      clear h1 m1 HU
      by_cases hc : c1 = 0
      · subst hc
        have HX3 := Lib.hid (HX2.out.trans (if_neg (by simp)))
        go_wp2_with fail
        go_meet
        exact ⟨r1, Lib.hid ⟨HX3.out, H1.out, HM.out⟩⟩
      · have HX3 := Lib.hid (HX2.out.trans (if_pos hc))
        have hc' : (c1 != 0) = true := by simp [hc]
        clear hc
        go_wp2_with fail
        go_ret
        rw [HX3.out]
        exact ⟨rfl, H1.out.more (by omega), HM.out⟩
  case rest =>
  obtain ⟨r0, HQ0⟩ := hcut
  obtain ⟨w0, rfl⟩ : ∃ z : World, z = wc := ⟨_, rfl⟩
  have HXS : Hid (rSwap x b r = tidyR n (thenR (thenR (thenR (createR r0 n) (rAppend n b)) (fun r => renameR r n x)) rDir)) := HQ0.out.1 |> Lib.hid
  clear HX1 HU
  have HCR := Lib.hid (rcreate_two HQ0.out.2.1 (by omega) n (by omega))
  obtain ⟨r1', c1', hcr⟩ : ∃ a b', createR r0 n = (a, b') := ⟨_, _, rfl⟩
  rw [hcr] at HCR
  have HCE := Lib.hid hcr
  clear hcr
  go_wp2_with fail
  refine HCR.out.mono ?_
  rintro e w1 ⟨rfl, h1, m1⟩
  have HQ1 := Lib.hid (show createR r0 n = (r1', c1') ∧ TwoAt L W w1 g d m r1' (k + 6) ∧ Mods (fun y => W.heap.size ≤ y ∧ y ∉ L) w w1 from ⟨HCE.out, h1.more (by omega), HQ0.out.2.2.trans m1 (fun y hy _ => hy)⟩)
  clear h1 m1 HCR HCE
  obtain ⟨r1, rfl⟩ : ∃ z, z = r1' := ⟨_, rfl⟩
  obtain ⟨c1, rfl⟩ : ∃ z, z = c1' := ⟨_, rfl⟩
  go_upto_if 28 with fail
  go_cut [9] (fun ev wx => ∃ r' c', ev = .int .i64 c' ∧ Hid (thenR (createR r0 n) (rAppend n b) = (r', c') ∧ TwoAt L W wx g d m r' (k + 15) ∧ Mods (fun y => W.heap.size ≤ y ∧ y ∉ L) w wx))
  case first =>
    have HT0 : Hid (thenR (createR r0 n) (rAppend n b) = if c1 = 0 then rAppend n b r1 else (r1, c1)) := Lib.hid (by show thenR (createR r0 n) _ = _; rw [HQ1.out.1]; rfl)
    by_cases hc : c1 = 0
    · subst hc
      have HT := Lib.hid (HT0.out.trans (if_pos rfl))
      have HD := Lib.hid (rsappend_two HQ1.out.2.1 (by omega) n (HS.out.mods HQ1.out.2.2) hbl)
      generalize rAppend n b r1 = q3 at *
      obtain ⟨r3, c3⟩ := q3
      go_wp2_with fail
      refine HD.out.mono ?_
      rintro e w3 ⟨rfl, h3, m3⟩
      have H3 := Lib.hid h3
      have HM3 := Lib.hid (HQ1.out.2.2.trans m3 (fun y hy _ => hy))
      clear h3 m3 HD
      go_wp2_with fail
      go_meet
      exact ⟨r3, c3, rfl, Lib.hid ⟨HT.out, H3.out.more (by omega), HM3.out⟩⟩
    · have HT := Lib.hid (HT0.out.trans (if_neg hc))
      have hc' : (c1 == 0) = false := by simp [hc]
      clear hc
      go_wp2_with fail
      go_meet
      exact ⟨r1, c1, rfl, Lib.hid ⟨HT.out, HQ1.out.2.1.more (by omega), HQ1.out.2.2⟩⟩
  case rest =>
  obtain ⟨r2, c2, rfl, HQ2⟩ := hcut
  obtain ⟨w2, rfl⟩ : ∃ z : World, z = wc := ⟨_, rfl⟩
  go_upto_if 34 with fail
  go_cut [9] (fun ev wx => ∃ r' c', ev = .int .i64 c' ∧ Hid (thenR (thenR (createR r0 n) (rAppend n b)) (fun r => renameR r n x) = (r', c') ∧ TwoAt L W wx g d m r' (k + 18) ∧ Mods (fun y => W.heap.size ≤ y ∧ y ∉ L) w wx))
  case first =>
    have HT0 : Hid (thenR (thenR (createR r0 n) (rAppend n b)) (fun r => renameR r n x) = if c2 = 0 then renameR r2 n x else (r2, c2)) := Lib.hid (by show thenR (thenR (createR r0 n) (rAppend n b)) _ = _; rw [HQ2.out.1]; rfl)
    by_cases hc : c2 = 0
    · subst hc
      have HT := Lib.hid (HT0.out.trans (if_pos rfl))
      have HD := Lib.hid (rrename_two HQ2.out.2.1 (by omega) n x (by omega))
      generalize renameR r2 n x = q3 at *
      obtain ⟨r3, c3⟩ := q3
      go_wp2_with fail
      refine HD.out.mono ?_
      rintro e w3 ⟨rfl, h3, m3⟩
      have H3 := Lib.hid h3
      have HM3 := Lib.hid (HQ2.out.2.2.trans m3 (fun y hy _ => hy))
      clear h3 m3 HD
      go_wp2_with fail
      go_meet
      exact ⟨r3, c3, rfl, Lib.hid ⟨HT.out, H3.out.more (by omega), HM3.out⟩⟩
    · have HT := Lib.hid (HT0.out.trans (if_neg hc))
      have hc' : (c2 == 0) = false := by simp [hc]
      clear hc
      go_wp2_with fail
      go_meet
      exact ⟨r2, c2, rfl, Lib.hid ⟨HT.out, HQ2.out.2.1.more (by omega), HQ2.out.2.2⟩⟩
  case rest =>
  obtain ⟨r3, c3, rfl, HQ3⟩ := hcut
  obtain ⟨w3, rfl⟩ : ∃ z : World, z = wc := ⟨_, rfl⟩
  go_upto_if 40 with fail
  go_cut [9] (fun ev wx => ∃ r' c', ev = .int .i64 c' ∧ Hid (thenR (thenR (thenR (createR r0 n) (rAppend n b)) (fun r => renameR r n x)) rDir = (r', c') ∧ TwoAt L W wx g d m r' (k + 24) ∧ Mods (fun y => W.heap.size ≤ y ∧ y ∉ L) w wx))
  case first =>
    have HT0 : Hid (thenR (thenR (thenR (createR r0 n) (rAppend n b)) (fun r => renameR r n x)) rDir = if c3 = 0 then rDir r3 else (r3, c3)) := Lib.hid (by show thenR (thenR (thenR (createR r0 n) (rAppend n b)) (fun r => renameR r n x)) _ = _; rw [HQ3.out.1]; rfl)
    by_cases hc : c3 = 0
    · subst hc
      have HT := Lib.hid (HT0.out.trans (if_pos rfl))
      have HD := Lib.hid (rsdir_two HQ3.out.2.1 (by omega))
      generalize rDir r3 = q4 at *
      obtain ⟨r4, c4⟩ := q4
      go_wp2_with fail
      refine HD.out.mono ?_
      rintro e w3 ⟨rfl, h3, m3⟩
      have H3 := Lib.hid h3
      have HM3 := Lib.hid (HQ3.out.2.2.trans m3 (fun y hy _ => hy))
      clear h3 m3 HD
      go_wp2_with fail
      go_meet
      exact ⟨r4, c4, rfl, Lib.hid ⟨HT.out, H3.out.more (by omega), HM3.out⟩⟩
    · have HT := Lib.hid (HT0.out.trans (if_neg hc))
      have hc' : (c3 == 0) = false := by simp [hc]
      clear hc
      go_wp2_with fail
      go_meet
      exact ⟨r3, c3, rfl, Lib.hid ⟨HT.out, HQ3.out.2.1.more (by omega), HQ3.out.2.2⟩⟩
  case rest =>
  obtain ⟨r4, c4, rfl, HQ4⟩ := hcut
  obtain ⟨w4, rfl⟩ : ∃ z : World, z = wc := ⟨_, rfl⟩
  have HX3 : Hid (rSwap x b r = tidyR n (r4, c4)) := Lib.hid (by rw [HXS.out, HQ4.out.1])
  have HB := Lib.hid (bad_r c4 w4)
  have HHB := Lib.hid (rshas_two HQ4.out.2.1 n)
  by_cases hc : c4 = 0 ∨ c4 = 11
  · have HX : Hid (rSwap x b r = (r4, c4)) := Lib.hid (HX3.out.trans (if_pos (hc.imp id .inl)))
    rw [bad_no hc] at HB
    clear hc
    go_wp2_with fail
    refine HB.out.mono ?_
    rintro e w5 ⟨rfl, rfl⟩
    go_wp2_with fail
    go_ret
    rw [HX.out]
    exact ⟨rfl, HQ4.out.2.1.more (by omega), HQ4.out.2.2⟩
  · rw [bad_yes hc] at HB
    cases hb4 : hasR r4 n with
    | false =>
      have HX : Hid (rSwap x b r = (r4, c4)) := Lib.hid (HX3.out.trans (if_pos (.inr (.inr hb4))))
      rw [hb4] at HHB
      clear hc hb4
      go_wp2_with fail
      refine HB.out.mono ?_
      rintro e w5 ⟨rfl, rfl⟩
      go_wp2_with fail
      refine HHB.out.mono ?_
      rintro e w6 ⟨rfl, rfl⟩
      go_wp2_with fail
      go_ret
      rw [HX.out]
      exact ⟨rfl, HQ4.out.2.1.more (by omega), HQ4.out.2.2⟩
    | true =>
      have HX : Hid (rSwap x b r = ((rUnlink n r4).1, c4)) := Lib.hid (HX3.out.trans (if_neg (by simp only [hb4]; simp; exact ⟨fun e => hc (.inl e), fun e => hc (.inr e)⟩)))
      rw [hb4] at HHB
      have HU := Lib.hid (rsaway_two HQ4.out.2.1 (by omega) n)
      clear hc hb4
      go_wp2_with fail
      refine HB.out.mono ?_
      rintro e w5 ⟨rfl, rfl⟩
      go_wp2_with fail
      refine HHB.out.mono ?_
      rintro e w6 ⟨rfl, rfl⟩
      go_wp2_with fail
      refine HU.out.mono ?_
      rintro e w5 ⟨rfl, h5, m5⟩
      have H5 := Lib.hid h5
      have HM5 := Lib.hid (HQ4.out.2.2.trans m5 (fun y hy _ => hy))
      clear h5 m5
      go_wp2_with fail
      go_ret
      rw [HX.out]
      exact ⟨rfl, H5.out.more (by omega), HM5.out⟩
end
end Rs
end Go.Proofs.YtchjncnolmiejaaGreat

/- The document's disk, plain: Boot, write by write and file by file. -/
namespace Go.Proofs.YtchjncnolmiejaaGreat
open Go.RowKit
namespace Rf
open Vd
/-- how many bytes of a write are kept -/
def keptR (keep : List Int) (n : Nat) (p : Pat) : Int := min (max (keep.getD n 0) 0) (p.b.length : Int)
def bootS (keep : List Int) (p : Pat) (n : Nat) (s : Str) : Str := if keptR keep n p = 0 then s else overL s p.place (p.b.take (keptR keep n p).toNat)
theorem kept_in (keep : List Int) (n : Nat) (p : Pat) : 0 ≤ keptR keep n p ∧ keptR keep n p ≤ (p.b.length : Int) := by
  unfold keptR
  omega
theorem bootW_fst (keep : List Int) : ∀ (ps : List Pat) (n : Nat) (s : Str), (bootW keep ps n s).1 = n + ps.length
  | [], n, s => rfl
  | p :: ps, n, s => by
    unfold bootW
    rw [bootW_fst keep ps]
    simp
    omega
theorem bootW_app (keep : List Int) (p : Pat) : ∀ (ps : List Pat) (n : Nat) (s : Str), bootW keep (ps ++ [p]) n s = (n + ps.length + 1, bootS keep p (n + ps.length) (bootW keep ps n s).2)
  | [], n, s => rfl
  | q :: ps, n, s => by
    have ih := bootW_app keep p ps (n + 1)
    rw [List.cons_append]
    unfold bootW
    rw [ih]
    simp only [List.length_cons]
    rw [show n + 1 + ps.length = n + (ps.length + 1) from by omega]
theorem bootS_len {keep : List Int} {p : Pat} {n : Nat} {s : Str} (hs : s.length ≤ 1000000000) (hp : p.place + p.b.length ≤ 1000000000) : (bootS keep p n s).length ≤ 1000000000 := by
  unfold bootS
  split
  · exact hs
  · rw [overL_len, List.length_take]
    omega
theorem bootW_len (keep : List Int) : ∀ (ps : List Pat) (n : Nat) (s : Str), s.length ≤ 1000000000 → (∀ p ∈ ps, p.place + p.b.length ≤ 1000000000) → (bootW keep ps n s).2.length ≤ 1000000000
  | [], n, s, hs, _ => hs
  | p :: ps, n, s, hs, hp => by
    unfold bootW
    exact bootW_len keep ps _ _ (bootS_len (keep := keep) (n := n) hs (hp p (List.mem_cons_self ..))) (fun q hq => hp q (List.mem_cons_of_mem _ hq))
/-- the first writes of a file -/
def bootT (keep : List Int) (ws : List Pat) (n : Nat) (s : Str) (j : Nat) : Str := (bootW keep (ws.take j) n s).2
theorem bootT_succ {keep : List Int} {ws : List Pat} {n : Nat} {s : Str} {j : Nat} (h : j < ws.length) : bootT keep ws n s (j + 1) = bootS keep ws[j] (n + j) (bootT keep ws n s j) := by
  unfold bootT
  rw [List.take_succ_eq_append_getElem h, bootW_app, List.length_take, show min j ws.length = j from by omega]
theorem bootT_len {keep : List Int} {ws : List Pat} {n : Nat} {s : Str} (hs : s.length ≤ 1000000000) (hp : ∀ p ∈ ws, p.place + p.b.length ≤ 1000000000) (j : Nat) : (bootT keep ws n s j).length ≤ 1000000000 :=
  bootW_len keep _ _ _ hs (fun p h => hp p (List.mem_of_mem_take h))
/-- the first files -/
def bootN' (d : RDsk) (keep : List Int) (i : Nat) : Nat := (bootF d keep i 0).2
def bootL (d : RDsk) (keep : List Int) (i : Nat) : List RFil := (bootF d keep i 0).1
theorem boot_step {d : RDsk} (keep : List Int) {i : Nat} (hi : i < d.files.length) {q : Nat} {s : Str} (hk : knownR d i = true → q = d.files[i].waits.length) (hn : knownR d i = false → q = 0) (hs : s = bootT keep d.files[i].waits (bootN' d keep i) d.files[i].sure q) :
    bootN' d keep (i + 1) = bootN' d keep i + q ∧ bootL d keep (i + 1) = bootL d keep i ++ [⟨s, s, []⟩] := by
  unfold bootN' bootL
  rw [bootF_succ, filAt_get hi]
  cases hb : knownR d i with
  | true =>
    obtain rfl := hk hb
    simp only [if_true]
    refine ⟨bootW_fst _ _ _ _, ?_⟩
    rw [hs]
    unfold bootT
    rw [List.take_length]
    rfl
  | false =>
    obtain rfl := hn hb
    simp only [Bool.false_eq_true, if_false]
    rw [hs]
    exact ⟨rfl, rfl⟩
theorem bootL_len (d : RDsk) (keep : List Int) : ∀ j, (bootL d keep j).length = j
  | 0 => rfl
  | j + 1 => by
    unfold bootL
    rw [bootF_succ, List.length_append]
    have := bootL_len d keep j
    unfold bootL at this
    rw [this]
    rfl
theorem bootN_le {d : RDsk} {k : Nat} (hp : ∀ x ∈ d.files, x.waits.length ≤ k) (keep : List Int) : ∀ j, j ≤ d.files.length → bootN' d keep j ≤ j * k
  | 0, _ => Nat.zero_le _
  | j + 1, hj => by
    have ih := bootN_le hp keep j (by omega)
    have h1 := hp d.files[j] (List.getElem_mem (by omega))
    have h2 := (boot_step (d := d) keep (i := j) (by omega) (q := if knownR d j then d.files[j].waits.length else 0) (fun h => if_pos h) (fun h => if_neg (by simp [h])) rfl).1
    rw [h2, Nat.succ_mul]
    split <;> omega
/-- what the files become -/
theorem bootL_ok {d : RDsk} (hb : ∀ x ∈ d.files, x.sure.length ≤ 1000000000) (hp : ∀ i (h : i < d.files.length), knownR d i = true → ∀ p ∈ d.files[i].waits, p.place + p.b.length ≤ 1000000000) (keep : List Int) : ∀ j, j ≤ d.files.length → ∀ x ∈ bootL d keep j, x.waits = [] ∧ x.now.length ≤ 1000000000 ∧ x.sure.length ≤ 1000000000
  | 0, _, x, hx => absurd hx (List.not_mem_nil)
  | j + 1, hj, x, hx => by
    have h2 := (boot_step (d := d) keep (i := j) (by omega) (q := if knownR d j then d.files[j].waits.length else 0) (fun h => if_pos h) (fun h => if_neg (by simp [h])) rfl).2
    rw [h2] at hx
    rcases List.mem_append.1 hx with hx | hx
    · exact bootL_ok hb hp keep j (by omega) x hx
    · rw [List.mem_singleton.1 hx]
      have hs := hb d.files[j] (List.getElem_mem (by omega))
      have : (bootT keep d.files[j].waits (bootN' d keep j) d.files[j].sure (if knownR d j then d.files[j].waits.length else 0)).length ≤ 1000000000 := by
        cases hk : knownR d j with
        | true => exact bootT_len (keep := keep) (n := bootN' d keep j) hs (hp j (by omega) hk) _
        | false => exact hs
      exact ⟨rfl, this, this⟩
/-- a file without writes, as cells -/
def filZ (f : RFil) : List Value := [.string (bstr f.now), .string (bstr f.sure), .slice none 0 0]
theorem filZ_zip : ∀ (l : List RFil), (l.zip (List.replicate l.length (.slice none 0 0))).flatMap filC = l.flatMap filZ
  | [] => rfl
  | f :: l => by
    rw [List.length_cons, List.replicate_succ, List.zip_cons_cons, List.flatMap_cons, List.flatMap_cons, filZ_zip l]
    rfl
theorem goneR_succ {sure : Nms} {ws : List RTurn} {j : Nat} (h : j < ws.length) : goneR sure ws (j + 1) = doR (goneR sure ws j) ws[j] := by
  unfold goneR
  rw [List.take_succ_eq_append_getElem h, List.foldl_append]
  rfl
theorem goneR_all {sure : Nms} {ws : List RTurn} {j : Nat} (h : ws.length ≤ j) : goneR sure ws j = goneR sure ws ws.length := by
  unfold goneR
  rw [List.take_of_length_le h, List.take_of_length_le (Nat.le_refl _)]
end Rf
end Go.Proofs.YtchjncnolmiejaaGreat

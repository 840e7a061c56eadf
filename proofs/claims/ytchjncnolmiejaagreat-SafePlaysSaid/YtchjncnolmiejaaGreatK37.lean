/- Several texts in one: VdOn, VdPwrite, RfFind, RfPut, RfDo. -/
import Derived.Test.YtchjncnolmiejaaGreatK35
import Derived.Test.YtchjncnolmiejaaGreatK25
import Derived.Test.YtchjncnolmiejaaGreatK31
/- The disk's contracts beside blocks that are none of the disk's. -/
namespace Go.Proofs.YtchjncnolmiejaaGreat
open Go.RowKit
namespace Vd
open Go.Maps
/-- from w1 on the disk alone was changed: its blocks (S, and those that were made since) -/
structure On (S : Nat → Prop) (w1 w : World) (g : Nat) (d : Dsk) (k : Nat) : Prop where
  dsk : DiskAt w (More S w1 w) g d
  mods : Mods S w1 w
  few : Few d k
  lt : ∀ y, S y → y < w1.heap.size
section
variable {S : Nat → Prop} {w1 w wb w' : World} {g : Nat} {d d' : Dsk} {k k' : Nat}
theorem On.did (h : On S w1 w g d k) (hk : Keeps w wb) {r : Dsk × Int} {e : Ending} (hd : DskDid wb (More (More S w1 w) wb w') g r e w') (hf : Few r.1 k') : e = .returned (.int .i64 r.2) ∧ On S w1 w' g r.1 k' := by
  obtain ⟨h1, h2, h3⟩ := hd
  have hs := h3.size
  have hs1 := hk.size
  have hs0 := h.mods.size
  refine ⟨h1, h2.wide (fun y hy => ?_), ?_, hf, h.lt⟩
  · rcases hy with (hy | hy) | hy
    · exact .inl hy
    · exact .inr (by omega)
    · exact .inr (by omega)
  · refine h.mods.trans ((Mods.of_keeps (S := fun _ => False) hk).mono (fun y hy => hy.elim) |>.trans h3 (T := More (More S w1 w) wb w') (S := fun y => More (More S w1 w) wb w' y) (fun y hy _ => hy)) (fun y hy hlt => ?_)
    rcases hy with (hy | hy) | hy
    · exact hy
    · omega
    · omega
theorem On.did0 (h : On S w1 w g d k) (hd : DiskAt w' (More S w1 w) g d') (hm : Mods (More S w1 w) w w') (hf : Few d' k') : On S w1 w' g d' k' :=
  ⟨hd.wide (fun y hy => hy.imp id (fun hh => ⟨hh.1, Nat.lt_of_lt_of_le hh.2 hm.size⟩)), h.mods.trans hm (fun y hy hlt => hy.elim id (fun hh => by omega)), hf, h.lt⟩
theorem On.keeps (h : On S w1 w g d k) (hk : Keeps w w') : On S w1 w' g d k :=
  h.did0 (h.dsk.keeps hk) (Mods.of_keeps hk) h.few
/-- from here on -/
theorem On.base (h : On S w1 w g d k) (hk : Keeps w wb) : On (More S w1 w) wb wb g d k :=
  ⟨(h.dsk.keeps hk).wide (fun y hy => .inl hy), Mods.refl _ _, h.few, fun y hy => by
    have hs := hk.size
    have hs0 := h.mods.size
    rcases hy with hy | hy
    · have := h.lt y hy
      omega
    · omega⟩
theorem On.back (h : On S w1 w g d k) (hk : Keeps w wb) (h2 : On (More S w1 w) wb w' g d' k') : On S w1 w' g d' k' := by
  have hs := h2.mods.size
  have hs1 := hk.size
  have hs0 := h.mods.size
  refine ⟨h2.dsk.wide (fun y hy => ?_), ?_, h2.few, h.lt⟩
  · rcases hy with (hy | hy) | hy
    · exact .inl hy
    · exact .inr (by omega)
    · exact .inr (by omega)
  · refine h.mods.trans ((Mods.of_keeps (S := More S w1 w) hk).trans h2.mods (fun y hy _ => hy)) (fun y hy hlt => ?_)
    rcases hy with hy | hy
    · exact hy
    · omega
/-- a block that is none of the disk's -/
theorem On.blk (h : On S w1 w g d k) (h2 : On (More S w1 w) wb w' g d' k') {b : Nat} {t : TypeId} {cs : Array Value} (hb : Blk wb b t cs) (hw : w.heap.size ≤ b) : Blk w' b t cs :=
  hb.mods h2.mods (fun hy => by
    have hs0 := h.mods.size
    rcases hy with hy | hy
    · have := h.lt b hy
      omega
    · omega)
theorem On.cnt (h : On S w1 w g d k) (hk : k ≤ 90000) : -1 ≤ d.count ∧ d.count ≤ 9000000000000000000 := by
  have h0 := h.few.c0
  have h1 := h.few.c1
  omega
theorem create_on (h : On S w1 w g d k) (hk : k ≤ 90000) (x : Str) (hx : x.length ≤ 9000000000000000000) : Calls Tryz.prog 72 #[.pointer (some ⟨g, 0, none⟩), .string (bstr x)] w fun e w' => e = .returned (.int .i64 (createD d x).2) ∧ On S w1 w' g (createD d x).1 (k + 1) :=
  (create_any w h.dsk (h.cnt hk) x hx (by have := h.few.m; omega) (by have := h.few.n; omega)).mono (fun e w' hd => h.did (Keeps.refl _) hd (few_create h.few x))
theorem append_on (h : On S w1 w g d k) (hk : k ≤ 90000) (x : Str) (hx : x.length ≤ maxLen) {bv : Value} {b : Str} (hb : ∀ w', Mods (More S w1 w) w w' → Row w' bv (b.map u8v)) (hbl : b.length ≤ 1000000000) : Calls Tryz.prog 111 #[.pointer (some ⟨g, 0, none⟩), .string (bstr x), bv] w fun e w' => e = .returned (.int .i64 (appendD d x b).2) ∧ On S w1 w' g (appendD d x b).1 (k + 1) :=
  (append_any w h.dsk (h.cnt hk) x hx hb hbl (fun y hy => by have := h.few.p y hy; omega)).mono (fun e w' hd => h.did (Keeps.refl _) hd (few_append h.few x b))
theorem sync_on (h : On S w1 w g d k) (hk : k ≤ 90000) (x : Str) (hx : x.length ≤ maxLen) : Calls Tryz.prog 142 #[.pointer (some ⟨g, 0, none⟩), .string (bstr x)] w fun e w' => e = .returned (.int .i64 (syncD d x).2) ∧ On S w1 w' g (syncD d x).1 (k + 1) :=
  (sync_any w h.dsk (h.cnt hk) x hx).mono (fun e w' hd => h.did (Keeps.refl _) hd (few_sync h.few x))
theorem rename_on (h : On S w1 w g d k) (hk : k ≤ 90000) (x y : Str) (hx : x.length ≤ 9000000000000000000) (hy : y.length ≤ 9000000000000000000) : Calls Tryz.prog 106 #[.pointer (some ⟨g, 0, none⟩), .string (bstr x), .string (bstr y)] w fun e w' => e = .returned (.int .i64 (renameD d x y).2) ∧ On S w1 w' g (renameD d x y).1 (k + 1) :=
  (rename_any w h.dsk (h.cnt hk) x y hx hy (by have := h.few.m; omega)).mono (fun e w' hd => h.did (Keeps.refl _) hd (few_rename h.few x y))
theorem unlink_on (h : On S w1 w g d k) (hk : k ≤ 90000) (x : Str) (hx : x.length ≤ maxLen) : Calls Tryz.prog 102 #[.pointer (some ⟨g, 0, none⟩), .string (bstr x)] w fun e w' => e = .returned (.int .i64 (unlinkD d x).2) ∧ On S w1 w' g (unlinkD d x).1 (k + 1) :=
  (unlink_any w h.dsk (h.cnt hk) x hx (by have := h.few.m; omega)).mono (fun e w' hd => h.did (Keeps.refl _) hd (few_unlink h.few x))
theorem syncDir_on (h : On S w1 w g d k) (hk : k ≤ 90000) : Calls Tryz.prog 73 #[.pointer (some ⟨g, 0, none⟩)] w fun e w' => e = .returned (.int .i64 (syncDirD d).2) ∧ On S w1 w' g (syncDirD d).1 (k + 1) :=
  (syncDir_any w h.dsk (h.cnt hk) (by have := h.few.n; omega)).mono (fun e w' hd => h.did (Keeps.refl _) hd (few_syncDir h.few))
/-- the law's side -/
theorem At.on {W : World} (h : At W w g d k) : On (fun _ => False) W w g d k :=
  ⟨h.dsk.wide (fun y hy => .inr hy), Mods.of_keeps h.keep, h.few, fun y hy => hy.elim⟩
theorem On.at_ {W : World} (h : On (fun _ => False) W w g d k) : At W w g d k :=
  ⟨h.dsk.wide (fun y hy => hy.elim (fun hh => hh.elim) id), h.mods.keeps (Keeps.refl _) (fun y hy => hy.elim), h.few⟩
theorem size_any (w : World) (h : DiskAt w S g d) (x : Str) (hx : x.length ≤ maxLen) : Calls Tryz.prog 109 #[.pointer (some ⟨g, 0, none⟩), .string (bstr x)] w fun e w' => e = .returned (.tuple #[.int .i64 ((textD d x).1.length : Int), .int .i64 (textD d x).2]) ∧ w = w' := by
  have HT := Lib.hid (text_any w h x hx)
  have hsz := bstr_size (textD d x).1
  clear h
  generalize textD d x = r at *
  obtain ⟨s, er⟩ := r
  simp only at HT hsz
  go_enter Tryz.func109, Tryz.ntmps109
  go_wp2_with fail
  refine HT.out.mono ?_
  rintro e w2 ⟨rfl, rfl⟩
  go_wp2_with fail
  go_ret2
  exact ⟨rfl, rfl⟩
end
end Vd
end Go.Proofs.YtchjncnolmiejaaGreat

/- Disk.Pwrite. -/
namespace Go.Proofs.YtchjncnolmiejaaGreat
open Go.RowKit
namespace Vd
open Go.Maps
end Vd
end Go.Proofs.YtchjncnolmiejaaGreat

/- The document's disk: find, without. -/
namespace Go.Proofs.YtchjncnolmiejaaGreat
open Go.RowKit
namespace Rf
open Vd
def enA (p : Str × Nat) : Array Value := #[.string (bstr p.1), .int .i64 (p.2 : Int)]
def enC (p : Str × Nat) : List Value := (enA p).toList
theorem enC_len (p : Str × Nat) : (enC p).length = 2 := rfl
theorem enM : Mids Tryz.prog 96 2 := ⟨⟨_, Tryz.underlying96, rfl⟩, by kernel_rfl⟩
theorem enok : ElemOkS Tryz.prog 56 96 2 24 := elemOkS (z := .agg #[.string (bstr []), .int .i64 0]) Tryz.underlying56 (by kernel_rfl) rfl
/-- names, as the document's disk has them -/
def NmsAt (w : World) (v : Value) (l : Nms) : Prop := RowS w 2 v l.length (l.flatMap enC)
theorem NmsAt.keeps {w w' : World} {v : Value} {l : Nms} (h : NmsAt w v l) (k : Keeps w w') : NmsAt w' v l := RowS.keeps h k
theorem NmsAt.one {w : World} {v : Value} {l : Nms} (h : NmsAt w v l) {j : Nat} (hj : j < l.length) : ∃ b off cap, v = .slice (some ⟨b, off, none⟩) l.length cap ∧ w.rangeAt b (off + j * 2) (enA l[j]).toList ∧ w.cell? ⟨b, off + j * 2, none⟩ = some (.string (bstr l[j].1)) ∧ w.cell? ⟨b, off + j * 2 + 1, none⟩ = some (.int .i64 (l[j].2 : Int)) := by
  obtain ⟨b, off, cap, hv, -, -, hc⟩ := RowS.at_ h (by omega)
  have hr : w.rangeAt b (off + j * 2) (enA l[j]).toList := fun i x hx => by
    have hi : i < 2 := by
      have := (List.getElem?_eq_some_iff.1 hx).1
      simpa [enA] using this
    rw [Nat.add_assoc]
    refine hc.out (j * 2 + i) x ?_
    rw [flat_get enC_len l j i _ (List.getElem?_eq_getElem hj) hi]
    exact hx
  exact ⟨b, off, cap, hv, hr, hr 0 _ rfl, hr 1 _ rfl⟩
def findR (l : Nms) (x : Str) : Int := match Vd.look l x with
  | none => -1
  | some i => i
theorem look_cons (p : Str × Nat) (l : Nms) (x : Str) : Vd.look (p :: l) x = if p.1 = x then some p.2 else Vd.look l x := by
  unfold Vd.look
  rw [List.find?_cons]
  by_cases h : p.1 = x
  · simp [h]
  · simp [h]
set_option maxRecDepth 100000 in
set_option maxHeartbeats 2000000 in
theorem find_r (w : World) {v : Value} {l : Nms} (h : NmsAt w v l) (x : Str) : Calls Tryz.prog 38 #[v, .string (bstr x)] w fun e w' => e = .returned (.int .i64 (findR l x)) ∧ w = w' := by
  have H := Lib.hid h
  obtain ⟨p, c, rfl, hl1, hl2⟩ := RowS.form h
  clear h
  obtain ⟨n, hn⟩ : ∃ n, n = l.length := ⟨_, rfl⟩
  rw [← hn] at hl1 ⊢
  have HN := Lib.hid hn
  clear hn
  go_enter Tryz.func38, Tryz.ntmps38
  go_wp2_with fail
  go_loopw [5] (fun ix wr => ∃ j : Nat, ix = .int .i64 (j : Int) ∧ j ≤ n ∧ wr = w ∧ Hid (Vd.look (l.drop j) x = Vd.look l x)) (fun ix _ => n - (RowKit.intOf ix).toNat)
  case atStart => exact ⟨0, rfl, Nat.zero_le _, rfl, Lib.hid rfl⟩
  case round =>
    obtain ⟨j, rfl, hj, rfl, HL⟩ := hrel
    by_cases hlt : j < n
    · have hjl : j < l.length := by rw [← HN.out]; exact hlt
      obtain ⟨b, off, cap, hv, -, hc0, hc1⟩ := NmsAt.one H.out hjl
      rw [← HN.out] at hv
      simp only [Value.slice.injEq] at hv
      obtain ⟨rfl, -, rfl⟩ := hv
      have HST := Lib.hid (show Vd.look (l.drop j) x = if l[j].1 = x then some l[j].2 else Vd.look (l.drop (j + 1)) x from by rw [List.drop_eq_getElem_cons hjl, look_cons])
      have hlt' : (j : Int) < (n : Int) := by omega
      generalize l[j].1 = y at *
      generalize l[j].2 = i at *
      have e1 := bstr_toList y
      have e2 := bstr_toList x
      by_cases hyx : y = x
      · have HX := Lib.hid (show findR l x = (i : Int) from by unfold findR; rw [← HL.out, HST.out, if_pos hyx])
        have hb : ((bstr y).toList == (bstr x).toList) = true := by rw [e1, e2]; simpa using hyx
        have hb2 : (y == x) = true := by simpa using hyx
        clear hyx HST hjl
        go_wp2_with fail
        go_ret
        exact ⟨by rw [HX.out]; rfl, rfl⟩
      · have HX := Lib.hid (show Vd.look (l.drop (j + 1)) x = Vd.look l x from by rw [← HL.out, HST.out, if_neg hyx])
        have hb : ((bstr y).toList == (bstr x).toList) = false := by rw [e1, e2]; simpa using hyx
        have hb2 : (y == x) = false := by simpa using hyx
        clear hyx HST hjl HL
        go_wp2_with fail
        go_roundw
        case rel => exact ⟨j + 1, by simp, by omega, trivial, HX⟩
        case measure =>
          simp only [RowKit.intOf]
          omega
    · have hjn : j = n := by omega
      have HX := Lib.hid (show findR l x = -1 from by
        unfold findR
        rw [← HL.out, hjn, HN.out, List.drop_length]
        rfl)
      have hlt' : decide ((j : Int) < (n : Int)) = false := by simp; omega
      clear HL hjn
      go_wp2_with fail
      go_ret
      exact ⟨by rw [HX.out]; rfl, rfl⟩
/-- names in a slice of a call's own -/
def NmsOwn (w : World) (base : Nat) (v : Value) (l : Nms) : Prop := w.ownsRow base 96 2 v l.length (l.flatMap enC)
theorem rowS_of {w : World} {base C n : Nat} {e : TypeId} {v : Value} {xs : List Value} (h : w.ownsRow base e C v n xs) : RowS w C v n xs := by
  have h0 := h
  refine ⟨h.1, ?_⟩
  rcases h.2 with ⟨rfl, h9⟩ | ⟨g, cap, cur, rfl, h1, h2, h3, h4, h5, h6⟩
  · exact .inl ⟨none, 0, rfl, h9, Nat.zero_le _, fun _ => rfl⟩
  · refine .inr ⟨g, 0, cap, rfl, h3, h4, fun i x hx => ?_⟩
    have := World.ownsRow.cells (h := h0) (g := g) rfl i x hx
    rw [Go.WideShapes.add_plain] at this
    exact this
theorem NmsOwn.at_ {w : World} {base : Nat} {v : Value} {l : Nms} (h : NmsOwn w base v l) : NmsAt w v l := rowS_of h
def OwnDid (W : World) (l : Nms) (e : Ending) (w' : World) : Prop := ∃ v, e = .returned v ∧ NmsOwn w' W.heap.size v l ∧ Keeps W w'
theorem without_succ {l : Nms} {x : Str} {j : Nat} (h : j < l.length) : withoutL (l.take (j + 1)) x = if l[j].1 = x then withoutL (l.take j) x else withoutL (l.take j) x ++ [l[j]] := by
  unfold withoutL
  rw [List.take_succ_eq_append_getElem h, List.filter_append]
  split <;> simp [*]
set_option maxRecDepth 100000 in
set_option maxHeartbeats 2000000 in
theorem without_r (w : World) {v : Value} {l : Nms} (h : NmsAt w v l) (x : Str) (hll : l.length ≤ 1000000000) : Calls Tryz.prog 85 #[v, .string (bstr x)] w (OwnDid w (withoutL l x)) := by
  have H := Lib.hid h
  obtain ⟨p, c, rfl, hl1, hl2⟩ := RowS.form h
  clear h
  obtain ⟨n, hn⟩ : ∃ n, n = l.length := ⟨_, rfl⟩
  rw [← hn] at hl1 hll ⊢
  have HN := Lib.hid hn
  clear hn
  unfold OwnDid
  go_enter Tryz.func85, Tryz.ntmps85
  go_wp2_with fail
  go_loopw [5, 6] (fun ov ix wr => ∃ (j k : Nat) (po : Option Addr) (co : Nat), ix = .int .i64 (j : Int) ∧ j ≤ n ∧ ov = .slice po k co ∧ k ≤ j ∧ Hid (k = (withoutL (l.take j) x).length ∧ NmsOwn wr w.heap.size (.slice po k co) (withoutL (l.take j) x) ∧ Keeps w wr)) (fun _ ix _ => n - (RowKit.intOf ix).toNat)
  case atStart => exact ⟨0, 0, none, 0, rfl, Nat.zero_le _, rfl, Nat.le_refl _, Lib.hid ⟨rfl, World.ownsRow_nil _ _ _ 2, Keeps.refl _⟩⟩
  case round =>
    obtain ⟨j, k, po, co, rfl, hj, rfl, hkj, HL⟩ := hrel
    by_cases hlt : j < n
    · have hjl : j < l.length := by rw [← HN.out]; exact hlt
      obtain ⟨b, off, cap, hv, hrg, hc0, hc1⟩ := NmsAt.one (H.out.keeps HL.out.2.2) hjl
      rw [← HN.out] at hv
      simp only [Value.slice.injEq] at hv
      obtain ⟨rfl, -, rfl⟩ := hv
      have HST := Lib.hid (without_succ (x := x) hjl)
      have hlt' : (j : Int) < (n : Int) := by omega
      obtain ⟨y, i, hyi⟩ : ∃ y i, l[j] = (y, i) := ⟨_, _, rfl⟩
      rw [hyi] at HST hrg hc0 hc1
      have HRG := Lib.hid (show wr.rangeAt b (off + j * 2) [.string (bstr y), .int .i64 (i : Int)] from hrg)
      have HOW := Lib.hid (show wr.ownsRow w.heap.size 96 2 (.slice po k co) k ((withoutL (l.take j) x).flatMap enC) from by have := HL.out.2.1; unfold NmsOwn at this; rw [← HL.out.1] at this; exact this)
      have HK := Lib.hid HL.out.2.2
      have HKL := Lib.hid HL.out.1
      have hsz := HL.out.2.2.size
      have e1 := bstr_toList y
      have e2 := bstr_toList x
      clear hyi hrg hjl hc1 HL
      by_cases hyx : y = x
      · have HX := Lib.hid (HST.out.trans (if_pos hyx))
        have hb : (!(bstr y).toList == (bstr x).toList) = false := by rw [e1, e2]; simpa using hyx
        have hb2 : (y == x) = true := by simpa using hyx
        clear hyx HST
        go_wp2_with fail
        go_roundw
        case rel => exact ⟨j + 1, k, po, co, by simp, by omega, rfl, by omega, Lib.hid ⟨by rw [HX.out]; exact HKL.out, by rw [HX.out]; unfold NmsOwn; rw [← HKL.out]; exact HOW.out, HK.out⟩⟩
        case measure =>
          simp only [RowKit.intOf]
          omega
      · have HX := Lib.hid (HST.out.trans (if_neg hyx))
        have hb : (!(bstr y).toList == (bstr x).toList) = true := by rw [e1, e2]; simpa using hyx
        have hb2 : (y == x) = false := by simpa using hyx
        clear hyx HST
        go_wp2_with (first
          | refine wpList_ldR rfl enM HRG.out _ rfl rfl ?_
          | (at_builtin; go_loud (refine wpList_apps (base := w.heap.size) enok (by decide) rfl _ _ rfl (.slice po k co) (.slice (some ⟨wr.heap.size, 0, none⟩) 1 1) k 1 ((withoutL (l.take j) x).flatMap enC) [.string (bstr y), .int .i64 (i : Int)] rfl rfl (Frm.ownsRow_keeps HOW.out ((Keeps.refl _).alloc _)) (Frm.rowS_lit rfl rfl rfl) (by simp [Value.oneCell']) (by omega) (by decide) (by rw [Frm.alloc_size]; omega) ?_; intro v' w4 ho4 hg4 hf4; obtain ⟨p4, c4, rfl, -, -⟩ := Frm.ownsRow_form ho4)))
        go_roundw
        case rel =>
          refine ⟨j + 1, k + 1, p4, c4, by simp, by omega, rfl, by omega, Lib.hid ⟨by rw [HX.out]; simp [HKL.out], ?_, (HK.out.alloc _).grown hg4 (Frm.ownsRow_base HOW.out)⟩⟩
          rw [HX.out]
          unfold NmsOwn
          simpa [← HKL.out, enC, enA] using ho4
        case measure =>
          simp only [RowKit.intOf]
          omega
    · have hjn : j = n := by omega
      have hlt' : decide ((j : Int) < (n : Int)) = false := by simp; omega
      have HF := Lib.hid (show NmsOwn wr w.heap.size (.slice po k co) (withoutL l x) from by have := HL.out.2.1; rwa [hjn, HN.out, List.take_length] at this)
      have HK := Lib.hid HL.out.2.2
      clear HL hjn
      go_wp2_with fail
      go_ret
      exact ⟨_, rfl, HF.out, HK.out⟩
end Rf
end Go.Proofs.YtchjncnolmiejaaGreat

/- The document's disk: put. -/
namespace Go.Proofs.YtchjncnolmiejaaGreat
open Go.RowKit
namespace Rf
open Vd
theorem bl_eq : ∀ (x y : Str), Op.bytesLess x y = decide (x < y)
  | [], [] => by simp [Op.bytesLess]
  | _ :: _, [] => by simp [Op.bytesLess]
  | [], _ :: _ => by simp [Op.bytesLess]
  | a :: x, b :: y => by
    rw [Op.bytesLess, bl_eq x y, Bool.eq_iff_iff]
    simp only [Bool.or_eq_true, decide_eq_true_eq, Bool.and_eq_true, beq_iff_eq, List.cons_lt_cons_iff]
theorem gt_eq (x y : Str) : (!Op.bytesLess y x && !y == x) = decide (x < y) := by
  rw [bl_eq]
  rcases str_tri x y with h | h | h
  · have h1 : ¬ y < x := fun h2 => str_irrefl _ (str_trans h h2)
    have h2 : ¬ y = x := (str_ne h).symm
    simp [h, h1, h2]
  · subst h
    simp [str_irrefl]
  · have h1 : ¬ x < y := fun h2 => str_irrefl _ (str_trans h h2)
    simp [h, h1]
theorem put_eq {l : Nms} (ha : AscN l) {x : Str} {i k : Nat} (hk : k ≤ (withoutL l x).length) (h1 : ∀ j (h : j < (withoutL l x).length), k ≤ j → x < (withoutL l x)[j].1) (h2 : ∀ h : 0 < k, ¬ x < ((withoutL l x)[k - 1]'(by omega)).1) : (withoutL l x).take k ++ [(x, i)] ++ (withoutL l x).drop k = putN l x i := by
  have hasc : AscN (withoutL l x) := ha.filter _
  have hne : ∀ p ∈ withoutL l x, p.1 ≠ x := fun p hp => by simpa [withoutL] using (List.mem_filter.1 hp).2
  have hlt : ∀ p ∈ (withoutL l x).take k, p.1 < x := fun p hp => by
    obtain ⟨j, hj, rfl⟩ := List.mem_iff_getElem.1 hp
    have hjk : j < k := by simp at hj; omega
    rw [List.getElem_take]
    have hjl : j < (withoutL l x).length := by omega
    have hkx : ((withoutL l x)[k - 1]'(by omega)).1 < x := by
      rcases str_tri ((withoutL l x)[k - 1]'(by omega)).1 x with h | h | h
      · exact h
      · exact absurd h (hne _ (List.getElem_mem _))
      · exact absurd h (h2 (by omega))
    by_cases he : j = k - 1
    · subst he; exact hkx
    · exact str_trans (List.pairwise_iff_getElem.1 hasc j (k - 1) hjl (by omega) (by omega)) hkx
  have hgt : ∀ p ∈ (withoutL l x).drop k, x < p.1 := fun p hp => by
    obtain ⟨j, hj, rfl⟩ := List.mem_iff_getElem.1 hp
    rw [List.getElem_drop]
    exact h1 _ (by simp at hj; omega) (by omega)
  have e1 : l.filter (fun p => decide (p.1 < x)) = (withoutL l x).take k := by
    have : l.filter (fun p => decide (p.1 < x)) = (withoutL l x).filter (fun p => decide (p.1 < x)) := by
      unfold withoutL
      rw [List.filter_filter]
      refine List.filter_congr fun p _ => ?_
      by_cases h : p.1 < x
      · simp [h, str_ne h]
      · simp [h]
    rw [this]
    conv => lhs; rw [← List.take_append_drop k (withoutL l x), List.filter_append]
    rw [List.filter_eq_self.2 (fun p hp => by simpa using hlt p hp), List.filter_eq_nil_iff.2 (fun p hp => by
      have := hgt p hp
      simp only [decide_eq_true_eq]
      exact fun h => str_irrefl _ (str_trans h this)), List.append_nil]
  have e2 : l.filter (fun p => decide (x < p.1)) = (withoutL l x).drop k := by
    have : l.filter (fun p => decide (x < p.1)) = (withoutL l x).filter (fun p => decide (x < p.1)) := by
      unfold withoutL
      rw [List.filter_filter]
      refine List.filter_congr fun p _ => ?_
      by_cases h : x < p.1
      · simp [h, (str_ne h).symm]
      · simp [h]
    rw [this]
    conv => lhs; rw [← List.take_append_drop k (withoutL l x), List.filter_append]
    rw [List.filter_eq_nil_iff.2 (fun p hp => by
      have := hlt p hp
      simp only [decide_eq_true_eq]
      exact fun h => str_irrefl _ (str_trans h this)), List.filter_eq_self.2 (fun p hp => by simpa using hgt p hp), List.nil_append]
  unfold putN
  rw [e1, e2]
  simp
theorem put_eq' {l : Nms} (ha : AscN l) {x : Str} {i : Nat} (k : Nat) (hk : k ≤ (withoutL l x).length) (h1 : ∀ j p, (withoutL l x)[j]? = some p → k ≤ j → x < p.1) (h2 : ∀ p, 0 < k → (withoutL l x)[k - 1]? = some p → ¬ x < p.1) : (withoutL l x).take k ++ [(x, i)] ++ (withoutL l x).drop k = putN l x i :=
  put_eq ha hk (fun j h hj => h1 j _ (List.getElem?_eq_getElem h) hj) (fun h => h2 _ h (List.getElem?_eq_getElem (by omega)))
theorem enA_flat (l : Nms) : ∀ u ∈ l.flatMap enC, u.oneCell' = true := fun u hu => by
  obtain ⟨p, -, hp⟩ := List.mem_flatMap.1 hu
  simp [enC, enA] at hp
  rcases hp with rfl | rfl <;> rfl
set_option maxRecDepth 100000 in
set_option maxHeartbeats 4000000 in
theorem put_r (w : World) {v : Value} {l : Nms} (h : NmsAt w v l) (ha : AscN l) (x : Str) (i : Nat) (hll : l.length ≤ 1000000000) : Calls Tryz.prog 39 #[v, .agg #[.string (bstr x), .int .i64 (i : Int)]] w (OwnDid w (putN l x i)) := by
  have HW := Lib.hid (fun w' (k : Keeps w w') => without_r w' (h.keeps k) x hll)
  have HPE := Lib.hid (put_eq' (i := i) ha (x := x))
  have hl1 : (withoutL l x).length ≤ 1000000000 := Nat.le_trans (List.length_filter_le _ _) hll
  obtain ⟨p, c, rfl, -, -⟩ := RowS.form h
  clear h
  unfold OwnDid
  generalize putN l x i = res at *
  generalize withoutL l x = L at *
  go_enter Tryz.func39, Tryz.ntmps39
  go_upto_region 1 with fail
  generalize hWW : World.alloc w _ = w1
  have HK1 := Lib.hid (show Keeps w w1 from by rw [← hWW]; exact (Keeps.refl _).alloc _)
  have HB := Lib.hid (show Blk w1 w.heap.size 96 (enA (x, i)) from by rw [← hWW]; exact Blk.new _ _ _ rfl)
  have HC1 := Lib.hid (HW.out w1 HK1.out)
  clear hWW
  obtain ⟨q, hq⟩ : ∃ q, q = w.heap.size := ⟨_, rfl⟩
  rw [← hq] at HB ⊢
  have HQ := Lib.hid hq
  clear hq HW
  have b0 : w1.cell? ⟨q, 0, none⟩ = some (.string (bstr x)) := by rw [HB.out.cell]; rfl
  have b1 : w1.cell? ⟨q, 1, none⟩ = some (.int .i64 (i : Int)) := by rw [HB.out.cell]; rfl
  unfold OwnDid at HC1
  go_wp2_with fail
  refine HC1.out.mono ?_
  rintro e w2 ⟨lv, rfl, ho, hk⟩
  obtain ⟨pl, cl, rfl, hcl1, hcl2⟩ := Frm.ownsRow_form ho
  have HO := Lib.hid ho
  have HK2 := Lib.hid (HK1.out.trans hk)
  have HB2 := Lib.hid (HB.out.keeps hk)
  clear ho hk HC1 b0 b1 HB HK1
  obtain ⟨n, hn⟩ : ∃ n, n = L.length := ⟨_, rfl⟩
  have HNN := Lib.hid hn
  rw [← hn] at hl1 hcl1 ⊢
  clear hn
  go_upto_block 0 with fail
  go_cut [5] (fun kx wx => ∃ k : Nat, kx = .int .i64 (k : Int) ∧ k ≤ n ∧ Hid (Keeps w2 wx ∧ L.take k ++ [(x, i)] ++ L.drop k = res))
  case first =>
    go_wp2_with fail
    go_loopw [5] (fun kx wr => ∃ k : Nat, kx = .int .i64 (k : Int) ∧ k ≤ n ∧ Hid (Keeps w2 wr ∧ ∀ j p, L[j]? = some p → k ≤ j → x < p.1)) (fun kx _ => (RowKit.intOf kx).toNat)
    case atStart => exact ⟨n, rfl, Nat.le_refl _, Lib.hid ⟨Keeps.refl _, fun j p h hk => by have := (List.getElem?_eq_some_iff.1 h).1; rw [HNN.out] at hk; omega⟩⟩
    case round =>
      obtain ⟨k, rfl, hk, HR⟩ := hrel
      by_cases hkp : 0 < k
      · have hkl : k - 1 < L.length := by rw [← HNN.out]; omega
        obtain ⟨b, off, cap, hv, -, hc0, -⟩ := NmsAt.one ((NmsOwn.at_ HO.out).keeps HR.out.1) hkl
        rw [← HNN.out] at hv
        simp only [Value.slice.injEq] at hv
        obtain ⟨rfl, -, rfl⟩ := hv
        obtain ⟨y, hy⟩ : ∃ y, y = L[k - 1].1 := ⟨_, rfl⟩
        rw [← hy] at hc0
        have HY := Lib.hid (show ∀ p, L[k - 1]? = some p → p.1 = y from fun p hp => by rw [hy, List.getElem?_eq_getElem hkl] at *; cases hp; rfl)
        obtain ⟨k1, hk1⟩ : ∃ k1, k = k1 + 1 := ⟨k - 1, by omega⟩
        subst hk1
        have hb0 : wr.cell? ⟨q, 0, none⟩ = some (.string (bstr x)) := by rw [(HB2.out.keeps HR.out.1).cell]; rfl
        have hw1 : IntKind.i64.wrap (((k1 + 1 : Nat) : Int) - 1) = (k1 : Int) := by rw [IntKind.wrap_i64]; omega
        have hw2 : IntKind.i64.wrap (k1 : Int) = (k1 : Int) := by rw [IntKind.wrap_i64]; omega
        have hkn : (k1 : Int) < (n : Int) := by omega
        rw [Nat.add_sub_cancel] at hc0 HY
        have e1 := bstr_toList y
        have e2 := bstr_toList x
        have hgt := gt_eq x y
        have HKE := Lib.hid (Keeps.refl wr).drew
        clear hkl hy
        by_cases hlt : x < y
        · have HG := Lib.hid (show ∀ j p, L[j]? = some p → k1 ≤ j → x < p.1 from fun j p hp hj => by
            by_cases he : j = k1
            · subst he; rw [HY.out p hp]; exact hlt
            · exact HR.out.2 j p hp (by omega))
          rw [decide_eq_true hlt] at hgt
          clear hlt
          go_upto_region 3 with fail
          refine wp_region_noPanic ?_
          refine wp_region_held_drew (S := fun w' => Keeps (wr) w') (by kernel_rfl) ((Keeps.refl _).drew) (fun _ => ?_)
          have hHeld : Keeps (wr) (wr).drew := (Keeps.refl _).drew
          refine wpAnyH_take (i := 0) (v := ?vv1) (by rfl) (by kernel_rfl) (by kernel_rfl) (by kernel_rfl) (by intro _ _ _ h; exact h) (Or.inl ⟨by kernel_rfl, ?hy1⟩) (by assumption) ?rest1
          case hy1 =>
            intro w' hSw
            have hSw : Keeps _ w' := hSw
            clear hSw
            go_simp
            try with_reducible rfl
          change wpAnyH _ _ _ _ _ _ _ (Act.put _ (some 13) _) _
          try simp only [Act.put, List.setIfInBounds_toArray, List.set_cons_zero, List.set_cons_succ]
          refine wpAnyH_take (i := 1) (v := ?vv2) (by rfl) (by kernel_rfl) (by kernel_rfl) (by kernel_rfl) (by intro _ _ _ h; exact h) (Or.inl ⟨by kernel_rfl, ?hy2⟩) (by assumption) ?rest2
          case hy2 =>
            intro w' hSw
            have hSw : Keeps _ w' := hSw
            clear hSw
            go_simp
            try with_reducible rfl
          change wpAnyH _ _ _ _ _ _ _ (Act.put _ (some 14) _) _
          try simp only [Act.put, List.setIfInBounds_toArray, List.set_cons_zero, List.set_cons_succ]
          refine wpAnyH_take (i := 2) (v := ?vv3) (by rfl) (by kernel_rfl) (by kernel_rfl) (by kernel_rfl) (by intro _ _ _ h; exact h) (Or.inl ⟨by kernel_rfl, ?hy3⟩) (by assumption) ?rest3
          case hy3 =>
            intro w' hSw
            have hSw : Keeps _ w' := hSw
            clear hSw
            go_simp
            try with_reducible rfl
          change wpAnyH _ _ _ _ _ _ _ (Act.put _ (some 15) _) _
          try simp only [Act.put, List.setIfInBounds_toArray, List.set_cons_zero, List.set_cons_succ]
          refine wpAnyH_take (i := 3) (v := ?vv4) (by rfl) (by kernel_rfl) (by kernel_rfl) (by kernel_rfl) (by intro _ _ _ h; exact h) (Or.inl ⟨by kernel_rfl, ?hy4⟩) (by assumption) ?rest4
          case hy4 =>
            intro w' hSw
            have hSw : Keeps _ w' := hSw
            clear hSw
            go_simp
            try with_reducible rfl
          change wpAnyH _ _ _ _ _ _ _ (Act.put _ (some 16) _) _
          try simp only [Act.put, List.setIfInBounds_toArray, List.set_cons_zero, List.set_cons_succ]
          refine wpAnyH_take (i := 4) (v := ?vv5) (by rfl) (by kernel_rfl) (by kernel_rfl) (by kernel_rfl) (by intro _ _ _ h; exact h) (Or.inl ⟨by kernel_rfl, ?hy5⟩) (by assumption) ?rest5
          case hy5 =>
            intro w' hSw
            have hSw : Keeps _ w' := hSw
            clear hSw
            go_simp
            try with_reducible rfl
          change wpAnyH _ _ _ _ _ _ _ (Act.put _ (some 17) _) _
          try simp only [Act.put, List.setIfInBounds_toArray, List.set_cons_zero, List.set_cons_succ]
          refine wpAnyH_take (i := 5) (v := ?vv6) (by rfl) (by kernel_rfl) (by kernel_rfl) (by kernel_rfl) (by intro _ _ _ h; exact h) (Or.inl ⟨by kernel_rfl, ?hy6⟩) (by assumption) ?rest6
          case hy6 =>
            intro w' hSw
            have hSw : Keeps _ w' := hSw
            clear hSw
            go_simp
            try with_reducible rfl
          change wpAnyH _ _ _ _ _ _ _ (Act.put _ (some 18) _) _
          try simp only [Act.put, List.setIfInBounds_toArray, List.set_cons_zero, List.set_cons_succ]
          refine wpAnyH_take (i := 6) (v := ?vv7) (by rfl) (by kernel_rfl) (by kernel_rfl) (by kernel_rfl) (by intro _ _ _ h; exact h) (Or.inl ⟨by kernel_rfl, ?hy7⟩) (by assumption) ?rest7
          case hy7 =>
            intro w' hSw
            have hSw : Keeps _ w' := hSw
            clear hSw
            go_simp
            try with_reducible rfl
          change wpAnyH _ _ _ _ _ _ _ (Act.put _ (some 19) _) _
          try simp only [Act.put, List.setIfInBounds_toArray, List.set_cons_zero, List.set_cons_succ]
          refine wpAnyH_take (i := 7) (v := ?vv8) (by rfl) (by kernel_rfl) (by kernel_rfl) (by kernel_rfl) (by intro _ _ _ h; exact h) (Or.inl ⟨by kernel_rfl, ?hy8⟩) (by assumption) ?rest8
          case hy8 =>
            intro w' hSw
            have hSw : Keeps _ w' := hSw
            clear hSw
            go_simp
            try with_reducible rfl
          change wpAnyH _ _ _ _ _ _ _ (Act.put _ (some 20) _) _
          try simp only [Act.put, List.setIfInBounds_toArray, List.set_cons_zero, List.set_cons_succ]
          refine wpAnyH_take (i := 8) (v := ?vv9) (by rfl) (by kernel_rfl) (by kernel_rfl) (by kernel_rfl) (by intro _ _ _ h; exact h) (Or.inl ⟨by kernel_rfl, ?hy9⟩) (by assumption) ?rest9
          case hy9 =>
            intro w' hSw
            have hSw : Keeps _ w' := hSw
            have hx := keep1 hSw hc0
            clear hSw
            go_simp
            try with_reducible rfl
          change wpAnyH _ _ _ _ _ _ _ (Act.put _ (some 21) _) _
          try simp only [Act.put, List.setIfInBounds_toArray, List.set_cons_zero, List.set_cons_succ]
          refine wpAnyH_take (i := 9) (v := ?vv10) (by rfl) (by kernel_rfl) (by kernel_rfl) (by kernel_rfl) (by intro _ _ _ h; exact h) (Or.inl ⟨by kernel_rfl, ?hy10⟩) (by assumption) ?rest10
          case hy10 =>
            intro w' hSw
            have hSw : Keeps _ w' := hSw
            clear hSw
            go_simp
            try with_reducible rfl
          change wpAnyH _ _ _ _ _ _ _ (Act.put _ (some 22) _) _
          try simp only [Act.put, List.setIfInBounds_toArray, List.set_cons_zero, List.set_cons_succ]
          refine wpAnyH_take (i := 10) (v := ?vv11) (by rfl) (by kernel_rfl) (by kernel_rfl) (by kernel_rfl) (by intro _ _ _ h; exact h) (Or.inl ⟨by kernel_rfl, ?hy11⟩) (by assumption) ?rest11
          case hy11 =>
            intro w' hSw
            have hSw : Keeps _ w' := hSw
            have hx := keep1 hSw hb0
            clear hSw
            go_simp
            try with_reducible rfl
          change wpAnyH _ _ _ _ _ _ _ (Act.put _ (some 23) _) _
          try simp only [Act.put, List.setIfInBounds_toArray, List.set_cons_zero, List.set_cons_succ]
          refine wpAnyH_take (i := 11) (v := ?vv12) (by rfl) (by kernel_rfl) (by kernel_rfl) (by kernel_rfl) (by intro _ _ _ h; exact h) (Or.inl ⟨by kernel_rfl, ?hy12⟩) (by assumption) ?rest12
          case hy12 =>
            intro w' hSw
            have hSw : Keeps _ w' := hSw
            clear hSw
            go_simp
            try with_reducible rfl
          change wpAnyH _ _ _ _ _ _ _ (Act.put _ (some 24) _) _
          try simp only [Act.put, List.setIfInBounds_toArray, List.set_cons_zero, List.set_cons_succ]
          refine wpAnyH_take (i := 12) (v := ?vv13) (by rfl) (by kernel_rfl) (by kernel_rfl) (by kernel_rfl) (by intro _ _ _ h; exact h) (Or.inl ⟨by kernel_rfl, ?hy13⟩) (by assumption) ?rest13
          case hy13 =>
            intro w' hSw
            have hSw : Keeps _ w' := hSw
            clear hSw
            go_simp
            try with_reducible rfl
          change wpAnyH _ _ _ _ _ _ _ (Act.put _ (some 25) _) _
          try simp only [Act.put, List.setIfInBounds_toArray, List.set_cons_zero, List.set_cons_succ]
          refine wpAnyH_done (by kernel_rfl) ?_ _
          refine NoPanic.normal ?_
          go_wp2_with fail
          go_roundw
          case rel => exact ⟨k1, by simp, by omega, Lib.hid ⟨HR.out.1.trans HKE.out, HG.out⟩⟩
          case measure =>
            simp [RowKit.intOf]
        · have HF := Lib.hid (HPE.out (k1 + 1) (by rw [← HNN.out]; exact hk) HR.out.2 (fun p _ hp => by rw [Nat.add_sub_cancel] at hp; rw [HY.out p hp]; exact hlt))
          rw [decide_eq_false hlt] at hgt
          clear hlt
          go_upto_region 3 with fail
          refine wp_region_noPanic ?_
          refine wp_region_held_drew (S := fun w' => Keeps (wr) w') (by kernel_rfl) ((Keeps.refl _).drew) (fun _ => ?_)
          have hHeld : Keeps (wr) (wr).drew := (Keeps.refl _).drew
          refine wpAnyH_take (i := 0) (v := ?vv14) (by rfl) (by kernel_rfl) (by kernel_rfl) (by kernel_rfl) (by intro _ _ _ h; exact h) (Or.inl ⟨by kernel_rfl, ?hy14⟩) (by assumption) ?rest14
          case hy14 =>
            intro w' hSw
            have hSw : Keeps _ w' := hSw
            clear hSw
            go_simp
            try with_reducible rfl
          change wpAnyH _ _ _ _ _ _ _ (Act.put _ (some 13) _) _
          try simp only [Act.put, List.setIfInBounds_toArray, List.set_cons_zero, List.set_cons_succ]
          refine wpAnyH_take (i := 1) (v := ?vv15) (by rfl) (by kernel_rfl) (by kernel_rfl) (by kernel_rfl) (by intro _ _ _ h; exact h) (Or.inl ⟨by kernel_rfl, ?hy15⟩) (by assumption) ?rest15
          case hy15 =>
            intro w' hSw
            have hSw : Keeps _ w' := hSw
            clear hSw
            go_simp
            try with_reducible rfl
          change wpAnyH _ _ _ _ _ _ _ (Act.put _ (some 14) _) _
          try simp only [Act.put, List.setIfInBounds_toArray, List.set_cons_zero, List.set_cons_succ]
          refine wpAnyH_take (i := 2) (v := ?vv16) (by rfl) (by kernel_rfl) (by kernel_rfl) (by kernel_rfl) (by intro _ _ _ h; exact h) (Or.inl ⟨by kernel_rfl, ?hy16⟩) (by assumption) ?rest16
          case hy16 =>
            intro w' hSw
            have hSw : Keeps _ w' := hSw
            clear hSw
            go_simp
            try with_reducible rfl
          change wpAnyH _ _ _ _ _ _ _ (Act.put _ (some 15) _) _
          try simp only [Act.put, List.setIfInBounds_toArray, List.set_cons_zero, List.set_cons_succ]
          refine wpAnyH_take (i := 3) (v := ?vv17) (by rfl) (by kernel_rfl) (by kernel_rfl) (by kernel_rfl) (by intro _ _ _ h; exact h) (Or.inl ⟨by kernel_rfl, ?hy17⟩) (by assumption) ?rest17
          case hy17 =>
            intro w' hSw
            have hSw : Keeps _ w' := hSw
            clear hSw
            go_simp
            try with_reducible rfl
          change wpAnyH _ _ _ _ _ _ _ (Act.put _ (some 16) _) _
          try simp only [Act.put, List.setIfInBounds_toArray, List.set_cons_zero, List.set_cons_succ]
          refine wpAnyH_take (i := 4) (v := ?vv18) (by rfl) (by kernel_rfl) (by kernel_rfl) (by kernel_rfl) (by intro _ _ _ h; exact h) (Or.inl ⟨by kernel_rfl, ?hy18⟩) (by assumption) ?rest18
          case hy18 =>
            intro w' hSw
            have hSw : Keeps _ w' := hSw
            clear hSw
            go_simp
            try with_reducible rfl
          change wpAnyH _ _ _ _ _ _ _ (Act.put _ (some 17) _) _
          try simp only [Act.put, List.setIfInBounds_toArray, List.set_cons_zero, List.set_cons_succ]
          refine wpAnyH_take (i := 5) (v := ?vv19) (by rfl) (by kernel_rfl) (by kernel_rfl) (by kernel_rfl) (by intro _ _ _ h; exact h) (Or.inl ⟨by kernel_rfl, ?hy19⟩) (by assumption) ?rest19
          case hy19 =>
            intro w' hSw
            have hSw : Keeps _ w' := hSw
            clear hSw
            go_simp
            try with_reducible rfl
          change wpAnyH _ _ _ _ _ _ _ (Act.put _ (some 18) _) _
          try simp only [Act.put, List.setIfInBounds_toArray, List.set_cons_zero, List.set_cons_succ]
          refine wpAnyH_take (i := 6) (v := ?vv20) (by rfl) (by kernel_rfl) (by kernel_rfl) (by kernel_rfl) (by intro _ _ _ h; exact h) (Or.inl ⟨by kernel_rfl, ?hy20⟩) (by assumption) ?rest20
          case hy20 =>
            intro w' hSw
            have hSw : Keeps _ w' := hSw
            clear hSw
            go_simp
            try with_reducible rfl
          change wpAnyH _ _ _ _ _ _ _ (Act.put _ (some 19) _) _
          try simp only [Act.put, List.setIfInBounds_toArray, List.set_cons_zero, List.set_cons_succ]
          refine wpAnyH_take (i := 7) (v := ?vv21) (by rfl) (by kernel_rfl) (by kernel_rfl) (by kernel_rfl) (by intro _ _ _ h; exact h) (Or.inl ⟨by kernel_rfl, ?hy21⟩) (by assumption) ?rest21
          case hy21 =>
            intro w' hSw
            have hSw : Keeps _ w' := hSw
            clear hSw
            go_simp
            try with_reducible rfl
          change wpAnyH _ _ _ _ _ _ _ (Act.put _ (some 20) _) _
          try simp only [Act.put, List.setIfInBounds_toArray, List.set_cons_zero, List.set_cons_succ]
          refine wpAnyH_take (i := 8) (v := ?vv22) (by rfl) (by kernel_rfl) (by kernel_rfl) (by kernel_rfl) (by intro _ _ _ h; exact h) (Or.inl ⟨by kernel_rfl, ?hy22⟩) (by assumption) ?rest22
          case hy22 =>
            intro w' hSw
            have hSw : Keeps _ w' := hSw
            have hx := keep1 hSw hc0
            clear hSw
            go_simp
            try with_reducible rfl
          change wpAnyH _ _ _ _ _ _ _ (Act.put _ (some 21) _) _
          try simp only [Act.put, List.setIfInBounds_toArray, List.set_cons_zero, List.set_cons_succ]
          refine wpAnyH_take (i := 9) (v := ?vv23) (by rfl) (by kernel_rfl) (by kernel_rfl) (by kernel_rfl) (by intro _ _ _ h; exact h) (Or.inl ⟨by kernel_rfl, ?hy23⟩) (by assumption) ?rest23
          case hy23 =>
            intro w' hSw
            have hSw : Keeps _ w' := hSw
            clear hSw
            go_simp
            try with_reducible rfl
          change wpAnyH _ _ _ _ _ _ _ (Act.put _ (some 22) _) _
          try simp only [Act.put, List.setIfInBounds_toArray, List.set_cons_zero, List.set_cons_succ]
          refine wpAnyH_take (i := 10) (v := ?vv24) (by rfl) (by kernel_rfl) (by kernel_rfl) (by kernel_rfl) (by intro _ _ _ h; exact h) (Or.inl ⟨by kernel_rfl, ?hy24⟩) (by assumption) ?rest24
          case hy24 =>
            intro w' hSw
            have hSw : Keeps _ w' := hSw
            have hx := keep1 hSw hb0
            clear hSw
            go_simp
            try with_reducible rfl
          change wpAnyH _ _ _ _ _ _ _ (Act.put _ (some 23) _) _
          try simp only [Act.put, List.setIfInBounds_toArray, List.set_cons_zero, List.set_cons_succ]
          refine wpAnyH_take (i := 11) (v := ?vv25) (by rfl) (by kernel_rfl) (by kernel_rfl) (by kernel_rfl) (by intro _ _ _ h; exact h) (Or.inl ⟨by kernel_rfl, ?hy25⟩) (by assumption) ?rest25
          case hy25 =>
            intro w' hSw
            have hSw : Keeps _ w' := hSw
            clear hSw
            go_simp
            try with_reducible rfl
          change wpAnyH _ _ _ _ _ _ _ (Act.put _ (some 24) _) _
          try simp only [Act.put, List.setIfInBounds_toArray, List.set_cons_zero, List.set_cons_succ]
          refine wpAnyH_take (i := 12) (v := ?vv26) (by rfl) (by kernel_rfl) (by kernel_rfl) (by kernel_rfl) (by intro _ _ _ h; exact h) (Or.inl ⟨by kernel_rfl, ?hy26⟩) (by assumption) ?rest26
          case hy26 =>
            intro w' hSw
            have hSw : Keeps _ w' := hSw
            clear hSw
            go_simp
            try with_reducible rfl
          change wpAnyH _ _ _ _ _ _ _ (Act.put _ (some 25) _) _
          try simp only [Act.put, List.setIfInBounds_toArray, List.set_cons_zero, List.set_cons_succ]
          refine wpAnyH_done (by kernel_rfl) ?_ _
          refine NoPanic.normal ?_
          go_wp2_with fail
          go_meet
          exact ⟨k1 + 1, by simp, hk, Lib.hid ⟨HR.out.1.trans HKE.out, HF.out⟩⟩
      · have hk0 : k = 0 := by omega
        subst hk0
        have HF := Lib.hid (HPE.out 0 (Nat.zero_le _) HR.out.2 (fun p h _ => absurd h (by omega)))
        have HKE := Lib.hid (Keeps.refl wr).drew
        go_upto_region 3 with fail
        refine wp_region_noPanic ?_
        refine wp_region_held_drew (S := fun w' => Keeps (wr) w') (by kernel_rfl) ((Keeps.refl _).drew) (fun _ => ?_)
        have hHeld : Keeps (wr) (wr).drew := (Keeps.refl _).drew
        refine wpAnyH_take (i := 0) (v := ?vv27) (by rfl) (by kernel_rfl) (by kernel_rfl) (by kernel_rfl) (by intro _ _ _ h; exact h) (Or.inl ⟨by kernel_rfl, ?hy27⟩) (by assumption) ?rest27
        case hy27 =>
          intro w' hSw
          have hSw : Keeps _ w' := hSw
          clear hSw
          go_simp
          try with_reducible rfl
        change wpAnyH _ _ _ _ _ _ _ (Act.put _ (some 13) _) _
        try simp only [Act.put, List.setIfInBounds_toArray, List.set_cons_zero, List.set_cons_succ]
        refine wpAnyH_take (i := 1) (v := ?vv28) (by rfl) (by kernel_rfl) (by kernel_rfl) (by kernel_rfl) (by intro _ _ _ h; exact h) (Or.inl ⟨by kernel_rfl, ?hy28⟩) (by assumption) ?rest28
        case hy28 =>
          intro w' hSw
          have hSw : Keeps _ w' := hSw
          clear hSw
          go_simp
          try with_reducible rfl
        change wpAnyH _ _ _ _ _ _ _ (Act.put _ (some 14) _) _
        try simp only [Act.put, List.setIfInBounds_toArray, List.set_cons_zero, List.set_cons_succ]
        refine wpAnyH_take (i := 2) (v := ?vv29) (by rfl) (by kernel_rfl) (by kernel_rfl) (by kernel_rfl) (by intro _ _ _ h; exact h) (Or.inl ⟨by kernel_rfl, ?hy29⟩) (by assumption) ?rest29
        case hy29 =>
          intro w' hSw
          have hSw : Keeps _ w' := hSw
          clear hSw
          go_simp
          try with_reducible rfl
        change wpAnyH _ _ _ _ _ _ _ (Act.put _ (some 15) _) _
        try simp only [Act.put, List.setIfInBounds_toArray, List.set_cons_zero, List.set_cons_succ]
        refine wpAnyH_take (i := 3) (v := undef) (by rfl) (by kernel_rfl) (by kernel_rfl) (by kernel_rfl) (by intro _ _ _ h; exact h) (Or.inr ⟨by kernel_rfl, rfl⟩) (by assumption) ?rest30
        change wpAnyH _ _ _ _ _ _ _ (Act.put _ (some 16) _) _
        try simp only [Act.put, List.setIfInBounds_toArray, List.set_cons_zero, List.set_cons_succ]
        refine wpAnyH_take (i := 4) (v := undef) (by rfl) (by kernel_rfl) (by kernel_rfl) (by kernel_rfl) (by intro _ _ _ h; exact h) (Or.inr ⟨by kernel_rfl, rfl⟩) (by assumption) ?rest31
        change wpAnyH _ _ _ _ _ _ _ (Act.put _ (some 17) _) _
        try simp only [Act.put, List.setIfInBounds_toArray, List.set_cons_zero, List.set_cons_succ]
        refine wpAnyH_take (i := 5) (v := undef) (by rfl) (by kernel_rfl) (by kernel_rfl) (by kernel_rfl) (by intro _ _ _ h; exact h) (Or.inr ⟨by kernel_rfl, rfl⟩) (by assumption) ?rest32
        change wpAnyH _ _ _ _ _ _ _ (Act.put _ (some 18) _) _
        try simp only [Act.put, List.setIfInBounds_toArray, List.set_cons_zero, List.set_cons_succ]
        refine wpAnyH_take (i := 6) (v := undef) (by rfl) (by kernel_rfl) (by kernel_rfl) (by kernel_rfl) (by intro _ _ _ h; exact h) (Or.inr ⟨by kernel_rfl, rfl⟩) (by assumption) ?rest33
        change wpAnyH _ _ _ _ _ _ _ (Act.put _ (some 19) _) _
        try simp only [Act.put, List.setIfInBounds_toArray, List.set_cons_zero, List.set_cons_succ]
        refine wpAnyH_take (i := 7) (v := undef) (by rfl) (by kernel_rfl) (by kernel_rfl) (by kernel_rfl) (by intro _ _ _ h; exact h) (Or.inr ⟨by kernel_rfl, rfl⟩) (by assumption) ?rest34
        change wpAnyH _ _ _ _ _ _ _ (Act.put _ (some 20) _) _
        try simp only [Act.put, List.setIfInBounds_toArray, List.set_cons_zero, List.set_cons_succ]
        refine wpAnyH_take (i := 8) (v := undef) (by rfl) (by kernel_rfl) (by kernel_rfl) (by kernel_rfl) (by intro _ _ _ h; exact h) (Or.inr ⟨by kernel_rfl, rfl⟩) (by assumption) ?rest35
        change wpAnyH _ _ _ _ _ _ _ (Act.put _ (some 21) _) _
        try simp only [Act.put, List.setIfInBounds_toArray, List.set_cons_zero, List.set_cons_succ]
        refine wpAnyH_take (i := 9) (v := undef) (by rfl) (by kernel_rfl) (by kernel_rfl) (by kernel_rfl) (by intro _ _ _ h; exact h) (Or.inr ⟨by kernel_rfl, rfl⟩) (by assumption) ?rest36
        change wpAnyH _ _ _ _ _ _ _ (Act.put _ (some 22) _) _
        try simp only [Act.put, List.setIfInBounds_toArray, List.set_cons_zero, List.set_cons_succ]
        refine wpAnyH_take (i := 10) (v := undef) (by rfl) (by kernel_rfl) (by kernel_rfl) (by kernel_rfl) (by intro _ _ _ h; exact h) (Or.inr ⟨by kernel_rfl, rfl⟩) (by assumption) ?rest37
        change wpAnyH _ _ _ _ _ _ _ (Act.put _ (some 23) _) _
        try simp only [Act.put, List.setIfInBounds_toArray, List.set_cons_zero, List.set_cons_succ]
        refine wpAnyH_take (i := 11) (v := undef) (by rfl) (by kernel_rfl) (by kernel_rfl) (by kernel_rfl) (by intro _ _ _ h; exact h) (Or.inr ⟨by kernel_rfl, rfl⟩) (by assumption) ?rest38
        change wpAnyH _ _ _ _ _ _ _ (Act.put _ (some 24) _) _
        try simp only [Act.put, List.setIfInBounds_toArray, List.set_cons_zero, List.set_cons_succ]
        refine wpAnyH_take (i := 12) (v := ?vv39) (by rfl) (by kernel_rfl) (by kernel_rfl) (by kernel_rfl) (by intro _ _ _ h; exact h) (Or.inl ⟨by kernel_rfl, ?hy39⟩) (by assumption) ?rest39
        case hy39 =>
          intro w' hSw
          have hSw : Keeps _ w' := hSw
          clear hSw
          go_simp
          try with_reducible rfl
        change wpAnyH _ _ _ _ _ _ _ (Act.put _ (some 25) _) _
        try simp only [Act.put, List.setIfInBounds_toArray, List.set_cons_zero, List.set_cons_succ]
        refine wpAnyH_done (by kernel_rfl) ?_ _
        refine NoPanic.normal ?_
        go_wp2_with fail
        go_meet
        exact ⟨0, rfl, Nat.zero_le _, Lib.hid ⟨HR.out.1.trans HKE.out, HF.out⟩⟩
  case rest =>
  obtain ⟨k, rfl, hk, HF⟩ := hcut
  obtain ⟨w3, rfl⟩ : ∃ z : World, z = wc := ⟨_, rfl⟩
  have hkl : k ≤ L.length := by rw [← HNN.out]; exact hk
  have HLO := Lib.hid (fun w' (kw : Keeps w2 w') => (NmsOwn.at_ HO.out).keeps kw)
  have hc1 : ∀ w', (Instr.slice 56 (.slice pl n cl) none (some (.int .i64 (k : Int))) none).run Tryz.prog w' = .ok (cutS 2 pl 0 k cl) w' := fun w' => run_cutS_h w' Tryz.underlying56 (by intro w; kernel_rfl) pl n cl k (by omega)
  have hc2 : ∀ w', (Instr.slice 56 (.slice pl n cl) (some (.int .i64 (k : Int))) none none).run Tryz.prog w' = .ok (cutS 2 pl k n cl) w' := fun w' => run_cutS_l w' Tryz.underlying56 (by intro w; kernel_rfl) pl n cl k hk
  have HP1 := Lib.hid (fun w' (kw : Keeps w2 w') => show RowS w' 2 (cutS 2 pl 0 k cl) k ((L.take k).flatMap enC) from by
    have h0 := HLO.out w' kw
    unfold NmsAt at h0
    have := RowS.part enC_len h0 (Nat.zero_le k) hkl
    simpa using this)
  have HP2 := Lib.hid (fun w' (kw : Keeps w2 w') => show RowS w' 2 (cutS 2 pl k n cl) (n - k) ((L.drop k).flatMap enC) from by
    have h0 := HLO.out w' kw
    unfold NmsAt at h0
    have := RowS.part enC_len h0 hkl (Nat.le_refl _)
    rw [List.take_of_length_le (by simp)] at this
    rw [HNN.out]
    exact this)
  obtain ⟨pa, hpa⟩ := cutS_sl 2 pl 0 k cl
  obtain ⟨pb, hpb⟩ := cutS_sl 2 pl k n cl
  rw [hpa] at hc1 HP1
  rw [hpb] at hc2 HP2
  rw [Nat.sub_zero, Nat.sub_zero] at hc1 HP1
  clear hpa hpb
  have HK3 := Lib.hid HF.out.1
  have HRES := Lib.hid HF.out.2
  clear HF
  go_upto_region 7 with (at_builtin; go_loud (refine wpList_apps (base := w3.heap.size) enok (by decide) rfl _ _ rfl (.slice none 0 0) (.slice pa k cl) 0 k [] ((L.take k).flatMap enC) rfl rfl (World.ownsRow_nil _ _ _ 2) (HP1.out _ HK3.out) (enA_flat _) (by omega) (by decide) (Nat.le_refl _) ?_; intro v4 w4 ho4 hg4 hf4; obtain ⟨p4, c4, rfl, -, -⟩ := Frm.ownsRow_form ho4))
  have HO4 := Lib.hid (show w4.ownsRow w3.heap.size 96 2 (.slice p4 k c4) k ((L.take k).flatMap enC) from by simpa using ho4)
  have HK4 := Lib.hid (show Keeps w3 w4 from (Keeps.refl w3).grown hg4 (fun k hk => by simp [Value.ownBlock] at hk))
  have HB4 := Lib.hid (show Blk w4 q 96 #[.string (bstr x), .int .i64 (i : Int)] from HB2.out.keeps (HK3.out.trans HK4.out))
  have hs4 := HK4.out.size
  clear ho4 hg4 hf4
  go_upto_region 8 with (first
    | refine wpList_ld rfl enM HB4.out _ rfl rfl ?_
    | (at_builtin; go_loud (refine wpList_apps (base := w3.heap.size) enok (by decide) rfl _ _ rfl (.slice p4 k c4) (.slice (some ⟨w4.heap.size, 0, none⟩) 1 1) k 1 ((L.take k).flatMap enC) (enC (x, i)) rfl rfl (Frm.ownsRow_keeps HO4.out ((Keeps.refl _).alloc _)) (Frm.rowS_lit rfl rfl rfl) (by simp [enC, enA, Value.oneCell']) (by omega) (by decide) (by rw [Frm.alloc_size]; omega) ?_; intro v5 w5 ho5 hg5 hf5; obtain ⟨p5, c5, rfl, -, -⟩ := Frm.ownsRow_form ho5)))
  have HO5 := Lib.hid ho5
  have HK5 := Lib.hid (show Keeps w3 w5 from (HK4.out.alloc _).grown hg5 (Frm.ownsRow_base HO4.out))
  have hs5 := HK5.out.size
  clear ho5 hg5 hf5
  go_wp2_with (at_builtin; go_loud (refine wpList_apps (base := w3.heap.size) enok (by decide) rfl _ _ rfl (.slice p5 (k + 1) c5) (.slice pb (n - k) (cl - k)) (k + 1) (n - k) ((L.take k).flatMap enC ++ enC (x, i)) ((L.drop k).flatMap enC) rfl rfl HO5.out (HP2.out _ (HK3.out.trans HK5.out)) (enA_flat _) (by omega) (by decide) hs5 ?_; intro v6 w6 ho6 hg6 hf6; obtain ⟨p6, c6, rfl, -, -⟩ := Frm.ownsRow_form ho6))
  go_ret
  have hk6 : Keeps w3 w6 := HK5.out.grown hg6 (Frm.ownsRow_base HO5.out)
  have hbs : w.heap.size ≤ w3.heap.size := (HK2.out.trans HK3.out).size
  refine ⟨_, rfl, ?_, (HK2.out.trans HK3.out).trans hk6⟩
  unfold NmsOwn
  rw [← HRES.out]
  have hlen : (L.take k ++ [(x, i)] ++ L.drop k).length = k + 1 + (n - k) := by simp [HNN.out]; omega
  rw [hlen]
  have : (L.take k ++ [(x, i)] ++ L.drop k).flatMap enC = (L.take k).flatMap enC ++ enC (x, i) ++ (L.drop k).flatMap enC := by simp
  rw [this]
  exact ⟨ho6.1, ho6.2.imp id (fun ⟨g, cap, cur, h1, h2, h3⟩ => ⟨g, cap, cur, h1, Nat.le_trans hbs h2, h3⟩)⟩
end Rf
end Go.Proofs.YtchjncnolmiejaaGreat

/- The document's disk: do. -/
namespace Go.Proofs.YtchjncnolmiejaaGreat
open Go.RowKit
namespace Rf
open Vd
theorem ownsRow_low {w : World} {base base' C n : Nat} {e : TypeId} {v : Value} {xs : List Value} (h : w.ownsRow base e C v n xs) (hb : base' ≤ base) : w.ownsRow base' e C v n xs :=
  ⟨h.1, h.2.imp id (fun ⟨g, cap, cur, h1, h2, h3⟩ => ⟨g, cap, cur, h1, Nat.le_trans hb h2, h3⟩)⟩
def trA (t : RTurn) : Array Value := #[.string (bstr t.frm), .string (bstr t.dst), .int .i64 t.file]
/-- names that come of names: their slice is the old one or a new one -/
def DoDid (W : World) (v : Value) (l' : Nms) (e : Ending) (w' : World) : Prop := ∃ v', e = .returned v' ∧ NmsOwn w' 0 v' l' ∧ (∀ y, v'.ownBlock = some y → v.ownBlock = some y ∨ W.heap.size ≤ y) ∧ Keeps W w'
theorem asc_without {l : Nms} (h : AscN l) (x : Str) : AscN (withoutL l x) := h.filter _
theorem without_le (l : Nms) (x : Str) : (withoutL l x).length ≤ l.length := List.length_filter_le _ _
set_option maxRecDepth 100000 in
set_option maxHeartbeats 2000000 in
theorem do_r (w : World) {v : Value} {l : Nms} (h : NmsOwn w 0 v l) (ha : AscN l) (t : RTurn) (hll : l.length ≤ 100000000) : Calls Tryz.prog 65 #[v, .agg (trA t)] w (DoDid w v (doR l t)) := by
  have H := Lib.hid h
  have HA := Lib.hid ha
  obtain ⟨p, c, rfl, -, -⟩ := Frm.ownsRow_form h
  clear h ha
  have HX : Hid (doR l t = if t.file < 0 then (match Vd.look l t.frm with | none => l | some f => if t.dst = [] then withoutL l t.frm else putN (withoutL l t.frm) t.dst f) else if t.dst = [] then l else putN l t.dst t.file.toNat) := Lib.hid rfl
  unfold DoDid
  obtain ⟨fr, dst, fi⟩ := t
  simp only at HX
  go_enter Tryz.func65, Tryz.ntmps65
  go_upto_region 1 with fail
  generalize hW : World.alloc w _ = w1
  have HK1 := Lib.hid (show Keeps w w1 from by rw [← hW]; exact (Keeps.refl _).alloc _)
  have HB := Lib.hid (show Blk w1 w.heap.size 131 #[.string (bstr fr), .string (bstr dst), .int .i64 fi] from by rw [← hW]; exact Blk.new _ _ _ rfl)
  clear hW
  obtain ⟨q, hq⟩ : ∃ q, q = w.heap.size := ⟨_, rfl⟩
  rw [← hq] at HB ⊢
  have HQ := Lib.hid hq
  clear hq
  have b0 : w1.cell? ⟨q, 0, none⟩ = some (.string (bstr fr)) := by rw [HB.out.cell]; rfl
  have b2 : w1.cell? ⟨q, 2, none⟩ = some (.int .i64 fi) := by rw [HB.out.cell]; rfl
  have HFD := Lib.hid (find_r w1 ((NmsOwn.at_ H.out).keeps HK1.out) fr)
  have HWO := Lib.hid (without_r w1 ((NmsOwn.at_ H.out).keeps HK1.out) fr (by omega))
  go_upto_if 9 with fail
  go_cut [0, 5] (fun lv fv wx => ∃ (v' : Value) (l' : Nms) (f : Int), lv = v' ∧ fv = .int .i64 f ∧ Hid (NmsOwn wx 0 v' l' ∧ AscN l' ∧ l'.length ≤ 100000000 ∧ 0 ≤ f ∧ (∀ y, v'.ownBlock = some y → (Value.slice p l.length c).ownBlock = some y ∨ w.heap.size ≤ y) ∧ Keeps w1 wx ∧ doR l ⟨fr, dst, fi⟩ = if dst = [] then l' else putN l' dst f.toNat))
  case first =>
    by_cases hf : fi < 0
    · have HX1 := Lib.hid (HX.out.trans (if_pos hf))
      have HFR : Hid (findR l fr = match Vd.look l fr with | none => -1 | some i => (i : Int)) := Lib.hid rfl
      cases hlk : Vd.look l fr with
      | none =>
        have HD := Lib.hid (show doR l ⟨fr, dst, fi⟩ = l from by rw [HX1.out, hlk])
        have hfr : findR l fr = -1 := by rw [HFR.out, hlk]
        rw [hfr] at HFD
        clear hfr hlk HFR
        go_wp2_with fail
        refine HFD.out.mono ?_
        rintro e w2 ⟨rfl, rfl⟩
        go_wp2_with fail
        go_ret
        refine ⟨.slice p l.length c, rfl, ?_, fun y hy => .inl hy, HK1.out⟩
        rw [HD.out]
        exact Frm.ownsRow_keeps H.out HK1.out
      | some i =>
        have HD := Lib.hid (show doR l ⟨fr, dst, fi⟩ = if dst = [] then withoutL l fr else putN (withoutL l fr) dst i from by rw [HX1.out, hlk])
        have hfr : findR l fr = (i : Int) := by rw [HFR.out, hlk]
        rw [hfr] at HFD
        clear hfr hlk HFR
        unfold OwnDid at HWO
        go_wp2_with fail
        refine HFD.out.mono ?_
        rintro e w2 ⟨rfl, rfl⟩
        go_wp2_with fail
        refine HWO.out.mono ?_
        rintro e w2 ⟨v2, rfl, ho, hk⟩
        have HO := Lib.hid ho
        have HK2 := Lib.hid hk
        clear ho hk HWO HFD b0 b2
        go_wp2_with fail
        go_meet
        exact ⟨v2, withoutL l fr, (i : Int), rfl, rfl, Lib.hid ⟨ownsRow_low HO.out (Nat.zero_le _), asc_without HA.out fr, Nat.le_trans (without_le l fr) hll, by omega, fun y hy => .inr (Nat.le_trans HK1.out.size (Frm.ownsRow_base HO.out y hy)), HK2.out, by rw [HD.out]; simp⟩⟩
    · have HX1 := Lib.hid (HX.out.trans (if_neg hf))
      clear HFD HWO
      go_wp2_with fail
      go_meet
      exact ⟨.slice p l.length c, l, fi, rfl, rfl, Lib.hid ⟨Frm.ownsRow_keeps H.out HK1.out, HA.out, hll, by omega, fun y hy => .inl hy, Keeps.refl _, HX1.out⟩⟩
  case rest =>
  obtain ⟨v', l', f, rfl, rfl, HC⟩ := hcut
  obtain ⟨w2, rfl⟩ : ∃ z : World, z = wc := ⟨_, rfl⟩
  have HB2 := Lib.hid (HB.out.keeps HC.out.2.2.2.2.2.1)
  have b1 : w2.cell? ⟨q, 1, none⟩ = some (.string (bstr dst)) := by rw [HB2.out.cell]; rfl
  have HKK := Lib.hid (HK1.out.trans HC.out.2.2.2.2.2.1)
  obtain ⟨p', c', rfl, -, -⟩ := Frm.ownsRow_form HC.out.1
  obtain ⟨F, rfl⟩ : ∃ F : Nat, f = F := ⟨f.toNat, by have := HC.out.2.2.2.1; omega⟩
  have bt := bstr_toList dst
  have bz : (⟨#[]⟩ : ByteArray).toList = [] := bstr_toList []
  clear HFD HWO b0 b2 HX
  by_cases hd : dst = []
  · have HD := Lib.hid (HC.out.2.2.2.2.2.2.trans (if_pos hd))
    have e1 : (dst == []) = true := by rw [hd]; rfl
    clear hd
    go_wp2_with fail
    go_ret
    refine ⟨_, rfl, ?_, HC.out.2.2.2.2.1, HKK.out⟩
    rw [HD.out]
    exact HC.out.1
  · have HD : Hid (doR l ⟨fr, dst, fi⟩ = putN l' dst F) := Lib.hid (HC.out.2.2.2.2.2.2.trans (if_neg hd))
    have e1 : (dst == []) = false := by simp [hd]
    have HPT := Lib.hid (put_r w2 (NmsOwn.at_ HC.out.1) HC.out.2.1 dst F (by have := HC.out.2.2.1; omega))
    unfold OwnDid at HPT
    clear hd
    go_wp2_with fail
    refine HPT.out.mono ?_
    rintro e w3 ⟨v3, rfl, ho, hk⟩
    have HO := Lib.hid ho
    have HK3 := Lib.hid hk
    clear ho hk HPT b1
    go_wp2_with fail
    go_ret
    refine ⟨_, rfl, ?_, fun y hy => .inr (Nat.le_trans HKK.out.size (Frm.ownsRow_base HO.out y hy)), HKK.out.trans HK3.out⟩
    rw [HD.out]
    exact ownsRow_low HO.out (Nat.zero_le _)
end Rf
end Go.Proofs.YtchjncnolmiejaaGreat

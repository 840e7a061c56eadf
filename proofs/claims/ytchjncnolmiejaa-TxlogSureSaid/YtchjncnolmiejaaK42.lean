/- Several texts in one: TxLog, TxOpen, TxAdd, TxSurePl, TxAwake. -/
import Derived.Test.YtchjncnolmiejaaK41
import Derived.Test.YtchjncnolmiejaaK35
import Derived.Test.YtchjncnolmiejaaK37
import Derived.Test.YtchjncnolmiejaaK40
/- A log in memory; txlog.Open, Add, Len, Whole, Name. -/
namespace Go.Proofs.Ytchjncnolmiejaa
open Go.RowKit
namespace Txl
open Vd
/-- a disk beside a law's world; the blocks L are none of its -/
structure One (L : List Nat) (W w : World) (g : Nat) (d : Dsk) (k : Nat) (S : Nat → Prop) : Prop where
  dsk : DiskAt w S g d
  ls : ∀ y, S y → W.heap.size ≤ y ∧ y < w.heap.size ∧ y ∉ L
  ll : ∀ y ∈ L, y < w.heap.size
  keep : Keeps W w
  few : Few d k
def OneAt (L : List Nat) (W w : World) (g : Nat) (d : Dsk) (k : Nat) : Prop := ∃ S, One L W w g d k S
section
variable {L : List Nat} {W w wb w' : World} {g : Nat} {d d' : Dsk} {k k' : Nat} {S : Nat → Prop}
theorem One.keeps (h : One L W w g d k S) (hk : Keeps w w') : One L W w' g d k S :=
  ⟨h.dsk.keeps hk, fun y hy => ⟨(h.ls y hy).1, Nat.lt_of_lt_of_le (h.ls y hy).2.1 hk.size, (h.ls y hy).2.2⟩, fun y hy => Nat.lt_of_lt_of_le (h.ll y hy) hk.size, h.keep.trans hk, h.few⟩
theorem OneAt.keeps (h : OneAt L W w g d k) (hk : Keeps w w') : OneAt L W w' g d k := let ⟨_, h⟩ := h; ⟨_, h.keeps hk⟩
theorem OneAt.more (h : OneAt L W w g d k) (hk : k ≤ k') : OneAt L W w g d k' := let ⟨_, h⟩ := h; ⟨_, { h with few := h.few.mono hk }⟩
theorem OneAt.kp (h : OneAt L W w g d k) : Keeps W w := let ⟨_, h⟩ := h; h.keep
theorem OneAt.fw (h : OneAt L W w g d k) : Few d k := let ⟨_, h⟩ := h; h.few
theorem OneAt.lt (h : OneAt L W w g d k) : ∀ y ∈ L, y < w.heap.size := let ⟨_, h⟩ := h; h.ll
theorem OneAt.aside (h : OneAt L W w g d k) (hk : Keeps w w') {b : Nat} (hb : w.heap.size ≤ b) (hb' : b < w'.heap.size) : OneAt (b :: L) W w' g d k := by
  obtain ⟨S, h⟩ := h
  have h2 := h.keeps hk
  refine ⟨S, { h2 with ls := fun y hy => ⟨(h2.ls y hy).1, (h2.ls y hy).2.1, fun hh => ?_⟩, ll := fun y hy => ?_ }⟩
  · have := (h.ls y hy).2.1
    rcases List.mem_cons.1 hh with e | e
    · omega
    · exact (h.ls y hy).2.2 e
  · rcases List.mem_cons.1 hy with rfl | e
    · exact hb'
    · exact h2.ll y e
theorem OneAt.drop {L' : List Nat} (h : OneAt L W w g d k) (hl : ∀ y ∈ L', y ∈ L) : OneAt L' W w g d k := by
  obtain ⟨S, h⟩ := h
  exact ⟨S, { h with ls := fun y hy => ⟨(h.ls y hy).1, (h.ls y hy).2.1, fun hh => (h.ls y hy).2.2 (hl y hh)⟩, ll := fun y hy => h.ll y (hl y hy) }⟩
theorem One.on (h : One L W w g d k S) : On S w w g d k := ⟨h.dsk.wide (fun y hy => .inl hy), Mods.refl _ _, h.few, fun y hy => (h.ls y hy).2.1⟩
/-- what a call leaves -/
def OneRest (L : List Nat) (W w : World) (g : Nat) (d : Dsk) (k : Nat) (w' : World) : Prop := OneAt L W w' g d k ∧ Mods (fun y => W.heap.size ≤ y ∧ y ∉ L) w w'
theorem One.rest (h : One L W w g d k S) (ho : On S w w' g d' k') : OneRest L W w g d' k' w' := by
  have hs := ho.mods.size
  have hk := h.keep.size
  refine ⟨⟨More S w w', ho.dsk, fun y hy => ?_, fun y hy => Nat.lt_of_lt_of_le (h.ll y hy) hs, ho.mods.keeps h.keep (fun y hy => (h.ls y hy).1), ho.few⟩, ho.mods.mono (fun y hy => ⟨(h.ls y hy).1, (h.ls y hy).2.2⟩)⟩
  rcases hy with hy | hy
  · have := h.ls y hy
    exact ⟨this.1, by omega, this.2.2⟩
  · exact ⟨by omega, hy.2, fun hh => by have := h.ll y hh; omega⟩
theorem At.one (h : At W w g d k) : OneAt [] W w g d k := ⟨_, h.dsk, fun y hy => ⟨hy.1, hy.2, List.not_mem_nil⟩, fun y hy => absurd hy (List.not_mem_nil), h.keep, h.few⟩
theorem OneAt.read (h : OneAt L W w g d k) (x : Str) (hx : x.length ≤ maxLen) : Calls Try.prog 23 #[.pointer (some ⟨g, 0, none⟩), .string (bstr x)] w (Vd.ReadDid w (textD d x)) := by
  obtain ⟨S, h⟩ := h
  exact Vd.read_any w h.dsk x hx
theorem OneAt.make (h : OneAt L W w g d k) (hk : k ≤ 370) {x b : Str} {p0 : Option Addr} {c0 : Nat} (hx : x.length ≤ 100) (hs : ∀ T w', (∀ y, T y → W.heap.size ≤ y ∧ y ∉ L) → Mods T w w' → Row w' (.slice p0 b.length c0) (b.map u8v)) (hbl : b.length ≤ 1000000000) : Calls Try.prog 104 #[.pointer (some ⟨g, 0, none⟩), .string (bstr x), .slice p0 b.length c0] w fun e w' => e = .returned (.int .i64 (Sf.sMake x b d).2) ∧ OneRest L W w g (Sf.sMake x b d).1 (k + 8) w' := by
  obtain ⟨S, h⟩ := h
  refine (Sf.smake_on h.on hk hx (fun w2 hm => hs S w2 (fun y hy => ⟨(h.ls y hy).1, (h.ls y hy).2.2⟩) hm) hbl).mono ?_
  rintro e w' ⟨c, rfl, rfl, ho⟩
  exact ⟨rfl, h.rest ho⟩
theorem OneAt.append (h : OneAt L W w g d k) (hk : k ≤ 380) {x b : Str} {p0 : Option Addr} {c0 : Nat} (hx : x.length ≤ maxLen) (hs : ∀ T w', (∀ y, T y → W.heap.size ≤ y ∧ y ∉ L) → Mods T w w' → Row w' (.slice p0 b.length c0) (b.map u8v)) (hbl : b.length ≤ 1000000000) : Calls Try.prog 105 #[.pointer (some ⟨g, 0, none⟩), .string (bstr x), .slice p0 b.length c0] w fun e w' => e = .returned (.int .i64 (Sf.sAppend x b d).2) ∧ OneRest L W w g (Sf.sAppend x b d).1 (k + 3) w' := by
  obtain ⟨S, h⟩ := h
  refine (Sf.sappend_on h.on hk hx (fun w2 hm => hs S w2 (fun y hy => ⟨(h.ls y hy).1, (h.ls y hy).2.2⟩) hm) hbl).mono ?_
  rintro e w' ⟨c, rfl, rfl, ho⟩
  exact ⟨rfl, h.rest ho⟩
end
/-- a log: its disk, its name, how many transactions it has, whether that is all -/
def logA (g : Nat) (x : Str) (n : Nat) (whole : Bool) : Array Value := #[.pointer (some ⟨g, 0, none⟩), .string (bstr x), .int .i64 (n : Int), .bool whole]
theorem len_any (w : World) {b g : Nat} {x : Str} {n : Nat} {wh : Bool} (h : Blk w b 172 (logA g x n wh)) : Calls Try.prog 95 #[.pointer (some ⟨b, 0, none⟩)] w fun e w' => e = .returned (.int .i64 (n : Int)) ∧ w = w' := by
  have c2 : w.cell? ⟨b, 2, none⟩ = some (.int .i64 (n : Int)) := by rw [h.cell]; rfl
  clear h
  go_enter Try.func95, Try.ntmps95
  go_wp2_with fail
  go_ret
  exact ⟨rfl, rfl⟩
theorem whole_any (w : World) {b g : Nat} {x : Str} {n : Nat} {wh : Bool} (h : Blk w b 172 (logA g x n wh)) : Calls Try.prog 96 #[.pointer (some ⟨b, 0, none⟩)] w fun e w' => e = .returned (.bool wh) ∧ w = w' := by
  have c2 : w.cell? ⟨b, 3, none⟩ = some (.bool wh) := by rw [h.cell]; rfl
  clear h
  go_enter Try.func96, Try.ntmps96
  go_wp2_with fail
  go_ret
  exact ⟨rfl, rfl⟩
theorem name_any (w : World) {b g : Nat} {x : Str} {n : Nat} {wh : Bool} (h : Blk w b 172 (logA g x n wh)) : Calls Try.prog 97 #[.pointer (some ⟨b, 0, none⟩)] w fun e w' => e = .returned (.string (bstr x)) ∧ w = w' := by
  have c2 : w.cell? ⟨b, 1, none⟩ = some (.string (bstr x)) := by rw [h.cell]; rfl
  clear h
  go_enter Try.func97, Try.ntmps97
  go_wp2_with fail
  go_ret
  exact ⟨rfl, rfl⟩
/-- what Open makes of a disk: the disk, the error, the bytes that are replayed -/
def openD (d : Dsk) (x : Str) : Dsk × Int × Str :=
  if (textD d x).2 = 7 then ((Sf.sMake x [] d).1, (Sf.sMake x [] d).2, (textD d x).1) else (d, (textD d x).2, (textD d x).1)
def rep (s : Str) : List (Nat × List Item) × Int := replayF (Frm.rowR s).1
def OpenDid (L : List Nat) (W w : World) (g : Nat) (x : Str) (r : Dsk × Int × Str) (k : Nat) (e : Ending) (w' : World) : Prop :=
  if r.2.1 = 0 then ∃ b tv X, e = .returned (.tuple #[.pointer (some ⟨b, 0, none⟩), tv, .int .i64 0]) ∧ w.heap.size ≤ b ∧ OneAt (b :: L) W w' g r.1 k ∧ Mods (fun y => W.heap.size ≤ y ∧ y ∉ L) w w' ∧ Blk w' b 172 (logA g x (rep r.2.2).1.length (decide ((rep r.2.2).2 = (r.2.2.length : Int)))) ∧ TxsAt w' w.heap.size tv X ∧ X.map txP = (rep r.2.2).1
  else e = .returned (.tuple #[.pointer none, .slice none 0 0, .int .i64 r.2.1]) ∧ OneRest L W w g r.1 k w'
end Txl
end Go.Proofs.Ytchjncnolmiejaa

/- txlog.Open. -/
namespace Go.Proofs.Ytchjncnolmiejaa
open Go.RowKit
namespace Txl
open Vd
theorem row_none {w w' : World} {v : Value} (h : Row w v []) : Row w' v [] := by
  rcases h with ⟨a0, cap, h1, h2, h3, h4⟩ | ⟨b, off, cap, hv, h1, h2, -⟩
  · exact .inl ⟨a0, cap, h1, h2, h3, h4⟩
  · exact .inr ⟨b, off, cap, hv, h1, h2, fun i x hx => by simp at hx⟩
theorem openDid_no {L : List Nat} {W w w' : World} {g : Nat} {x : Str} {r : Dsk × Int × Str} {k : Nat} (hr : r.2.1 ≠ 0) (h : OneRest L W w g r.1 k w') : OpenDid L W w g x r k (.returned (.tuple #[.pointer none, .slice none 0 0, .int .i64 r.2.1])) w' := by
  unfold OpenDid
  rw [if_neg hr]
  exact ⟨rfl, h⟩
theorem openDid_yes {L : List Nat} {W w w' : World} {g : Nat} {x : Str} {r : Dsk × Int × Str} {k b : Nat} {tv : Value} {X : List TxX} {wh : Bool} (hr : r.2.1 = 0) (h1 : w.heap.size ≤ b) (h2 : OneAt (b :: L) W w' g r.1 k) (h3 : Mods (fun y => W.heap.size ≤ y ∧ y ∉ L) w w') (h4 : Blk w' b 172 #[.pointer (some ⟨g, 0, none⟩), .string (bstr x), .int .i64 (X.length : Int), .bool wh]) (hw : wh = decide ((rep r.2.2).2 = (r.2.2.length : Int))) (h5 : TxsAt w' w.heap.size tv X) (h6 : X.map txP = (rep r.2.2).1) : OpenDid L W w g x r k (.returned (.tuple #[.pointer (some ⟨b, 0, none⟩), tv, .int .i64 0])) w' := by
  unfold OpenDid
  rw [if_pos hr]
  have hl : X.length = (rep r.2.2).1.length := by rw [← h6, List.length_map]
  refine ⟨b, tv, X, rfl, h1, h2, h3, ?_, h5, h6⟩
  unfold logA
  rw [← hl, ← hw]
  exact h4
theorem TxsAt.lower {w : World} {base b2 : Nat} {v : Value} {X : List TxX} (h : TxsAt w base v X) (hb : b2 ≤ base) : TxsAt w b2 v X :=
  ⟨⟨h.own.1, h.own.2.elim Or.inl (fun ⟨q, cap, cur, hv, hq, r⟩ => Or.inr ⟨q, cap, cur, hv, Nat.le_trans hb hq, r⟩)⟩, fun x hx => (h.its x hx).lower hb, fun x hx y hy => (h.pay x hx y hy).lower hb⟩
set_option maxRecDepth 100000 in
set_option maxHeartbeats 4000000 in
theorem open_any {L : List Nat} {W w : World} {g : Nat} {d : Dsk} {k : Nat} (h : OneAt L W w g d k) (hk : k ≤ 360) (x : Str) (hx : x.length ≤ 100) : Calls Try.prog 40 #[.pointer (some ⟨g, 0, none⟩), .string (bstr x)] w (OpenDid L W w g x (openD d x) (k + 8)) := by
  have H := Lib.hid h
  have hxm : x.length ≤ maxLen := by unfold maxLen; omega
  have hsl0 : (textD d x).1.length ≤ 1000000000 := by
    obtain ⟨S, h⟩ := h
    obtain ⟨_, _, _, _, _, hd⟩ := h.dsk
    exact textD_len hd.fit x
  have HRD := Lib.hid (h.read x hxm)
  have HX0 : Hid (openD d x = if (textD d x).2 = 7 then ((Sf.sMake x [] d).1, (Sf.sMake x [] d).2, (textD d x).1) else (d, (textD d x).2, (textD d x).1)) := Lib.hid rfl
  have HS0 := Lib.hid (show (textD d x).2 = 7 → (textD d x).1 = [] from fun e => by
    cases ho : d.off with
    | true => simp [textD, ho]
    | false =>
      cases hl : Vd.look d.seen x with
      | none => simp [textD, ho, hl]
      | some i => simp [textD, ho, hl] at e)
  have HMK := Lib.hid (fun w' (hk' : Keeps w w') => (H.out.keeps hk').make (x := x) (b := []) (p0 := none) (c0 := 0) (by omega) hx (fun T w2 _ _ => .inl ⟨none, 0, rfl, rfl, Nat.zero_le _, fun _ => rfl⟩) (by simp))
  unfold Vd.ReadDid at HRD
  clear h
  generalize textD d x = r at *
  obtain ⟨s, er⟩ := r
  generalize Sf.sMake x [] d = mk at *
  obtain ⟨d2, e2⟩ := mk
  have hsl : s.length ≤ 549755813887 := by have : s.length ≤ 1000000000 := hsl0; omega
  simp only at HX0 HS0 HRD HMK
  clear hsl0
  go_enter Try.func40, Try.ntmps40
  go_wp2_with fail
  refine HRD.out.mono ?_
  rintro e w1 ⟨bv, rfl, hrow, hk1⟩
  obtain ⟨pb, cb, rfl, -, -⟩ := hrow.formB
  have HROW := Lib.hid hrow
  have HK1 := Lib.hid hk1
  clear hrow hk1 HRD
  by_cases e7 : er = 7
  · have HX := Lib.hid (HX0.out.trans (if_pos e7))
    have HS := Lib.hid (HS0.out e7)
    have t7 : (er == 7) = true := by simp [e7]
    clear HX0 HS0 e7
    go_wp2_with fail
    refine (HMK.out _ HK1.out).mono ?_
    rintro e w2 ⟨rfl, ho, hm⟩
    have HO := Lib.hid ho
    have HM := Lib.hid ((Mods.of_keeps HK1.out).trans hm (T := fun y => W.heap.size ≤ y ∧ y ∉ L) (S := fun y => W.heap.size ≤ y ∧ y ∉ L) (fun y hy _ => hy))
    clear ho hm HMK
    by_cases e0 : e2 = 0
    · subst e0
      have HROW2 := Lib.hid (show Row w2 (.slice pb s.length cb) (s.map u8v) from by
        have := HROW.out
        rw [HS.out] at this ⊢
        exact row_none this)
      have HRP := Lib.hid (replay_any (.slice pb s.length cb) s w2 HROW2.out hsl)
      have HRS : Hid (rep s = replayF (Frm.rowR s).1) := Lib.hid rfl
      rw [← HRS.out] at HRP
      unfold ReplayDid at HRP
      go_wp2_with fail
      refine HRP.out.mono ?_
      rintro e w5 ⟨tv, X, rfl, ht, hX, hk5⟩
      have HT5 := Lib.hid ht
      have HX5 := Lib.hid hX
      have HK5 := Lib.hid hk5
      obtain ⟨pt, ct, rfl, -, -⟩ := Frm.ownsRow_form ht.own
      have hXl : X.length = (rep s).1.length := by rw [← hX, List.length_map]
      have HXL := Lib.hid hXl
      obtain ⟨wh, hwh⟩ : ∃ wh, wh = decide ((rep s).2 = (s.length : Int)) := ⟨_, rfl⟩
      have HWH := Lib.hid hwh
      have hbe : ((rep s).2 == (s.length : Int)) = wh := by
        rw [hwh, Bool.eq_iff_iff]
        simp
      clear ht hX hk5 HRP hXl hwh
      go_wp2_with fail
      refine bodyPost_ret (v := .tuple #[.pointer (some ⟨w5.heap.size, 0, none⟩), .slice pt X.length ct, .int .i64 0]) (by simp [results, Try.results40, go_sem]) rfl ?_
      have hK6 : Keeps w2 (w5.alloc (.cells #[.pointer (some ⟨g, 0, none⟩), .string (bstr x), .int .i64 (X.length : Int), .bool wh] 172)) := HK5.out.alloc _
      have hB6 := Blk.new w5 172 #[.pointer (some ⟨g, 0, none⟩), .string (bstr x), .int .i64 (X.length : Int), .bool wh] rfl
      have hsz := HK5.out.size
      rw [HX.out]
      have hsm := HM.out.size
      refine openDid_yes rfl (by omega) (HO.out.aside hK6 hsz hB6.lt) (HM.out.then hK6) hB6 HWH.out ((HT5.out.keeps ((Keeps.refl _).alloc _)).lower hsm) HX5.out

    · have t0 : (e2 != 0) = true := by simp [e0]
      have HE0 := Lib.hid e0
      clear e0
      go_wp2_with fail
      refine bodyPost_ret (v := .tuple #[.pointer none, .slice none 0 0, .int .i64 e2]) (by simp [results, Try.results40, go_sem]) rfl ?_
      rw [HX.out]
      exact openDid_no HE0.out ⟨HO.out, HM.out⟩
  · have HX := Lib.hid (HX0.out.trans (if_neg e7))
    have t7 : (er == 7) = false := by simp [e7]
    clear HX0 HS0 e7 HMK
    by_cases e0 : er = 0
    · subst e0
      have HRP := Lib.hid (replay_any (.slice pb s.length cb) s w1 HROW.out hsl)
      have HRS : Hid (rep s = replayF (Frm.rowR s).1) := Lib.hid rfl
      rw [← HRS.out] at HRP
      unfold ReplayDid at HRP
      go_wp2_with fail
      refine HRP.out.mono ?_
      rintro e w5 ⟨tv, X, rfl, ht, hX, hk5⟩
      have HT5 := Lib.hid ht
      have HX5 := Lib.hid hX
      have HK5 := Lib.hid hk5
      obtain ⟨pt, ct, rfl, -, -⟩ := Frm.ownsRow_form ht.own
      have hXl : X.length = (rep s).1.length := by rw [← hX, List.length_map]
      have HXL := Lib.hid hXl
      obtain ⟨wh, hwh⟩ : ∃ wh, wh = decide ((rep s).2 = (s.length : Int)) := ⟨_, rfl⟩
      have HWH := Lib.hid hwh
      have hbe : ((rep s).2 == (s.length : Int)) = wh := by
        rw [hwh, Bool.eq_iff_iff]
        simp
      clear ht hX hk5 HRP hXl hwh
      go_wp2_with fail
      refine bodyPost_ret (v := .tuple #[.pointer (some ⟨w5.heap.size, 0, none⟩), .slice pt X.length ct, .int .i64 0]) (by simp [results, Try.results40, go_sem]) rfl ?_
      have hK6 : Keeps w1 (w5.alloc (.cells #[.pointer (some ⟨g, 0, none⟩), .string (bstr x), .int .i64 (X.length : Int), .bool wh] 172)) := HK5.out.alloc _
      have hB6 := Blk.new w5 172 #[.pointer (some ⟨g, 0, none⟩), .string (bstr x), .int .i64 (X.length : Int), .bool wh] rfl
      have hsz := HK5.out.size
      rw [HX.out]
      refine openDid_yes rfl (by have := HK1.out.size; omega) (((H.out.keeps HK1.out).more (by omega)).aside hK6 hsz hB6.lt) (Mods.of_keeps (HK1.out.trans hK6)) hB6 HWH.out ((HT5.out.keeps ((Keeps.refl _).alloc _)).lower HK1.out.size) HX5.out

    · have t0 : (er != 0) = true := by simp [e0]
      have HE0 := Lib.hid e0
      clear e0
      go_wp2_with fail
      refine bodyPost_ret (v := .tuple #[.pointer none, .slice none 0 0, .int .i64 er]) (by simp [results, Try.results40, go_sem]) rfl ?_
      rw [HX.out]
      exact openDid_no HE0.out ⟨(H.out.keeps HK1.out).more (by omega), Mods.of_keeps HK1.out⟩
end Txl
end Go.Proofs.Ytchjncnolmiejaa

/- txlog.Add. -/
namespace Go.Proofs.Ytchjncnolmiejaa
open Go.RowKit
namespace Txl
open Vd
def addD (d : Dsk) (x : Str) (n : Nat) (wh : Bool) (items : List Item) : (Dsk × Nat) × Int :=
  if wh = false then ((d, n), 12)
  else if txE ((n : Int) + 1) items ≠ 0 then ((d, n), txE ((n : Int) + 1) items)
  else if (Sf.sAppend x (txL ((n : Int) + 1) items) d).2 = 0 then (((Sf.sAppend x (txL ((n : Int) + 1) items) d).1, n + 1), 0)
  else (((Sf.sAppend x (txL ((n : Int) + 1) items) d).1, n), (Sf.sAppend x (txL ((n : Int) + 1) items) d).2)
theorem txE_items {n : Int} {items : List Item} (h : txE n items = 0) : items.length ≤ 1000 ∧ ∀ x ∈ items, x.length ≤ 4096 := by
  unfold txE at h
  split at h
  · cases h
  · split at h
    · cases h
    · split at h
      · cases h
      · rename_i h1 h2 h3
        refine ⟨by omega, fun x hx => ?_⟩
        refine Nat.le_of_not_lt (fun hb => h3 (List.any_eq_true.2 ⟨x, hx, by simpa [bigB] using hb⟩))
theorem txL_len {n : Int} {items : List Item} : (txL n items).length ≤ 9000000 := by
  unfold txL
  split
  · rename_i h
    obtain ⟨h1, h2⟩ := txE_items h
    have h3 := itemsL_le h2
    have h4 := headL_le n.toNat items.length
    have h5 := endL_le n.toNat
    have h6 : items.length * 8211 ≤ 1000 * 8211 := Nat.mul_le_mul_right _ h1
    simp only [List.length_append]
    omega
  · simp
/-- what Add leaves -/
def AddDid (L : List Nat) (W w : World) (g b : Nat) (x : Str) (wh : Bool) (r : (Dsk × Nat) × Int) (k : Nat) (e : Ending) (w' : World) : Prop := e = .returned (.int .i64 r.2) ∧ OneAt L W w' g r.1.1 k ∧ Blk w' b 172 (logA g x r.1.2 wh) ∧ Mods (fun y => W.heap.size ≤ y ∧ (y ∉ L ∨ y = b)) w w'
set_option maxRecDepth 100000 in
set_option maxHeartbeats 4000000 in
theorem add_any {L : List Nat} {W w : World} {g : Nat} {d : Dsk} {k b n : Nat} {x : Str} {wh : Bool} (h : OneAt L W w g d k) (hk : k ≤ 380) (hb : b ∈ L) (hbW : W.heap.size ≤ b) (hB : Blk w b 172 (logA g x n wh)) (hn : n ≤ 1000000000000) (hx : x.length ≤ maxLen) (v : Value) (l : List (Value × List UInt8)) (hr : Row w v (l.map (·.1))) (hp : ∀ y ∈ l, Frm.payOk w y) : Calls Try.prog 41 #[.pointer (some ⟨b, 0, none⟩), v] w (AddDid L W w g b x wh (addD d x n wh (l.map (·.2))) (k + 3)) := by
  have H := Lib.hid h
  have HB := Lib.hid hB
  have HL := Lib.hid hb
  have hcn : w.cell? ⟨b, 2, none⟩ = some (.int .i64 (n : Int)) := by rw [hB.cell]; rfl
  have hcw : w.cell? ⟨b, 3, none⟩ = some (.bool wh) := by rw [hB.cell]; rfl
  have HBY := Lib.hid (txBytes_any ((n : Int) + 1) (by omega) v l w hr hp)
  obtain ⟨pv, cv, rfl, -, -⟩ := hr.form
  rw [List.length_map] at HBY ⊢
  have HX0 : Hid (addD d x n wh (l.map (·.2)) = if wh = false then ((d, n), 12) else if txE ((n : Int) + 1) (l.map (·.2)) ≠ 0 then ((d, n), txE ((n : Int) + 1) (l.map (·.2))) else if (Sf.sAppend x (txL ((n : Int) + 1) (l.map (·.2))) d).2 = 0 then (((Sf.sAppend x (txL ((n : Int) + 1) (l.map (·.2))) d).1, n + 1), 0) else (((Sf.sAppend x (txL ((n : Int) + 1) (l.map (·.2))) d).1, n), (Sf.sAppend x (txL ((n : Int) + 1) (l.map (·.2))) d).2)) := Lib.hid rfl
  have HTL := Lib.hid (txL_len (n := (n : Int) + 1) (items := l.map (·.2)))
  generalize addD d x n wh (l.map (·.2)) = r at *
  clear h hB hb hr hp
  cases wh with
  | false =>
    have HX := Lib.hid (HX0.out.trans (if_pos rfl))
    go_enter Try.func41, Try.ntmps41
    go_wp2_with fail
    go_ret
    rw [HX.out]
    exact ⟨rfl, H.out.more (by omega), HB.out, Mods.refl _ _⟩
  | true =>
    have HX1 := Lib.hid (HX0.out.trans (if_neg (by simp)))
    generalize txL ((n : Int) + 1) (l.map (·.2)) = tl at *
    generalize txE ((n : Int) + 1) (l.map (·.2)) = te at *
    unfold Frm.RetSI at HBY
    clear HX0
    go_enter Try.func41, Try.ntmps41
    go_wp2_with fail
    refine HBY.out.mono ?_
    rintro e w1 ⟨tv, rfl, hown, hk1⟩
    have HO := Lib.hid hown
    have HK1 := Lib.hid hk1
    have HB1 := Lib.hid (HB.out.keeps hk1)
    have H1 := Lib.hid (H.out.keeps hk1)
    obtain ⟨pt, ct, rfl, -, -⟩ := hown.row.formB
    clear hown hk1 HBY hcn hcw
    by_cases he : te = 0
    · have HX2 := Lib.hid (HX1.out.trans (if_neg (by simp [he])))
      have t0 : (te == 0) = true := by simp [he]
      -- the bytes' block, if there is one, is none of the disk's
      have HSA : Hid (∃ L1, (∀ y ∈ L, y ∈ L1) ∧ OneAt L1 W w1 g d k ∧ ∀ T w', (∀ y, T y → W.heap.size ≤ y ∧ y ∉ L1) → Mods T w1 w' → Row w' (.slice pt tl.length ct) (tl.map u8v)) := Lib.hid (by
        cases pt with
        | none =>
          refine ⟨L, fun y hy => hy, H1.out, fun T w' _ _ => ?_⟩
          rcases HO.out.row with h | ⟨_, _, _, hv, -⟩
          · exact .inl h
          · simp at hv
        | some a =>
          obtain ⟨q, qo, qs⟩ := a
          have hq : w.heap.size ≤ q := HO.out.base q (by simp [Value.ownBlock])
          have hq2 : q < w1.heap.size := HO.out.block_lt q (by simp [Value.ownBlock])
          obtain ⟨q3, cap3, hv3, -⟩ := (HO.out.length_lt).resolve_left (fun hh => by simp at hh)
          simp only [Value.slice.injEq, Option.some.injEq, Addr.mk.injEq] at hv3
          obtain ⟨⟨rfl, rfl, rfl⟩, -, -⟩ := hv3
          exact ⟨q :: L, fun y hy => List.mem_cons_of_mem _ hy, H.out.aside HK1.out hq hq2, fun T w' hT hm => row_modsB HO.out.row hm (fun hh => (hT _ hh).2 (List.mem_cons_self ..))⟩)
      obtain ⟨L1, hL1, hA1, hRow⟩ := HSA.out
      have HL1 := Lib.hid hL1
      have HA1 := Lib.hid hA1
      have HRW := Lib.hid hRow
      clear hL1 hA1 hRow HSA he
      go_upto_region 5 with fail
      have HAC := Lib.hid ((HA1.out.keeps (Keeps.refl w1).drew).append (x := x) (b := tl) (p0 := pt) (c0 := ct) (by omega) hx (fun T w' hT hm => HRW.out T w' hT (show Mods T w1 w' from (Mods.refl T w1).drew.trans hm (fun y hy _ => hy))) (by have := HTL.out; omega))
      have HMD := Lib.hid (show Mods (fun y => W.heap.size ≤ y ∧ (y ∉ L ∨ y = b)) w w1.drew from Mods.of_keeps (HK1.out.trans (Keeps.refl w1).drew))
      generalize Sf.sAppend x tl d = sa at *
      obtain ⟨d3, e3⟩ := sa
      simp only at HAC HX2
      refine wp_region_noPanic ?_
      refine wp_region_held_drew (S := fun w' => Mods (fun y => y ≠ b) w1 w') (by kernel_rfl) ((Mods.refl (fun y => y ≠ b) w1).drew) (fun _ => ?_)
      have hHeld : Mods (fun y => y ≠ b) w1 (w1).drew := (Mods.refl (fun y => y ≠ b) w1).drew
      generalize World.drew w1 = xs at *
      refine wpAnyH_take (i := 0) (v := ?vv1) (by rfl) (by kernel_rfl) (by kernel_rfl) (by kernel_rfl) (by intro _ _ _ h; exact h) (Or.inl ⟨by kernel_rfl, ?hy1⟩) (by assumption) ?rest1
      case hy1 =>
        intro w' hSw
        have hSw : Mods (fun y => y ≠ b) w1 w' := hSw
        clear hSw
        go_simp
        try with_reducible rfl
      change wpAnyH _ _ _ _ _ _ _ (Act.put _ (some 24) _) _
      try simp only [Act.put, List.setIfInBounds_toArray, List.set_cons_zero, List.set_cons_succ]
      refine wpAnyH_take (i := 1) (v := ?vv2) (by rfl) (by kernel_rfl) (by kernel_rfl) (by kernel_rfl) (by intro _ _ _ h; exact h) (Or.inl ⟨by kernel_rfl, ?hy2⟩) (by assumption) ?rest2
      case hy2 =>
        intro w' hSw
        have hSw : Mods (fun y => y ≠ b) w1 w' := hSw
        clear hSw
        go_simp
        try with_reducible rfl
      change wpAnyH _ _ _ _ _ _ _ (Act.put _ (some 25) _) _
      try simp only [Act.put, List.setIfInBounds_toArray, List.set_cons_zero, List.set_cons_succ]
      refine wpAnyH_take (i := 2) (v := ?vv3) (by rfl) (by kernel_rfl) (by kernel_rfl) (by kernel_rfl) (by intro _ _ _ h; exact h) (Or.inl ⟨by kernel_rfl, ?hy3⟩) (by assumption) ?rest3
      case hy3 =>
        intro w' hSw
        have hSw : Mods (fun y => y ≠ b) w1 w' := hSw
        clear hSw
        go_simp
        try with_reducible rfl
      change wpAnyH _ _ _ _ _ _ _ (Act.put _ (some 26) _) _
      try simp only [Act.put, List.setIfInBounds_toArray, List.set_cons_zero, List.set_cons_succ]
      refine wpAnyH_take (i := 3) (v := ?vv4) (by rfl) (by kernel_rfl) (by kernel_rfl) (by kernel_rfl) (by intro _ _ _ h; exact h) (Or.inl ⟨by kernel_rfl, ?hy4⟩) (by assumption) ?rest4
      case hy4 =>
        intro w' hSw
        have hSw : Mods (fun y => y ≠ b) w1 w' := hSw
        have hBq := HB1.out.mods hSw (fun e => e rfl)
        have hx0 : World.cell? w' ⟨b, 0, none⟩ = some (.pointer (some ⟨g, 0, none⟩)) := by rw [hBq.cell]; rfl
        clear hSw
        go_simp
        try with_reducible rfl
      change wpAnyH _ _ _ _ _ _ _ (Act.put _ (some 27) _) _
      try simp only [Act.put, List.setIfInBounds_toArray, List.set_cons_zero, List.set_cons_succ]
      refine wpAnyH_take (i := 4) (v := ?vv5) (by rfl) (by kernel_rfl) (by kernel_rfl) (by kernel_rfl) (by intro _ _ _ h; exact h) (Or.inl ⟨by kernel_rfl, ?hy5⟩) (by assumption) ?rest5
      case hy5 =>
        intro w' hSw
        have hSw : Mods (fun y => y ≠ b) w1 w' := hSw
        clear hSw
        go_simp
        try with_reducible rfl
      change wpAnyH _ _ _ _ _ _ _ (Act.put _ (some 28) _) _
      try simp only [Act.put, List.setIfInBounds_toArray, List.set_cons_zero, List.set_cons_succ]
      refine wpAnyH_take (i := 5) (v := ?vv6) (by rfl) (by kernel_rfl) (by kernel_rfl) (by kernel_rfl) (by intro _ _ _ h; exact h) (Or.inl ⟨by kernel_rfl, ?hy6⟩) (by assumption) ?rest6
      case hy6 =>
        intro w' hSw
        have hSw : Mods (fun y => y ≠ b) w1 w' := hSw
        clear hSw
        go_simp
        try with_reducible rfl
      change wpAnyH _ _ _ _ _ _ _ (Act.put _ (some 29) _) _
      try simp only [Act.put, List.setIfInBounds_toArray, List.set_cons_zero, List.set_cons_succ]
      refine wpAnyH_take (i := 6) (v := ?vv7) (by rfl) (by kernel_rfl) (by kernel_rfl) (by kernel_rfl) (by intro _ _ _ h; exact h) (Or.inl ⟨by kernel_rfl, ?hy7⟩) (by assumption) ?rest7
      case hy7 =>
        intro w' hSw
        have hSw : Mods (fun y => y ≠ b) w1 w' := hSw
        clear hSw
        go_simp
        try with_reducible rfl
      change wpAnyH _ _ _ _ _ _ _ (Act.put _ (some 30) _) _
      try simp only [Act.put, List.setIfInBounds_toArray, List.set_cons_zero, List.set_cons_succ]
      refine wpAnyH_take (i := 7) (v := ?vv8) (by rfl) (by kernel_rfl) (by kernel_rfl) (by kernel_rfl) (by intro _ _ _ h; exact h) (Or.inl ⟨by kernel_rfl, ?hy8⟩) (by assumption) ?rest8
      case hy8 =>
        intro w' hSw
        have hSw : Mods (fun y => y ≠ b) w1 w' := hSw
        have hBq := HB1.out.mods hSw (fun e => e rfl)
        have hx0 : World.cell? w' ⟨b, 1, none⟩ = some (.string (bstr x)) := by rw [hBq.cell]; rfl
        clear hSw
        go_simp
        try with_reducible rfl
      change wpAnyH _ _ _ _ _ _ _ (Act.put _ (some 31) _) _
      try simp only [Act.put, List.setIfInBounds_toArray, List.set_cons_zero, List.set_cons_succ]
      refine wpAnyH_take (i := 8) (v := ?vv9) (by rfl) (by kernel_rfl) (by kernel_rfl) (by kernel_rfl) (by intro _ _ _ h; exact h) (Or.inl ⟨by kernel_rfl, ?hy9⟩) (by assumption) ?rest9
      case hy9 =>
        intro w' hSw
        have hSw : Mods (fun y => y ≠ b) w1 w' := hSw
        clear hSw
        go_simp
        try with_reducible rfl
      change wpAnyH _ _ _ _ _ _ _ (Act.put _ (some 32) _) _
      try simp only [Act.put, List.setIfInBounds_toArray, List.set_cons_zero, List.set_cons_succ]
      refine wpAnyH_ready (rs := [9]) (by kernel_rfl) (by simp) ?_
      refine AllReadyH.cons (o := _) rfl (fun K hK => ?_) ?_
      · go_simp
        refine HAC.out.mono ?_
        rintro e w2 ⟨rfl, ho, hm⟩
        have HO2 := Lib.hid ho
        have HM2 := Lib.hid (HMD.out.trans hm (T := fun y => W.heap.size ≤ y ∧ y ∉ L1) (fun y hy _ => ⟨hy.1, .inl (fun hh => hy.2 (HL1.out y hh))⟩))
        have hb := hHeld.trans hm (T := fun y => W.heap.size ≤ y ∧ y ∉ L1) (fun y hy _ e => hy.2 (by rw [e]; exact HL1.out b HL.out))
        clear ho hm HAC HMD
        go_wp2_with fail
        refine hK.out _ _ hb (fun _ => ?_)
        clear hK K hHeld
        have hHeld : Mods (fun y => y ≠ b) w1 w2 := hb
        clear hb
        try simp only [Act.put, List.setIfInBounds_toArray, List.set_cons_zero, List.set_cons_succ]
        refine wpAnyH_take (i := 10) (v := ?vv10) (by rfl) (by kernel_rfl) (by kernel_rfl) (by kernel_rfl) (by intro _ _ _ h; exact h) (Or.inl ⟨by kernel_rfl, ?hy10⟩) (by assumption) ?rest10
        case hy10 =>
          intro w' hSw
          have hSw : Mods (fun y => y ≠ b) w1 w' := hSw
          clear hSw
          go_simp
          try with_reducible rfl
        change wpAnyH _ _ _ _ _ _ _ (Act.put _ (some 6) _) _
        try simp only [Act.put, List.setIfInBounds_toArray, List.set_cons_zero, List.set_cons_succ]
        refine wpAnyH_done (by kernel_rfl) ?_ _
        refine NoPanic.normal ?_
        have HB2 := Lib.hid (HB1.out.mods hHeld (fun e => e rfl))
        clear hHeld
        by_cases h3 : e3 = 0
        · have HX := Lib.hid (HX2.out.trans (if_pos h3))
          have t3 : (e3 == 0) = true := by simp [h3]
          have c2 : w2.cell? ⟨b, 2, none⟩ = some (.int .i64 (n : Int)) := by rw [HB2.out.cell]; rfl
          have z2 : w2.frozen? ⟨b, 2, none⟩ = false := HB2.out.frozen _
          subst h3
          go_wp2_with fail
          go_ret
          rw [HX.out]
          obtain ⟨S, h9⟩ := HO2.out
          have hM : Mods (fun y => y = b) w2 (w2.setCell ⟨b, 2, none⟩ (.int .i64 ((n : Int) + 1))) := (Mods.refl (fun y => y = b) w2).setCell (p := ⟨b, 2, none⟩) (fun _ => rfl) _
          have h10 : One L1 W (w2.setCell ⟨b, 2, none⟩ (.int .i64 ((n : Int) + 1))) g d3 (k + 3) S := ⟨h9.dsk.apart hM (fun y hy e => by subst e; exact (h9.ls _ hy).2.2 (HL1.out _ HL.out)), fun y hy => by have := h9.ls y hy; exact ⟨this.1, Nat.lt_of_lt_of_le this.2.1 hM.size, this.2.2⟩, fun y hy => Nat.lt_of_lt_of_le (h9.ll y hy) hM.size, hM.keeps h9.keep (fun y hy => by subst hy; exact hbW), h9.few⟩
          refine ⟨rfl, (show OneAt L1 _ _ _ _ _ from ⟨S, h10⟩).drop HL1.out, ?_, HM2.out.trans hM (fun y hy _ => ⟨by subst hy; exact hbW, .inr hy⟩)⟩
          have := HB2.out.set_ 2 (.int .i64 ((n : Int) + 1))
          simpa [logA] using this
        · have HX := Lib.hid (HX2.out.trans (if_neg h3))
          have t3 : (e3 == 0) = false := by simp [h3]
          clear h3
          go_wp2_with fail
          go_ret
          rw [HX.out]
          exact ⟨rfl, HO2.out.drop HL1.out, HB2.out, HM2.out⟩
      exact AllReadyH.nil
    · have HX := Lib.hid (HX1.out.trans (if_pos he))
      have t0 : (te == 0) = false := by simp [he]
      clear he
      go_wp2_with fail
      go_ret
      rw [HX.out]
      exact ⟨rfl, H1.out.more (by omega), HB1.out, Mods.of_keeps HK1.out⟩
end Txl
end Go.Proofs.Ytchjncnolmiejaa

/- TxlogSure, plain: what the disk keeps of a log, whenever the power goes. -/
namespace Go.Proofs.Ytchjncnolmiejaa
open Go.RowKit
namespace Txl
open Vd Sf Frm
def nmX : Str := [120]
def xF (a : Str) : Shp := ⟨[⟨a, a, [], false⟩], [(nmX, 0)], [(nmX, 0)], []⟩
def xG (a b : Str) : Shp := ⟨[⟨a ++ b, a, [⟨a.length, b⟩], false⟩], [(nmX, 0)], [(nmX, 0)], []⟩
def Xd (sh : Shp) (off : Bool) (n : Int) (f k : Int × Int) : Dsk := Wd 1048576 sh off n f k
section
variable {a b : Str} {n : Int} {f k : Int × Int}
theorem rxF (t : Int) (ks : List Int) : textD (bootD (Xd (xF a) true n f k) t ks).1 nmX = (a, 0) := by
  unfold bootD
  generalize t.toNat = m
  rcases m with _ | m <;> kernel_rfl
theorem rxG (t : Int) (ks : List Int) : ∃ m, textD (bootD (Xd (xG a b) true n f k) t ks).1 nmX = (a ++ b.take m, 0) := by
  have hb : (bootPats [⟨a.length, b⟩] a ks).1 = a ++ b.take (nKeep ks ⟨a.length, b⟩) := by
    rw [Sf.bootPats_one, keepN_eq]
    show (if b.take (nKeep ks ⟨a.length, b⟩) = [] then a else overL a a.length (b.take (nKeep ks ⟨a.length, b⟩))) = _
    split
    · rename_i h; rw [h, List.append_nil]
    · rw [Sf.overL_end]
  refine ⟨nKeep ks ⟨a.length, b⟩, ?_⟩
  rw [← hb]
  unfold bootD
  generalize t.toNat = m
  rcases m with _ | m <;> kernel_rfl
theorem append2X (h : Tr f k) (ha : a.length + b.length ≤ 1000000) : Out 1048576 (xF a) (xG a b) (appendD (Wd 1048576 (xF a) false n f k) nmX b) f :=
  out_of (begins_append nmX b) h (fun n' f' k' hc => by
    show appendD _ nmX b = _
    unfold appendD
    rw [touch_of hc (i := 0) (by kernel_rfl), if_neg (by show ¬ (0 : Int) ≠ 0; simp)]
    show writeD (Wd 1048576 (xF a) false n' f' k') 0 ⟨a.length, b⟩ = _
    unfold writeD
    rw [if_neg (by
      show ¬ (1048576 : Int) - ((bytesN [⟨a, a, [], false⟩] [(nmX, 0)] : Nat) : Int) < ((overL a a.length b).length : Int) - (a.length : Int)
      rw [Sf.overL_end]
      simp [bytesN]
      omega)]
    show (putD (Wd 1048576 (xF a) false n' f' k') 0 (wroteN ⟨a, a, [], false⟩ ⟨a.length, b⟩), (0 : Int)) = _
    unfold wroteN
    rw [show overL (Nod.mk a a [] false).seen (Pat.mk a.length b).place (Pat.mk a.length b).b = a ++ b from Sf.overL_end a b]
    kernel_rfl)
theorem sync2X (h : Tr f k) : Out 1048576 (xG a b) (xF (a ++ b)) (syncD (Wd 1048576 (xG a b) false n f k) nmX) f :=
  out_of (begins_sync nmX) h (fun n' f' k' hc => by
    show syncD _ nmX = _
    unfold syncD
    rw [touch_of hc (i := 0) (by kernel_rfl)]
    kernel_rfl)
theorem sappendX (h : Tr f k) (hf : f.1 = -1) (ha : a.length + b.length ≤ 1000000) : ∃ n' f' k', Tr f' k' ∧ f'.1 = -1 ∧ (sAppend nmX b (Xd (xF a) false n f k) = (Xd (xF (a ++ b)) false n' f' k', 0) ∨ sAppend nmX b (Xd (xF a) false n f k) = (Xd (xF a) true n' f' k', 11) ∨ sAppend nmX b (Xd (xF a) false n f k) = (Xd (xG a b) true n' f' k', 11)) := by
  unfold sAppend Xd
  obtain ⟨n2, f2, k2, t2, e2, hc2 | hc2⟩ := sure_of hf (append2X (n := n) (a := a) (b := b) h ha)
  · rw [hc2, thenD_go]
    obtain ⟨n3, f3, k3, t3, e3, hc3 | hc3⟩ := twice_out (room := 1048576) (sh := xG a b) (sh' := xF (a ++ b)) (o := fun d => syncD d nmX) (n := n2) (fun n f k h => sync2X h) t2
    · rw [show sSync nmX (Wd 1048576 (xG a b) false n2 f2 k2) = _ from hc3]
      exact ⟨n3, f3, k3, t3, e3 e2, .inl rfl⟩
    · rw [show sSync nmX (Wd 1048576 (xG a b) false n2 f2 k2) = _ from hc3]
      exact ⟨n3, f3, k3, t3, e3 e2, .inr (.inr rfl)⟩
  · rw [hc2, thenD_11]
    exact ⟨n2, f2, k2, t2, e2, .inr (.inl rfl)⟩
end
/-- a small transaction -/
def trSm (t : List Item) : Prop := t.length ≤ 10 ∧ ∀ x ∈ t, x.length ≤ 300
theorem trSm.ok {t : List Item} (h : trSm t) : trOk t := ⟨by have := h.1; omega, fun x hx => by have := h.2 x hx; omega⟩
theorem itemsL_300 {items : List Item} (h : ∀ x ∈ items, x.length ≤ 300) : (itemsL items).length ≤ items.length * 619 := by
  unfold itemsL
  induction items with
  | nil => simp
  | cons x l ih =>
    rw [List.flatMap_cons, List.length_append, List.length_cons]
    have h1 := wrapL_le 33 x
    have h2 := h x (List.mem_cons_self ..)
    have h3 := ih (fun y hy => h y (List.mem_cons_of_mem _ hy))
    omega
theorem trF_small {n : Nat} {t : List Item} (h : trSm t) : (cat (trF n t)).length ≤ 6268 := by
  rw [trF_cat, List.length_append, List.length_append]
  have h1 := headL_le n t.length
  have h2 := endL_le n
  have h3 := itemsL_300 h.2
  have h4 := h.1
  omega
theorem allF_small : ∀ (T : List (List Item)) (n : Nat), (∀ t ∈ T, trSm t) → (cat (allF n T)).length ≤ T.length * 6268
  | [], _, _ => by simp [allF, cat]
  | t :: T, n, h => by
    show (cat (trF n t ++ allF (n + 1) T)).length ≤ _
    rw [cat_append, List.length_append, List.length_cons]
    have h1 := trF_small (n := n) (h t (List.mem_cons_self ..))
    have h2 := allF_small T (n + 1) (fun x hx => h x (List.mem_cons_of_mem _ hx))
    omega
theorem allF_succ {T : List (List Item)} {j : Nat} (h : j < T.length) : cat (allF 1 (T.take (j + 1))) = cat (allF 1 (T.take j)) ++ cat (trF (j + 1) T[j]) := by
  rw [List.take_succ_eq_append_getElem h, allF_snoc, cat_append, List.length_take, show min j T.length = j from by omega, Nat.add_comm 1 j]
/-- the disk behind i adds, c of them done -/
def LogIs (T : List (List Item)) (c i : Nat) (d : Dsk) : Prop := ∃ n f k, Tr f k ∧ f.1 = -1 ∧ (c = i ∧ d = Xd (xF (cat (allF 1 (T.take c)))) false n f k ∨ c < i ∧ (d = Xd (xF (cat (allF 1 (T.take c)))) true n f k ∨ ∃ h : c < T.length, d = Xd (xG (cat (allF 1 (T.take c))) (cat (trF (c + 1) T[c]))) true n f k))
theorem addD_off {d : Dsk} (h : d.off = true) {c : Nat} {t : List Item} (ht : trOk t) : addD d nmX c true t = ((d, c), 11) := by
  unfold addD
  rw [if_neg (by simp)]
  have he := trF_tx (n := c + 1) (by omega) ht
  rw [show ((c + 1 : Nat) : Int) = (c : Int) + 1 from by omega] at he
  rw [if_neg (by rw [he.1]; simp), (off_ops h nmX _).1, if_neg (by show ¬ (11 : Int) = 0; decide)]
theorem logIs_step {T : List (List Item)} {c i : Nat} {d : Dsk} (h : LogIs T c i d) (hi : i < T.length) (hl : T.length ≤ 20) (hT : ∀ t ∈ T.take i, trSm t) (ht : trSm T[i]) : ∃ d' c' e, addD d nmX c true T[i] = ((d', c'), e) ∧ LogIs T c' (i + 1) d' ∧ (e = 0 ∧ c' = c + 1 ∨ e = 11 ∧ c' = c) := by
  obtain ⟨n, f, k, tr, hf, ⟨rfl, hd⟩ | ⟨hci, hd⟩⟩ := h
  · have he := trF_tx (n := c + 1) (by omega) ht.ok
    rw [show ((c + 1 : Nat) : Int) = (c : Int) + 1 from by omega] at he
    have hb1 := allF_small (T.take c) 1 hT
    have hb2 := trF_small (n := c + 1) ht
    rw [List.length_take] at hb1
    have hm : min c T.length * 6268 ≤ 20 * 6268 := Nat.mul_le_mul_right _ (by omega)
    have hx := sappendX (n := n) (a := cat (allF 1 (T.take c))) (b := cat (trF (c + 1) T[c])) tr hf (by omega)
    obtain ⟨n', f', k', tr', hf', hx⟩ := hx
    unfold addD
    rw [if_neg (by simp), if_neg (by rw [he.1]; simp), he.2, hd]
    rcases hx with hx | hx | hx
    · rw [hx, if_pos rfl]
      exact ⟨_, _, _, rfl, ⟨n', f', k', tr', hf', .inl ⟨rfl, by rw [allF_succ hi]⟩⟩, .inl ⟨rfl, rfl⟩⟩
    · rw [hx, if_neg (by show ¬ (11 : Int) = 0; decide)]
      exact ⟨_, _, _, rfl, ⟨n', f', k', tr', hf', .inr ⟨by omega, .inl rfl⟩⟩, .inr ⟨rfl, rfl⟩⟩
    · rw [hx, if_neg (by show ¬ (11 : Int) = 0; decide)]
      exact ⟨_, _, _, rfl, ⟨n', f', k', tr', hf', .inr ⟨by omega, .inr ⟨hi, rfl⟩⟩⟩, .inr ⟨rfl, rfl⟩⟩
  · have ho : d.off = true := by
      rcases hd with hd | ⟨_, hd⟩ <;> rw [hd] <;> rfl
    rw [addD_off ho ht.ok]
    exact ⟨_, _, _, rfl, ⟨n, f, k, tr, hf, .inr ⟨by omega, hd⟩⟩, .inr ⟨rfl, rfl⟩⟩
theorem app_take (A B : Str) (j : Nat) : A ++ B.take j = (A ++ B).take (A.length + min j B.length) := by
  rw [List.take_append, List.take_of_length_le (l := A) (Nat.le_add_right _ _), Nat.add_sub_cancel_left, show B.take j = B.take (min j B.length) from by rw [List.take_eq_take_iff]; omega]
theorem rep_at (T : List (List Item)) (hT : ∀ t ∈ T, trOk t) (hn : T.length < 1000000) {c c0 : Nat} {s : Str} (hc : c ≤ T.length) (h0 : (cat (allF 1 (T.take c))).length ≤ c0) (h1 : c0 ≤ (cat (allF 1 (T.take (c + 1)))).length) (hs : s = (cat (allF 1 (T.take (c + 1)))).take c0) : ∃ m, c ≤ m ∧ m ≤ c + 1 ∧ m ≤ T.length ∧ (rep s).1 = numd 1 (T.take m) := by
  have hr := rep_cut (T.take (c + 1)) (fun t ht => hT t (List.mem_of_mem_take ht)) (by rw [List.length_take]; omega) c0 h1
  have hle := cntB_le (T.take (c + 1)) 1 c0
  rw [List.length_take] at hle
  refine ⟨cntB 1 (T.take (c + 1)) c0, ?_, by omega, by omega, ?_⟩
  · cases c with
    | zero => omega
    | succ c =>
      have := (ends_cnt (T.take (c + 1 + 1)) 1 c0 c (by rw [List.length_take]; omega)).1 (by rw [List.take_take, show min (c + 1) (c + 1 + 1) = c + 1 from by omega]; exact h0)
      omega
  · unfold rep
    rw [hs, hr, List.take_take, show min (cntB 1 (T.take (c + 1)) c0) (c + 1) = cntB 1 (T.take (c + 1)) c0 from by omega]
theorem logIs_end {T : List (List Item)} {c : Nat} {d : Dsk} (h : LogIs T c T.length d) (hl : T.length ≤ 20) (hT : ∀ t ∈ T, trSm t) (t : Int) (ks : List Int) : ∃ s m, textD (bootD (downD d) t ks).1 nmX = (s, 0) ∧ c ≤ m ∧ m ≤ c + 1 ∧ m ≤ T.length ∧ (rep s).1 = numd 1 (T.take m) := by
  have hT' : ∀ t ∈ T, trOk t := fun t ht => (hT t ht).ok
  have hmono : (cat (allF 1 (T.take c))).length ≤ (cat (allF 1 (T.take (c + 1)))).length := by
    by_cases hc : c < T.length
    · rw [allF_succ hc, List.length_append]; omega
    · rw [List.take_of_length_le (by omega), List.take_of_length_le (show T.length ≤ c + 1 by omega)]
      exact Nat.le_refl _
  have hpre : (cat (allF 1 (T.take (c + 1)))).take (cat (allF 1 (T.take c))).length = cat (allF 1 (T.take c)) := by
    by_cases hc : c < T.length
    · rw [allF_succ hc, List.take_append_of_le_length (Nat.le_refl _), List.take_of_length_le (Nat.le_refl _)]
    · rw [List.take_of_length_le (show T.length ≤ c + 1 by omega), List.take_of_length_le (show T.length ≤ c by omega), List.take_of_length_le (Nat.le_refl _)]
  obtain ⟨n, f, k, tr, hf, ⟨hce, hd⟩ | ⟨hci, hd | ⟨hc, hd⟩⟩⟩ := h
  · have hdn : downD d = Xd (xF (cat (allF 1 (T.take c)))) true (n + 1) ((springT f.1).1, f.2) (-1, 11) := by rw [hd]; exact downD_go rfl
    obtain ⟨m, h1, h2, h3, h4⟩ := rep_at T hT' (by omega) (c := c) (by omega) (Nat.le_refl _) hmono hpre.symm
    exact ⟨_, m, by rw [hdn]; exact rxF t ks, h1, h2, h3, h4⟩
  · have hdn : downD d = d := if_pos (by rw [hd]; rfl)
    obtain ⟨m, h1, h2, h3, h4⟩ := rep_at T hT' (by omega) (c := c) (by omega) (Nat.le_refl _) hmono hpre.symm
    exact ⟨_, m, by rw [hdn, hd]; exact rxF t ks, h1, h2, h3, h4⟩
  · have hdn : downD d = d := if_pos (by rw [hd]; rfl)
    obtain ⟨j, hj⟩ := rxG (a := cat (allF 1 (T.take c))) (b := cat (trF (c + 1) T[c])) (n := n) (f := f) (k := k) t ks
    have hs : cat (allF 1 (T.take c)) ++ (cat (trF (c + 1) T[c])).take j = (cat (allF 1 (T.take (c + 1)))).take ((cat (allF 1 (T.take c))).length + min j (cat (trF (c + 1) T[c])).length) := by
      rw [allF_succ hc]
      exact app_take _ _ _
    obtain ⟨m, h1, h2, h3, h4⟩ := rep_at T hT' (by omega) (c := c) (by omega) (Nat.le_add_right _ _) (by rw [allF_succ hc, List.length_append]; omega) hs
    exact ⟨_, m, by rw [hdn, hd]; exact hj, h1, h2, h3, h4⟩
end Txl
end Go.Proofs.Ytchjncnolmiejaa

/- law17's awake. -/
namespace Go.Proofs.Ytchjncnolmiejaa
open Go.RowKit
namespace Txl
open Vd
def tb : List UInt8 := txL 1 []
theorem tb_e : txE 1 [] = 0 := by kernel_rfl
theorem tb_len : tb.length = 38 := by kernel_rfl
theorem tb_rep : rep tb = ([(1, [])], 38) := by kernel_rfl
theorem tb_cut : rep (tb.take 37) = ([], 0) := by kernel_rfl
def nX : Str := [120]
def ax0 : Dsk := ⟨1000, [], [], [], [], false, 0, (-1, 0), (-1, 0)⟩
theorem ax0_new : newD [] 1000 = some ax0 := by kernel_rfl
theorem ax0_few : Few ax0 0 := ⟨by decide, by decide, by decide, by decide, by intro y hy; exact absurd hy (List.not_mem_nil), by decide, by decide⟩
def ax1 : Dsk := (openD ax0 nX).1
theorem ax1_e : (openD ax0 nX).2 = (0, []) := by kernel_rfl
theorem ax1_r : rep [] = ([], 0) := by kernel_rfl
theorem ax2_e : (addD ax1 nX 0 true [[97]]).2 = 0 := by kernel_rfl
theorem ax2_n : (addD ax1 nX 0 true [[97]]).1.2 = 1 := by kernel_rfl
set_option maxRecDepth 100000 in
set_option maxHeartbeats 4000000 in
theorem awake17_any (w : World) : Calls Try.prog 33 #[] w fun e w' => e = .returned (.bool true) ∧ Keeps w w' := by
  have HBY := Lib.hid (txBytes_any 1 (by omega) (.slice none 0 0) [] w (.inl ⟨none, 0, rfl, rfl, Nat.zero_le _, fun _ => rfl⟩) (fun y hy => absurd hy (List.not_mem_nil)))
  unfold Frm.RetSI at HBY
  rw [show txE 1 (([] : List (Value × List UInt8)).map (·.2)) = 0 from tb_e, show txL 1 (([] : List (Value × List UInt8)).map (·.2)) = tb from rfl] at HBY
  go_enter Try.func33, Try.ntmps33
  go_wp2_with fail
  refine HBY.out.mono ?_
  rintro e w1 ⟨tv, rfl, hown, hk1⟩
  have HO := Lib.hid hown
  have HK1 := Lib.hid hk1
  have hform := hown.row.formB
  rw [tb_len] at hform
  obtain ⟨pt, ct, rfl, hc1, hc2⟩ := hform
  have HRW := Lib.hid (show Row w1 (.slice pt 38 ct) (tb.map u8v) from hown.row)
  have HRP := Lib.hid (replay_any (.slice pt 38 ct) tb w1 HRW.out (by rw [tb_len]; omega))
  rw [show replayF (Frm.rowR tb).1 = ([(1, [])], 38) from tb_rep] at HRP
  unfold ReplayDid at HRP
  clear hown hk1 HBY
  go_wp2_with fail
  refine HRP.out.mono ?_
  rintro e w2 ⟨tx, X, rfl, ht, hX, hk2⟩
  have hXl : X.length = 1 := by have := congrArg List.length hX; simpa using this
  obtain ⟨px, cx, rfl, -, -⟩ := Frm.ownsRow_form ht.own
  rw [hXl]
  have HK2 := Lib.hid (HK1.out.trans hk2)
  obtain ⟨pc, hpc⟩ := cutS_sl 1 pt 0 37 ct
  rw [Nat.sub_zero, Nat.sub_zero] at hpc
  have hcut : ∀ w', (Instr.slice 22 (.slice pt 38 ct) none (some (.int .i64 37)) none).run Try.prog w' = .ok (.slice pc 37 ct) w' := fun w' => by
    rw [← hpc]
    exact run_cutS_h w' Try.underlying22 (by intro w; kernel_rfl) pt 38 ct 37 (by omega)
  have HRC := Lib.hid (show Row w2 (.slice pc 37 ct) ((tb.take 37).map u8v) from by
    have h0 := (HRW.out.keeps hk2).s
    rw [show (tb.map u8v).length = 38 from by rw [List.length_map, tb_len]] at h0
    have := h0.cut (lo := 0) (hi := 37) (Nat.zero_le _) (by omega)
    rw [hpc] at this
    have e : ((tb.map u8v).drop (0 * 1)).take ((37 - 0) * 1) = (tb.take 37).map u8v := by simp [List.map_take]
    rw [e] at this
    exact this.row)
  have HRP2 := Lib.hid (replay_any (.slice pc 37 ct) (tb.take 37) w2 HRC.out (by rw [List.length_take, tb_len]; omega))
  rw [show replayF (Frm.rowR (tb.take 37)).1 = ([], 0) from tb_cut] at HRP2
  unfold ReplayDid at HRP2
  clear hXl ht hX hk2 HRP hpc
  go_wp2_with fail
  refine HRP2.out.mono ?_
  rintro e w3 ⟨ty, Y, rfl, hy, hY, hk3⟩
  have hYl : Y.length = 0 := by have := congrArg List.length hY; simpa using this
  obtain ⟨py, cy, rfl, -, -⟩ := Frm.ownsRow_form hy.own
  rw [hYl]
  have HK3 := Lib.hid (HK2.out.trans hk3)
  clear hYl hy hY hk3 HRP2 hcut
  have HNW := Lib.hid (new_at HK3.out (.slice none 0 0) [] (rowS_none _) (fun f hf => absurd hf (List.not_mem_nil)) 1000)
  unfold NewAt at HNW
  rw [ax0_new] at HNW
  go_wp2_with fail
  refine HNW.out.mono ?_
  rintro e w4 ⟨hk, g, rfl, hd⟩
  have H0 := Lib.hid (show At w w4 g ax0 0 from ⟨hd, hk, ax0_few⟩)
  clear hd hk HNW
  have HOP := Lib.hid (open_any (At.one H0.out) (by omega) nX (by decide))
  unfold OpenDid at HOP
  rw [ax1_e] at HOP
  unfold nX at HOP
  go_wp2_with fail
  refine HOP.out.mono ?_
  rintro e w5 ho
  rw [if_pos trivial] at ho
  obtain ⟨lb, tv, Z, rfl, hlb, hA, hM, hB, hZ, hZe⟩ := ho
  rw [ax1_r] at hB hZe
  have hZl : Z.length = 0 := by have := congrArg List.length hZe; simpa using this
  obtain ⟨pz, cz, rfl, -, -⟩ := Frm.ownsRow_form hZ.own
  rw [hZl]
  have HA := Lib.hid (show OneAt [lb] w w5 g ax1 8 from hA)
  have HB := Lib.hid (show Blk w5 lb 172 (logA g nX 0 true) from hB)
  have HLB := Lib.hid (show w.heap.size ≤ lb from Nat.le_trans H0.out.keep.size hlb)
  clear hlb hA hM hB hZ hZe hZl HOP
  have kc := fun (w : World) (C : Array Value) (n c : Nat) => Lib.run_convert_bytes_const (P := Try.prog) w 22 5 C n c Try.underlying22 Try.underlying5
  have HK5 := Lib.hid (show Keeps w w5 from HA.out.kp)
  obtain ⟨wa, hwa⟩ : ∃ wa, wa = (w5.alloc (.cells #[.int .u8 97] 5 (1, 2))).alloc (.cells #[.slice (some ⟨w5.heap.size, 0, none⟩) 1 1] 22) := ⟨_, rfl⟩
  have HKa := Lib.hid (show Keeps w5 wa from by rw [hwa]; exact ((Keeps.refl _).alloc _).alloc _)
  have HR1 := Lib.hid (show Row wa (.slice (some ⟨w5.heap.size, 0, none⟩) 1 1) (([97] : List UInt8).map u8v) from by
    rw [hwa]
    exact (Frm.row_mark (w := w5) (l := [97].map u8v) rfl rfl (by decide)).keeps ((Keeps.refl _).alloc _))
  have HR2 := Lib.hid (show Row wa (.slice (some ⟨w5.heap.size + 1, 0, none⟩) 1 1) ([((Value.slice (some ⟨w5.heap.size, 0, none⟩) 1 1), ([97] : List UInt8))].map (·.1)) from by
    rw [hwa]
    exact row_alloc (by rw [Frm.alloc_size]) rfl rfl (by unfold maxLen; simp))
  have HAD := Lib.hid (add_any (HA.out.keeps HKa.out) (by omega) (List.mem_cons_self ..) HLB.out (HB.out.keeps HKa.out) (by omega) (by decide) (.slice (some ⟨w5.heap.size + 1, 0, none⟩) 1 1) [((Value.slice (some ⟨w5.heap.size, 0, none⟩) 1 1), ([97] : List UInt8))] HR2.out (fun y hy => by simp at hy; subst hy; exact HR1.out))
  unfold AddDid at HAD
  rw [show addD ax1 nX 0 true ([((Value.slice (some ⟨w5.heap.size, 0, none⟩) 1 1), ([97] : List UInt8))].map (·.2)) = addD ax1 nX 0 true [[97]] from rfl, ax2_e, ax2_n] at HAD
  rw [hwa] at HAD
  generalize addD ax1 nX 0 true [[97]] = r at *
  clear hwa
  go_wp2_with fail
  refine HAD.out.mono ?_
  rintro e w6 ⟨rfl, h6, hb6, -⟩
  have HK6 := Lib.hid h6.kp
  have HLN := Lib.hid (len_any w6 hb6)
  have HWL := Lib.hid (whole_any w6 hb6)
  have HNM := Lib.hid (name_any w6 hb6)
  unfold nX at HNM
  clear h6 hb6 HAD
  have hbn : ((bstr [120]).toList == [120]) = true := by rw [bstr_toList]; rfl
  go_wp2_with fail
  refine HLN.out.mono ?_
  rintro e w7 ⟨rfl, rfl⟩
  go_wp2_with fail
  refine HWL.out.mono ?_
  rintro e w7 ⟨rfl, rfl⟩
  go_wp2_with fail
  refine HNM.out.mono ?_
  rintro e w7 ⟨rfl, rfl⟩
  go_wp2_with fail
  go_ret
  exact ⟨rfl, HK6.out⟩
end Txl
end Go.Proofs.Ytchjncnolmiejaa

/- safe: Tidy. -/
import Derived.Test.YtchjncnolmiejaaGreatStrFix
import Derived.Test.YtchjncnolmiejaaGreatK36
import Derived.Test.YtchjncnolmiejaaGreatK44
namespace Go.Proofs.YtchjncnolmiejaaGreat
open Go.RowKit
namespace Sf
open Vd
open Rs (strV own_n rowAtV)
theorem tidyN_pre (p x : Str) : tidyN p x = (Sx.preB x p && Sx.sufB x dotN) := by
  unfold tidyN Sx.preB Sx.sufB
  have e : ∀ a b : Str, (a == b) = decide (a = b) := fun a b => by by_cases h : a = b <;> simp [h]
  rw [show dotN.length = 2 from rfl, Bool.decide_and, Bool.decide_and, e, e]
/-- what is left to be unlinked -/
def tidyF (p : Str) (l : List Str) : List Str := l.filter (tidyN p)
theorem unlinksD_cons (x : Str) (l : List Str) (d : Dsk) : unlinksD (x :: l) d = if (unlinkD d x).2 ≠ 0 then unlinkD d x else unlinksD l (unlinkD d x).1 := rfl
theorem tidyF_drop (p : Str) {l : List Str} {j : Nat} (h : j < l.length) : tidyF p (l.drop j) = if tidyN p l[j] = true then l[j] :: tidyF p (l.drop (j + 1)) else tidyF p (l.drop (j + 1)) := by
  unfold tidyF
  rw [List.drop_eq_getElem_cons h, List.filter_cons]
section
variable {S : Nat → Prop} {w1 w wb : World} {g : Nat} {d : Dsk} {k : Nat}
/-- a slice made since lies apart from the disk -/
theorem On.stays (h : On S w1 w g d k) {e : TypeId} {v : Value} {l : List Value} (ho : Own wb w.heap.size e v l) : Stays (More S w1 w) wb v l := fun w2 hm => by
  rcases ho.2 with ⟨hv, hl⟩ | ⟨b, cap, cur, hv, hb, hgg, rest⟩
  · have hl0 : l = [] := List.eq_nil_of_length_eq_zero hl
    subst hl0
    subst hv
    exact row_nil w2
  · subst hv
    refine row_modsB ho.row hm (fun hh => ?_)
    have hs := h.mods.size
    rcases hh with hh | hh
    · have := h.lt b hh
      omega
    · omega
set_option maxRecDepth 100000 in
set_option maxHeartbeats 4000000 in
theorem stidy_on (h : On S w1 w g d k) (p : Str) (hp : p.length ≤ 1000000000) (hxl : ∀ y ∈ d.seen, y.1.length ≤ 1000000000) {N : Nat} (hN : d.seen.length ≤ N) (hk : k + N ≤ 89900) : Calls Tryz.prog 70 #[.pointer (some ⟨g, 0, none⟩), .string (bstr p)] w (Says (Tells S w1 g (sTidy p d) (k + N))) := by
  have H := Lib.hid h
  have HNM := Lib.hid (names_any w h.dsk)
  clear h
  obtain ⟨l, hl⟩ : ∃ l, l = (namesD d).map (·.1) := ⟨_, rfl⟩
  have hll : l.length ≤ N := by
    rw [hl, List.length_map]
    unfold namesD
    split
    · exact Nat.zero_le _
    · exact hN
  have HXL := Lib.hid (show ∀ x ∈ l, x.length ≤ 1000000000 from fun x hx => by
    rw [hl] at hx
    obtain ⟨y, hy, rfl⟩ := List.mem_map.1 hx
    unfold namesD at hy
    split at hy
    · exact absurd hy (List.not_mem_nil)
    · exact hxl y hy)
  have HX0 := Lib.hid (show sTidy p d = unlinksD (tidyF p l) d from by
    rw [hl]
    unfold sTidy namesD
    cases d.off <;> rfl)
  have HNV := Lib.hid (show nameV (namesD d) = l.map strV from by rw [hl, List.map_map]; rfl)
  clear hl hxl hN
  go_enter Tryz.func70, Tryz.ntmps70
  go_wp2_with fail
  refine HNM.out.mono ?_
  rintro e wb ⟨v, rfl, hown, hkb⟩
  rw [HNV.out] at hown
  have HST := Lib.hid (On.stays H.out hown)
  obtain ⟨pn, n, cn, rfl⟩ := hown.sl
  have HNL := Lib.hid (show n = l.length from by rw [own_n hown, List.length_map])
  have hnn : n ≤ 89900 := by rw [HNL.out]; omega
  have HB := Lib.hid (H.out.base hkb)
  have HKB := Lib.hid hkb
  clear hown hkb HNM HNV
  go_wp2_with fail
  go_loopw [11] (fun ix wr => ∃ (j : Nat) (dj : Dsk), ix = .int .i64 (j : Int) ∧ j ≤ n ∧ Hid (On (More S w1 w) wb wr g dj (k + j) ∧ unlinksD (tidyF p l) d = unlinksD (tidyF p (l.drop j)) dj)) (fun ix _ => n - (RowKit.intOf ix).toNat)
  case atStart => exact ⟨0, d, rfl, Nat.zero_le _, Lib.hid ⟨HB.out, rfl⟩⟩
  case round =>
    obtain ⟨j, dj, rfl, hj, HQ⟩ := hrel
    by_cases hlt : j < n
    · have hjl : j < l.length := by rw [← HNL.out]; exact hlt
      have hlt' : (j : Int) < (n : Int) := by omega
      obtain ⟨b, off, rfl, hcell⟩ := rowAtV (HST.out wr HQ.out.1.mods) (by rw [List.length_map]; exact hjl)
      have hcell2 : wr.cell? ⟨b, off + j, none⟩ = some (.string (bstr l[j])) := by rw [hcell]; simp [strV]
      have hsl := HXL.out _ (List.getElem_mem hjl)
      have HTS := Lib.hid (tidyF_drop p hjl)
      generalize l[j] = s at *
      have HP := Lib.hid (Sx.pre_any s p (by omega) (by omega) wr)
      have HSF := Lib.hid (show Calls Tryz.prog 117 #[.string (bstr s), .string ⟨#[46, 110]⟩] wr fun e w' => e = .returned (.bool (Sx.sufB s dotN)) ∧ wr = w' from Sx.suf_any s dotN (by omega) (by decide) wr)
      have HTN := Lib.hid (tidyN_pre p s)
      clear hcell
      cases hA : Sx.preB s p with
      | false =>
        rw [hA] at HP
        have hno : ¬ tidyN p s = true := by rw [HTN.out, hA]; simp
        have HQ2 := Lib.hid (show unlinksD (tidyF p l) d = unlinksD (tidyF p (l.drop (j + 1))) dj from by rw [HQ.out.2, HTS.out, if_neg hno])
        clear hno hA HTN HTS
        go_wp2_with fail
        refine HP.out.mono ?_
        rintro e w5 ⟨rfl, rfl⟩
        go_wp2_with fail
        go_roundw
        case rel => exact ⟨j + 1, dj, by simp, by omega, Lib.hid ⟨On.more HQ.out.1 (by omega), HQ2.out⟩⟩
        case measure =>
          simp only [RowKit.intOf]
          omega
      | true =>
        rw [hA] at HP
        cases hB : Sx.sufB s dotN with
        | false =>
          rw [hB] at HSF
          have hno : ¬ tidyN p s = true := by rw [HTN.out, hA, hB]; simp
          have HQ2 := Lib.hid (show unlinksD (tidyF p l) d = unlinksD (tidyF p (l.drop (j + 1))) dj from by rw [HQ.out.2, HTS.out, if_neg hno])
          clear hno hA hB HTN HTS
          go_wp2_with fail
          refine HP.out.mono ?_
          rintro e w5 ⟨rfl, rfl⟩
          go_wp2_with fail
          refine HSF.out.mono ?_
          rintro e w5 ⟨rfl, rfl⟩
          go_wp2_with fail
          go_roundw
          case rel => exact ⟨j + 1, dj, by simp, by omega, Lib.hid ⟨On.more HQ.out.1 (by omega), HQ2.out⟩⟩
          case measure =>
            simp only [RowKit.intOf]
            omega
        | true =>
          rw [hB] at HSF
          have hyes : tidyN p s = true := by rw [HTN.out, hA, hB]; rfl
          have HQ2 := Lib.hid (show unlinksD (tidyF p l) d = if (unlinkD dj s).2 ≠ 0 then unlinkD dj s else unlinksD (tidyF p (l.drop (j + 1))) (unlinkD dj s).1 from by rw [HQ.out.2, HTS.out, if_pos hyes, unlinksD_cons])
          have HU := Lib.hid (unlink_on HQ.out.1 (by omega) s (by unfold maxLen; omega))
          generalize unlinkD dj s = q1 at *
          obtain ⟨d1, e1⟩ := q1
          simp only at HU HQ2
          clear hyes hA hB HTN HTS
          go_wp2_with fail
          refine HP.out.mono ?_
          rintro e w5 ⟨rfl, rfl⟩
          go_wp2_with fail
          refine HSF.out.mono ?_
          rintro e w5 ⟨rfl, rfl⟩
          go_wp2_with fail
          refine HU.out.mono ?_
          rintro e w6 ⟨rfl, ho6⟩
          have HO6 := Lib.hid ho6
          clear ho6 HU HP HSF hcell2
          by_cases he : e1 = 0
          · subst he
            have HQ3 := Lib.hid (HQ2.out.trans (if_neg (by simp)))
            go_wp2_with fail
            go_roundw
            case rel => exact ⟨j + 1, d1, by simp, by omega, Lib.hid ⟨On.more HO6.out (by omega), HQ3.out⟩⟩
            case measure =>
              simp only [RowKit.intOf]
              omega
          · have HX : Hid (sTidy p d = (d1, e1)) := Lib.hid (HX0.out.trans (HQ2.out.trans (if_pos he)))
            have he' : (e1 != 0) = true := by simp [he]
            clear he
            go_wp2_with fail
            go_ret
            refine ⟨e1, rfl, ?_⟩
            rw [HX.out]
            exact ⟨rfl, On.more (H.out.back HKB.out HO6.out) (by omega)⟩
    · obtain rfl : j = n := by omega
      have hlt' : decide ((j : Int) < (j : Int)) = false := by simp
      have HX : Hid (sTidy p d = (dj, 0)) := Lib.hid (by rw [HX0.out, HQ.out.2, HNL.out, List.drop_length]; rfl)
      have hjN : j ≤ N := by rw [HNL.out]; exact hll
      go_wp2_with fail
      go_ret
      refine ⟨0, rfl, ?_⟩
      rw [HX.out]
      exact ⟨rfl, On.more (H.out.back HKB.out HQ.out.1) (by omega)⟩
end
end Sf
namespace Rf
open Vd
open Go.Maps
section
variable {L : List Nat} {W w w' : World} {g m : Nat} {d d' : Dsk} {r : RDsk} {k k' : Nat} {S M : Nat → Prop}
theorem Two.on (h : Two L W w g d m r k S M) : On S w w g d k := ⟨h.dsk.wide (fun y hy => .inl hy), Mods.refl _ _, h.few, fun y hy => (h.ls y hy).2.1⟩
theorem Two.rest (h : Two L W w g d m r k S M) (ho : On S w w' g d' k') (hk : k ≤ k') : TwoAt L W w' g d' m r k' ∧ Mods (fun y => W.heap.size ≤ y ∧ y ∉ L) w w' := h.disk ho.dsk (ho.mods.mono (fun y hy => .inl hy)) ho.few hk
theorem Two.says (h : Two L W w g d m r k S M) {q : Dsk × Int} {f : Nat} {args : Array Value} (hc : Calls Tryz.prog f args w (Sf.Says (Sf.Tells S w g q k'))) (hk : k ≤ k') : Calls Tryz.prog f args w (TwoDid L W w g q.1 m r k' (.int .i64 q.2)) :=
  hc.mono (fun _ _ ⟨c, h1, h2, h3⟩ => ⟨by rw [h1, h2], h.rest h3 hk⟩)
theorem Two.stays (h : Two L W w g d m r k S M) {v : Value} {l : List Value} (hs : Rs.Stay2 L W w v l) : Sf.Stays S w v l := fun w2 hm => hs S w2 (fun y hy => ⟨(h.ls y hy).1, (h.ls y hy).2.2⟩) hm
theorem sappend_two (h : TwoAt L W w g d m r k) (hk : k ≤ 89900) (x : Str) (hx : x.length ≤ maxLen) {b : Str} {p0 : Option Addr} {c0 : Nat} (hb : Rs.Stay2 L W w (.slice p0 b.length c0) (b.map u8v)) (hbl : b.length ≤ 1000000000) : Calls Tryz.prog 67 #[.pointer (some ⟨g, 0, none⟩), .string (bstr x), .slice p0 b.length c0] w (TwoDid L W w g (Sf.sAppend x b d).1 m r (k + 3) (.int .i64 (Sf.sAppend x b d).2)) := by
  obtain ⟨S, M, h⟩ := h
  exact h.says (Sf.sappend_on h.on (by omega) hx (h.stays hb) hbl) (by omega)
theorem smake_two (h : TwoAt L W w g d m r k) (hk : k ≤ 89900) (x : Str) (hx : x.length ≤ 100) {b : Str} {p0 : Option Addr} {c0 : Nat} (hb : Rs.Stay2 L W w (.slice p0 b.length c0) (b.map u8v)) (hbl : b.length ≤ 1000000000) : Calls Tryz.prog 41 #[.pointer (some ⟨g, 0, none⟩), .string (bstr x), .slice p0 b.length c0] w (TwoDid L W w g (Sf.sMake x b d).1 m r (k + 8) (.int .i64 (Sf.sMake x b d).2)) := by
  obtain ⟨S, M, h⟩ := h
  exact h.says (Sf.smake_on h.on (by omega) hx (h.stays hb) hbl) (by omega)
theorem sswap_two (h : TwoAt L W w g d m r k) (hk : k ≤ 89900) (x : Str) (hx : x.length ≤ 100) {b : Str} {p0 : Option Addr} {c0 : Nat} (hb : Rs.Stay2 L W w (.slice p0 b.length c0) (b.map u8v)) (hbl : b.length ≤ 1000000000) : Calls Tryz.prog 55 #[.pointer (some ⟨g, 0, none⟩), .string (bstr x), .slice p0 b.length c0] w (TwoDid L W w g (Sf.sSwap x b d).1 m r (k + 10) (.int .i64 (Sf.sSwap x b d).2)) := by
  obtain ⟨S, M, h⟩ := h
  exact h.says (Sf.sswap_on h.on (by omega) hx (h.stays hb) hbl) (by omega)
theorem sdrop_two (h : TwoAt L W w g d m r k) (hk : k ≤ 89900) (x : Str) (hx : x.length ≤ 100) : Calls Tryz.prog 68 #[.pointer (some ⟨g, 0, none⟩), .string (bstr x)] w (TwoDid L W w g (Sf.sDrop x d).1 m r (k + 3) (.int .i64 (Sf.sDrop x d).2)) := by
  obtain ⟨S, M, h⟩ := h
  exact h.says (Sf.sdrop_on h.on (by omega) hx) (by omega)
theorem stidy_two (h : TwoAt L W w g d m r k) (p : Str) (hp : p.length ≤ 1000000000) (hxl : ∀ y ∈ d.seen, y.1.length ≤ 1000000000) {N : Nat} (hN : d.seen.length ≤ N) (hk : k + N ≤ 89900) : Calls Tryz.prog 70 #[.pointer (some ⟨g, 0, none⟩), .string (bstr p)] w (TwoDid L W w g (Sf.sTidy p d).1 m r (k + N) (.int .i64 (Sf.sTidy p d).2)) := by
  obtain ⟨S, M, h⟩ := h
  exact h.says (Sf.stidy_on h.on p hp hxl hN hk) (by omega)
theorem has_two (h : TwoAt L W w g d m r k) (x : Str) (hx : x.length ≤ maxLen) : Calls Tryz.prog 66 #[.pointer (some ⟨g, 0, none⟩), .string (bstr x)] w fun e w' => e = .returned (.bool (Sf.hasD d x)) ∧ w = w' := by
  obtain ⟨S, M, h⟩ := h
  exact Sf.has_on h.on x hx
end
end Rf
end Go.Proofs.YtchjncnolmiejaaGreat

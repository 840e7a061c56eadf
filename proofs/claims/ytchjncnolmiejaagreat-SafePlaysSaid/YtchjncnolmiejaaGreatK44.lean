/- Several texts in one: RsTidy, RfBoot. -/
import Derived.Test.YtchjncnolmiejaaGreatK43
/- ref16's Tidy, both disks side by side. (MADE BY gen_rstidy.py.) -/
namespace Go.Proofs.YtchjncnolmiejaaGreat
open Go.RowKit
namespace Rs
open Vd Rf Sf
open Go.Maps
def strV (x : Str) : Value := .string (bstr x)
theorem strok1 : ElemOk Tryz.prog 136 9 16 := elemOk (z := .string (bstr [])) Tryz.underlying136 (by kernel_rfl) rfl
theorem own_n {w : World} {base : Nat} {e : TypeId} {p : Option Addr} {n c : Nat} {l : List Value} (h : Own w base e (.slice p n c) l) : n = l.length := by
  obtain ⟨p', c', hv, -, -⟩ := h.row.form
  simp only [Value.slice.injEq] at hv
  exact hv.2.1
theorem tidyL_succ (p : Str) {l : Nms} {j : Nat} (h : j < l.length) : tidyL p (l.take (j + 1)) = if tidyN p l[j].1 = true then tidyL p (l.take j) ++ [l[j].1] else tidyL p (l.take j) := by
  unfold tidyL
  rw [List.take_succ_eq_append_getElem h, List.map_append, List.filter_append]
  by_cases hc : tidyN p l[j].1 = true
  · rw [if_pos hc]
    simp [hc]
  · rw [if_neg hc]
    simp [hc]
theorem rowAtV {w : World} {p : Option Addr} {n c : Nat} {l : List Value} (h : Row w (.slice p n c) l) {i : Nat} (hi : i < l.length) : ∃ b off, p = some ⟨b, off, none⟩ ∧ w.cell? ⟨b, off + i, none⟩ = some l[i] := by
  rcases h with ⟨a0, cap', hv, hl, -, -⟩ | ⟨b, off, cap', hv, -, -, hc⟩
  · subst hl
    simp at hi
  · simp only [Value.slice.injEq] at hv
    exact ⟨b, off, hv.1, hc i _ (List.getElem?_eq_getElem hi)⟩
section
variable {L : List Nat} {W w w1 : World} {g m : Nat} {d : Dsk} {r : RDsk} {k : Nat}
/-- a slice of one's own is set aside -/
theorem TwoAt.own (h : TwoAt L W w g d m r k) (hk : Keeps w w1) {e : TypeId} {v : Value} {l : List Value} (ho : Own w1 w.heap.size e v l) : ∃ L', (∀ y ∈ L, y ∈ L') ∧ TwoAt L' W w1 g d m r k ∧ Stay2 L' W w1 v l := by
  have ho2 := ho
  rcases ho.2 with ⟨hv, hl⟩ | ⟨b, cap, cur, hv, hb, hgg, rest⟩
  · have hl0 : l = [] := List.eq_nil_of_length_eq_zero hl
    subst hl0
    subst hv
    exact ⟨L, fun y hy => hy, h.keeps hk, fun T w' _ _ => row_nil w'⟩
  · subst hv
    refine ⟨b :: L, fun y hy => List.mem_cons_of_mem _ hy, h.aside hk hb (Array.getElem?_eq_some_iff.1 hgg).1, fun T w' hT hm => ?_⟩
    exact row_modsB ho2.row hm (fun hh => (hT b hh).2 (List.mem_cons_self ..))
theorem mods_less {L' : List Nat} (hL : ∀ y ∈ L, y ∈ L') {w w' : World} (hm : Mods (fun y => W.heap.size ≤ y ∧ y ∉ L') w w') : Mods (fun y => W.heap.size ≤ y ∧ y ∉ L) w w' := hm.mono (fun y hy => ⟨hy.1, fun h => hy.2 (hL y h)⟩)
theorem unlinksR_cons (x : Str) (l : List Str) (r : RDsk) : unlinksR (x :: l) r = if (unlinkR r x).2 ≠ 0 then unlinkR r x else unlinksR l (unlinkR r x).1 := rfl
set_option maxRecDepth 100000 in
set_option maxHeartbeats 8000000 in
theorem rstidy_two (h : TwoAt L W w g d m r k) (p : Str) (hp : p.length ≤ 1000000000) (hxl : ∀ y ∈ r.now, y.1.length ≤ 1000000000) {N : Nat} (hN : r.now.length ≤ N) (hk : k + 3 * N ≤ 89900) : Calls Tryz.prog 71 #[.pointer (some ⟨m, 0, none⟩), .string (bstr p)] w (TwoDid L W w g d m (rTidy p r).1 (k + 3 * N) (.int .i64 (rTidy p r).2)) := by
  have H := Lib.hid h
  obtain ⟨S, M, h⟩ := h
  obtain ⟨fv, nv, sv, wv, fw, hh⟩ := h.ref
  obtain ⟨-, c1, -, -, -, c5, -⟩ := hh.cells
  have HI := Lib.hid hh
  obtain ⟨pn, cn, rfl, -, -⟩ := Frm.ownsRow_form hh.now
  have HXL := Lib.hid hxl
  have HX0 : Hid (rTidy p r = if r.down then (r, 0) else unlinksR (tidyL p r.now) r) := Lib.hid rfl
  have hnk : r.now.length ≤ 89900 := by omega
  clear h hh hxl
  cases hd : r.down with
  | true =>
    rw [hd] at c5 HX0
    have HX : Hid (rTidy p r = (r, 0)) := Lib.hid HX0.out
    clear hd
    go_enter Tryz.func71, Tryz.ntmps71
    go_wp2_with fail
    go_ret
    rw [HX.out]
    exact ⟨rfl, H.out.more (by omega), Mods.refl _ _⟩
  | false =>
    rw [hd] at c5 HX0
    have HX1 : Hid (rTidy p r = unlinksR (tidyL p r.now) r) := Lib.hid HX0.out
    clear hd HX0
    obtain ⟨n, hn⟩ : ∃ n, n = r.now.length := ⟨_, rfl⟩
    rw [← hn] at c1 hnk hN
    have HNN := Lib.hid hn
    have HC1 := Lib.hid c1
    have hsp := bstr_size p
    clear hn c1
    go_enter Tryz.func71, Tryz.ntmps71
    go_wp2_with fail
    go_loopw [5, 6] (fun ov ix wr => ∃ (j q : Nat) (po : Option Addr) (co : Nat), ix = .int .i64 (j : Int) ∧ j ≤ n ∧ ov = .slice po q co ∧ q ≤ j ∧ Hid (q = (tidyL p (r.now.take j)).length ∧ Own wr w.heap.size 9 (.slice po q co) ((tidyL p (r.now.take j)).map strV) ∧ Keeps w wr)) (fun _ ix _ => n - (RowKit.intOf ix).toNat)
    case atStart => exact ⟨0, 0, none, 0, rfl, Nat.zero_le _, rfl, Nat.le_refl _, Lib.hid ⟨rfl, Own.nil _ _ _, Keeps.refl _⟩⟩
    case round =>
      obtain ⟨j, q, po, co, rfl, hj, rfl, hqj, HL⟩ := hrel
      have c1 := keep1 HL.out.2.2 HC1.out
      have hszr := HL.out.2.2.size
      by_cases hlt : j < n
      · have hjl : j < r.now.length := by rw [← HNN.out]; exact hlt
        have hlt' : (j : Int) < (n : Int) := by omega
        obtain ⟨b, off, cap, hv, -, hc0, -⟩ := NmsAt.one ((NmsOwn.at_ HI.out.now).keeps HL.out.2.2) hjl
        rw [← HNN.out] at hv
        simp only [Value.slice.injEq] at hv
        obtain ⟨rfl, -, rfl⟩ := hv
        have HTS := Lib.hid (tidyL_succ p hjl)
        have hsl := HXL.out _ (List.getElem_mem hjl)
        generalize r.now[j].1 = s at *
        have hss := bstr_size s
        have HOW := Lib.hid HL.out.2.1
        have HKL := Lib.hid HL.out.1
        have HK := Lib.hid HL.out.2.2
        have HTN : Hid (tidyN p s = (decide (p.length ≤ s.length ∧ s.take p.length = p) && decide (2 ≤ s.length ∧ s.drop (s.length - 2) = dotN))) := Lib.hid rfl
        have bp := bstr_toList p
        have bdn : (⟨#[46, 110]⟩ : ByteArray).toList = dotN := bstr_toList dotN
        clear HL hjl
        by_cases hA : p.length ≤ s.length
        · have hA' : (p.length : Int) ≤ (s.length : Int) := by omega
          have hcut := fun wz => run_cut_str s p.length hA wz
          have bt := bstr_toList (s.take p.length)
          by_cases hB : s.take p.length = p
          · have hB' : (s.take p.length == p) = true := by simpa using hB
            by_cases hC : 2 ≤ s.length
            · have hC' : (2 : Int) ≤ (s.length : Int) := by omega
              have hws : IntKind.i64.wrap ((s.length : Int) - 2) = ((s.length - 2 : Nat) : Int) := by rw [IntKind.wrap_i64]; omega
              have hcut2 := fun wz => run_cut_str_l s (s.length - 2) (by omega) wz
              have bt2 := bstr_toList (s.drop (s.length - 2))
              obtain ⟨s2, hs2⟩ : ∃ z, z = s.length - 2 := ⟨_, rfl⟩
              rw [← hs2] at hws hcut2 bt2 HTN
              clear hs2
              by_cases hD : s.drop s2 = dotN
              · have hD' : (s.drop s2 == dotN) = true := by simpa using hD
                have hyes : tidyN p s = true := by rw [HTN.out, decide_eq_true ⟨hA, hB⟩, decide_eq_true ⟨hC, hD⟩]; rfl
                clear hB hD HTN
                have HT := Lib.hid (show tidyL p (r.now.take (j + 1)) = tidyL p (r.now.take j) ++ [s] from by rw [HTS.out, if_pos hyes])
                clear hyes
                go_wp2_with (at_builtin; go_loud (refine wpList_app1 (base := w.heap.size) strok1 rfl _ _ rfl (.slice po q co) (.slice (some ⟨wr.heap.size, 0, none⟩) 1 1) ((tidyL p (r.now.take j)).map strV) [.string (bstr s)] rfl rfl (HOW.out.alloc _) (row_one rfl) (by simp [Value.oneCell']) (by rw [List.length_map, ← HKL.out]; show (q + 1) * 16 ≤ _; omega) (by decide) (by rw [Frm.alloc_size]; omega) ?_; intro v4 w4 ho4 hg4 hf4; obtain ⟨p4, n4, c4, rfl⟩ := ho4.sl))
                have HO4 := Lib.hid (show Own w4 w.heap.size 9 (.slice p4 n4 c4) ((tidyL p (r.now.take (j + 1))).map strV) from by rw [HT.out, List.map_append]; exact ho4)
                have HN4 := Lib.hid (show n4 = (tidyL p (r.now.take (j + 1))).length from by rw [own_n HO4.out, List.length_map])
                have hn5 : n4 = q + 1 := by rw [HN4.out, HT.out, List.length_append, ← HKL.out]; rfl
                subst hn5
                have HK4 := Lib.hid (show Keeps w w4 from (HK.out.alloc _).grown hg4 (fun y hy => HOW.out.base y hy))
                clear ho4 hg4 hf4
                go_roundw
                case rel => exact ⟨j + 1, q + 1, p4, c4, by simp, by omega, rfl, by omega, Lib.hid ⟨HN4.out, HO4.out, HK4.out⟩⟩
                case measure =>
                  simp only [RowKit.intOf]
                  omega
              · have hD' : (s.drop s2 == dotN) = false := by simpa using hD
                have hno : ¬ tidyN p s = true := by rw [HTN.out, decide_eq_false (p := 2 ≤ s.length ∧ s.drop s2 = dotN) (fun e => hD e.2)]; simp
                clear hB hD HTN
                have HT := Lib.hid (show tidyL p (r.now.take (j + 1)) = tidyL p (r.now.take j) from by rw [HTS.out, if_neg hno])
                clear hno
                go_wp2_with fail
                go_roundw
                case rel => exact ⟨j + 1, q, po, co, by simp, by omega, rfl, by omega, Lib.hid ⟨by rw [HT.out]; exact HKL.out, by rw [HT.out]; exact HOW.out, HK.out⟩⟩
                case measure =>
                  simp only [RowKit.intOf]
                  omega
            · have hC' : decide ((2 : Int) ≤ (s.length : Int)) = false := by simp; omega
              have hno : ¬ tidyN p s = true := by rw [HTN.out, decide_eq_false (p := 2 ≤ s.length ∧ _) (fun e => hC e.1)]; simp
              clear hB HTN
              have HT := Lib.hid (show tidyL p (r.now.take (j + 1)) = tidyL p (r.now.take j) from by rw [HTS.out, if_neg hno])
              clear hno
              go_wp2_with fail
              go_roundw
              case rel => exact ⟨j + 1, q, po, co, by simp, by omega, rfl, by omega, Lib.hid ⟨by rw [HT.out]; exact HKL.out, by rw [HT.out]; exact HOW.out, HK.out⟩⟩
              case measure =>
                simp only [RowKit.intOf]
                omega
          · have hB' : (s.take p.length == p) = false := by simpa using hB
            have hno : ¬ tidyN p s = true := by rw [HTN.out, decide_eq_false (p := p.length ≤ s.length ∧ s.take p.length = p) (fun e => hB e.2)]; simp
            clear hB HTN
            have HT := Lib.hid (show tidyL p (r.now.take (j + 1)) = tidyL p (r.now.take j) from by rw [HTS.out, if_neg hno])
            clear hno
            go_wp2_with fail
            go_roundw
            case rel => exact ⟨j + 1, q, po, co, by simp, by omega, rfl, by omega, Lib.hid ⟨by rw [HT.out]; exact HKL.out, by rw [HT.out]; exact HOW.out, HK.out⟩⟩
            case measure =>
              simp only [RowKit.intOf]
              omega
        · have hA' : decide ((p.length : Int) ≤ (s.length : Int)) = false := by simp; omega
          have hno : ¬ tidyN p s = true := by rw [HTN.out, decide_eq_false (p := p.length ≤ s.length ∧ s.take p.length = p) (fun e => hA e.1)]; simp
          clear HTN
          have HT := Lib.hid (show tidyL p (r.now.take (j + 1)) = tidyL p (r.now.take j) from by rw [HTS.out, if_neg hno])
          clear hno
          go_wp2_with fail
          go_roundw
          case rel => exact ⟨j + 1, q, po, co, by simp, by omega, rfl, by omega, Lib.hid ⟨by rw [HT.out]; exact HKL.out, by rw [HT.out]; exact HOW.out, HK.out⟩⟩
          case measure =>
            simp only [RowKit.intOf]
            omega
      · obtain rfl : j = n := by omega
        have hlt' : decide ((j : Int) < (j : Int)) = false := by simp
        have HLL := Lib.hid (show q = (tidyL p r.now).length ∧ Own wr w.heap.size 9 (.slice po q co) ((tidyL p r.now).map strV) ∧ Keeps w wr from by
          have := HL.out
          rw [HNN.out, List.take_length] at this
          exact this)
        clear HL
        obtain ⟨L', hL, h1, hst⟩ := TwoAt.own H.out HLL.out.2.2 HLL.out.2.1
        have HL' := Lib.hid hL
        have H1 := Lib.hid h1
        have HST := Lib.hid hst
        have HQL := Lib.hid HLL.out.1
        have HKE := Lib.hid HLL.out.2.2
        have hq1 : (tidyL p r.now).length ≤ N := Nat.le_trans (tidyL_len p r.now) (by rw [← HNN.out]; exact hN)
        obtain ⟨l, hl⟩ : ∃ l, l = tidyL p r.now := ⟨_, rfl⟩
        have HLE := Lib.hid hl
        rw [← hl] at HST HQL hq1
        have HX2 := Lib.hid (show rTidy p r = unlinksR l r from by rw [HX1.out, hl])
        have hxs : ∀ x ∈ l, x.length ≤ 1000000000 := fun x hx => by
          rw [hl] at hx
          obtain ⟨y, hy, rfl⟩ := List.mem_map.1 (List.mem_filter.1 hx).1
          exact HXL.out y hy
        have HXS := Lib.hid hxs
        have hqn : q ≤ 89900 := by rw [HQL.out]; omega
        clear h1 hst hL HLL hl hxs HX1 c5 HLE
        obtain ⟨wo, rfl⟩ : ∃ z : World, z = wr := ⟨_, rfl⟩
        go_wp2_with fail
        go_loopw [9] (fun ix wq => ∃ (i : Nat) (ri : RDsk), ix = .int .i64 (i : Int) ∧ i ≤ q ∧ Hid (TwoAt L' W wq g d m ri (k + 3 * i) ∧ unlinksR l r = unlinksR (l.drop i) ri ∧ Mods (fun y => W.heap.size ≤ y ∧ y ∉ L') wo wq)) (fun ix _ => q - (RowKit.intOf ix).toNat)
        case atStart => exact ⟨0, r, rfl, Nat.zero_le _, Lib.hid ⟨H1.out, rfl, Mods.refl _ _⟩⟩
        case round =>
          obtain ⟨i, ri, rfl, hi, HQ⟩ := hrel
          by_cases hiq : i < q
          · have hil : i < l.length := by rw [← HQL.out]; exact hiq
            have hiq' : (i : Int) < (q : Int) := by omega
            have HRW := Lib.hid ((HST.out.mods HQ.out.2.2).row)
            obtain ⟨b, off, rfl, hcell⟩ := rowAtV HRW.out (by rw [List.length_map]; exact hil)
            have hcell2 : wr.cell? ⟨b, off + i, none⟩ = some (.string (bstr l[i])) := by rw [hcell]; simp [strV]
            have HU := Lib.hid (runlink_two HQ.out.1 (by omega) l[i])
            have HSP := Lib.hid (show unlinksR l r = if (unlinkR ri l[i]).2 ≠ 0 then unlinkR ri l[i] else unlinksR (l.drop (i + 1)) (unlinkR ri l[i]).1 from by rw [HQ.out.2.1, List.drop_eq_getElem_cons hil, unlinksR_cons])
            generalize l[i] = x at *
            generalize unlinkR ri x = q1 at *
            obtain ⟨r1, e1⟩ := q1
            simp only at HU HSP
            clear hcell
            go_wp2_with fail
            refine HU.out.mono ?_
            rintro e w5 ⟨rfl, h5, m5⟩
            have H5 := Lib.hid h5
            have HM5 := Lib.hid (HQ.out.2.2.trans m5 (fun y hy _ => hy))
            clear h5 m5 HU hcell2
            by_cases he : e1 = 0
            · subst he
              have HS2 := Lib.hid (HSP.out.trans (if_neg (by simp)))
              go_wp2_with fail
              go_roundw
              case rel => exact ⟨i + 1, r1, by simp, by omega, Lib.hid ⟨H5.out.more (by omega), HS2.out, HM5.out⟩⟩
              case measure =>
                simp only [RowKit.intOf]
                omega
            · have HX : Hid (rTidy p r = (r1, e1)) := Lib.hid (HX2.out.trans (HSP.out.trans (if_pos he)))
              have he' : (e1 != 0) = true := by simp [he]
              clear he
              go_wp2_with fail
              go_ret
              rw [HX.out]
              exact ⟨rfl, (H5.out.drop HL'.out).more (by omega), (Mods.of_keeps HKE.out).trans (mods_less HL'.out HM5.out) (fun y hy _ => hy)⟩
          · obtain rfl : i = q := by omega
            have hiq' : decide ((i : Int) < (i : Int)) = false := by simp
            have HX : Hid (rTidy p r = (ri, 0)) := Lib.hid (by rw [HX2.out, HQ.out.2.1, HQL.out, List.drop_length]; rfl)
            have hiN : i ≤ N := by rw [HQL.out]; exact hq1
            go_wp2_with fail
            go_ret
            rw [HX.out]
            exact ⟨rfl, (HQ.out.1.drop HL'.out).more (by omega), (Mods.of_keeps HKE.out).trans (mods_less HL'.out HQ.out.2.2) (fun y hy _ => hy)⟩
end
end Rs
end Go.Proofs.YtchjncnolmiejaaGreat

/- The document's disk: Boot. -/
namespace Go.Proofs.YtchjncnolmiejaaGreat
open Go.RowKit
namespace Rf
open Vd
theorem writeAt {w : World} {v : Value} {l : List Pat} (h : w.ownsRow 0 127 2 v l.length (l.flatMap wrC)) {q : Nat} (hq : q < l.length) : ∃ b off cap, v = .slice (some ⟨b, off, none⟩) l.length cap ∧ w.rangeAt b (off + q * 2) [.int .i64 (l[q].place : Int), .string (bstr l[q].b)] := by
  obtain ⟨b, off, cap, hv, -, -, hc⟩ := RowS.at_ (rowS_of h) (by omega)
  refine ⟨b, off, cap, hv, fun i x hx => ?_⟩
  have hi : i < 2 := by
    have := (List.getElem?_eq_some_iff.1 hx).1
    simpa using this
  rw [Nat.add_assoc]
  refine hc.out (q * 2 + i) x ?_
  rw [flat_get wrC_len l q i _ (List.getElem?_eq_getElem hq) hi]
  exact hx
theorem turnsAt {w : World} {v : Value} {l : List RTurn} (h : w.ownsRow 0 131 3 v l.length (l.flatMap trC)) {q : Nat} (hq : q < l.length) : ∃ b off cap, v = .slice (some ⟨b, off, none⟩) l.length cap ∧ w.rangeAt b (off + q * 3) (trC l[q]) := by
  obtain ⟨b, off, cap, hv, -, -, hc⟩ := RowS.at_ (rowS_of h) (by omega)
  refine ⟨b, off, cap, hv, fun i x hx => ?_⟩
  have hi : i < 3 := by
    have := (List.getElem?_eq_some_iff.1 hx).1
    simpa [trC, trA] using this
  rw [Nat.add_assoc]
  refine hc.out (q * 3 + i) x ?_
  rw [flat_get trC_len l q i _ (List.getElem?_eq_getElem hq) hi]
  exact hx
theorem rowAt {w : World} {p : Option Addr} {n c : Nat} {l : List Int} (h : Row w (.slice p n c) (l.map (Value.int .i64))) {i : Nat} (hi : i < l.length) : ∃ b off, p = some ⟨b, off, none⟩ ∧ w.cell? ⟨b, off + i, none⟩ = some (.int .i64 l[i]) := by
  rcases h with ⟨a0, cap', hv, hl, -, -⟩ | ⟨b, off, cap', hv, -, -, hc⟩
  · simp at hl
    subst hl
    simp at hi
  · simp only [Value.slice.injEq] at hv
    exact ⟨b, off, hv.1, hc i _ (by simp [hi])⟩
theorem neg1_in : (-1 : Int) ≤ -1 ∧ (-1 : Int) ≤ 9223372036854775807 := by decide
section
variable {w : World} {M : Nat → Prop} {m : Nat} {d : RDsk} {k : Nat}
set_option maxRecDepth 100000 in
set_option maxHeartbeats 8000000 in
theorem rboot_r (h : RefAt w M m d k) (hk : k ≤ 100000) (turns : Int) (ht : (Lit.int .i64 turns).wf = true) {kv : Value} {keep : List Int} (hr : Row w kv (keep.map (Value.int .i64)))
    (hp : ∀ i (h : i < d.files.length), knownR d i = true → ∀ p ∈ d.files[i].waits, p.place + p.b.length ≤ 1000000000) (hgl : ∀ j, (goneR d.sure d.waits j).length ≤ k) (hga : ∀ j, AscN (goneR d.sure d.waits j)) (hgi : ∀ p ∈ goneR d.sure d.waits turns.toNat, p.2 < d.files.length) :
    Calls Tryz.prog 21 #[.pointer (some ⟨m, 0, none⟩), .int .i64 turns, kv] w (RDid w M m (bootR d turns keep) k) := by
  obtain ⟨fv, nv, sv, wv, fw, h⟩ := h
  have H := Lib.hid h
  obtain ⟨c0, -, c2, c3, -, c5, -⟩ := h.cells
  unfold RDid
  cases hd : d.down with
  | false =>
    rw [hd] at c5
    have HX := Lib.hid (show bootR d turns keep = (d, 13) from by unfold bootR; rw [if_pos hd])
    clear h c0 c2 c3 hd
    go_enter Tryz.func21, Tryz.ntmps21
    go_wp2_with fail
    go_ret
    rw [HX.out]
    exact ⟨rfl, ⟨_, _, _, _, _, H.out.wide (fun y hy => .inl hy)⟩, Mods.refl _ _⟩
  | true =>
    rw [hd] at c5
    obtain ⟨pf, cf, rfl, -, -⟩ := Frm.ownsRow_form h.files
    obtain ⟨ps, cs, rfl, -, -⟩ := Frm.ownsRow_form h.sure
    obtain ⟨pw, cw, rfl, -, -⟩ := Frm.ownsRow_form h.turns
    have hFk : d.files.length ≤ 100000 := Nat.le_trans h.fit.f hk
    have hWk : d.waits.length ≤ 100000 := Nat.le_trans h.fit.w hk
    have HSB := Lib.hid (fun x hx => (h.fit.b x hx).2)
    have HWL := Lib.hid (fun x hx => Nat.le_trans (h.fit.p x hx) hk)
    have HX := Lib.hid (show bootR d turns keep = ({ d with files := bootL d keep d.files.length, now := goneR d.sure d.waits turns.toNat, sure := goneR d.sure d.waits turns.toNat, waits := [], down := false, fail := -1, crash := -1 }, 0) from by unfold bootR; rw [hd]; rfl)
    have HP := Lib.hid hp
    have HGL := Lib.hid hgl
    have HGA := Lib.hid hga
    have HGI := Lib.hid hgi
    have HR := Lib.hid hr
    have HNB := Lib.hid (bootN_le (d := d) (fun x hx => HWL.out x hx) keep)
    obtain ⟨pk, ck, rfl, hck, hck2⟩ := hr.form
    rw [List.length_map] at *
    obtain ⟨F, hF⟩ : ∃ n, n = d.files.length := ⟨_, rfl⟩
    rw [← hF] at c0 hFk
    have HF := Lib.hid hF
    have hkm : keep.length ≤ 9223372036854775807 := by unfold maxLen at hck2; omega
    have HC0 := Lib.hid c0
    have HC2 := Lib.hid c2
    have HC3 := Lib.hid c3
    clear h hp hgl hga hgi hr hd hF c0 c2 c3 hck hck2
    go_enter Tryz.func21, Tryz.ntmps21
    go_wp2_with fail
    go_loopw [7, 8, 9] (fun nx fx ix wr => ∃ j : Nat, ix = .int .i64 (j : Int) ∧ j ≤ F ∧ nx = .int .i64 (bootN' d keep j : Int) ∧ Hid (∃ p c, fx = .slice p j c ∧ wr.ownsRow w.heap.size 93 3 fx j ((bootL d keep j).flatMap filZ) ∧ Keeps w wr)) (fun _ _ ix _ => F - (RowKit.intOf ix).toNat)
    case atStart => exact ⟨0, rfl, Nat.zero_le _, rfl, Lib.hid ⟨none, 0, rfl, World.ownsRow_nil _ _ _ 3, Keeps.refl _⟩⟩
    case round =>
      obtain ⟨j, rfl, hj, rfl, HI⟩ := hrel
      obtain ⟨wo, rfl⟩ : ∃ z : World, z = wr := ⟨_, rfl⟩
      obtain ⟨pq, cq, rfl, hoq, hkq⟩ := HI.out
      have HOQ := Lib.hid hoq
      have HKQ := Lib.hid hkq
      clear HI hoq hkq
      have c0 := keep1 HKQ.out HC0.out
      by_cases hlt : j < F
      · have hjl : j < d.files.length := by rw [← HF.out]; exact hlt
        have hlt' : (j : Int) < (F : Int) := by omega
        have HIr := Lib.hid (H.out.apart (T := fun _ => False) (Mods.of_keeps HKQ.out) (fun _ _ h => h))
        obtain ⟨bf, of, cf', hvf, hrg⟩ := HIr.out.file hjl
        rw [← HF.out] at hvf
        simp only [Value.slice.injEq] at hvf
        obtain ⟨rfl, -, rfl⟩ := hvf
        have hjw : j < fw.length := by rw [H.out.len]; exact hjl
        have hwt := HIr.out.waits j hjw hjl
        obtain ⟨pv, cv, hpv, -, -⟩ := Frm.ownsRow_form hwt
        rw [hpv] at hrg hwt
        have f0 := hrg 0 _ rfl
        have f1 := hrg 1 _ rfl
        have f2 := hrg 2 _ rfl
        rw [Nat.add_zero] at f0
        have hnb := HNB.out j (by omega)
        have hnb2 : bootN' d keep j ≤ 10000000000 := by
          have : j * 100000 ≤ 100000 * 100000 := Nat.mul_le_mul_right _ (by omega)
          omega
        have HST := Lib.hid (fun q s => boot_step (d := d) keep hjl (q := q) (s := s))
        have hsb := HSB.out _ (List.getElem_mem hjl)
        have hwl := HWL.out _ (List.getElem_mem hjl)
        have HPj := Lib.hid (HP.out j hjl)
        have HWT := Lib.hid hwt
        have HKNO := Lib.hid (fun wz (hz : Keeps w wz) => known_r (d := d) (w := wz) ⟨_, _, _, _, _, H.out.apart (T := fun _ => False) (Mods.of_keeps hz) (fun _ _ h => h)⟩ (by omega) j (by omega))
        obtain ⟨n0, hn0⟩ : ∃ z, z = bootN' d keep j := ⟨_, rfl⟩
        rw [← hn0] at HST hnb2 ⊢
        generalize d.files[j] = f at *
        obtain ⟨ws, hws⟩ : ∃ z, z = f.waits.length := ⟨_, rfl⟩
        rw [← hws] at f2 hwl
        have HWS := Lib.hid hws
        clear hrg hwt hpv hnb hws hn0
        go_upto_region 9 with fail
        generalize hW : World.alloc wo _ = wa
        have HKa := Lib.hid (show Keeps wo wa from by rw [← hW]; exact (Keeps.refl _).alloc _)
        have HA := Lib.hid (show Blk wa wo.heap.size 93 #[.string (bstr f.now), .string (bstr f.sure), .slice pv ws cv] from by rw [← hW]; exact Blk.new _ _ _ rfl)
        clear hW f0 f1 f2
        obtain ⟨A, hA⟩ : ∃ z, z = wo.heap.size := ⟨_, rfl⟩
        rw [← hA] at HA ⊢
        have HAA := Lib.hid hA
        clear hA
        have a1 : wa.cell? ⟨A, 1, none⟩ = some (.string (bstr f.sure)) := by rw [HA.out.cell]; rfl
        go_wp2_with fail
        clear a1
        go_loopw [7, 11, 12] (fun nx sx qx wq => ∃ q : Nat, qx = .int .i64 (q : Int) ∧ q ≤ ws ∧ nx = .int .i64 ((n0 + q : Nat) : Int) ∧ sx = .string (bstr (bootT keep f.waits n0 f.sure q)) ∧ Hid ((0 < q → knownR d j = true) ∧ Keeps wa wq)) (fun _ _ qx _ => ws - (RowKit.intOf qx).toNat)
        case atStart => exact ⟨0, rfl, Nat.zero_le _, by simp, rfl, Lib.hid ⟨fun h => absurd h (Nat.lt_irrefl _), Keeps.refl _⟩⟩
        case round =>
          obtain ⟨q, rfl, hq, rfl, rfl, HQ⟩ := hrel
          obtain ⟨wq, rfl⟩ : ∃ z : World, z = wr := ⟨_, rfl⟩
          have a2 : wq.cell? ⟨A, 2, none⟩ = some (.slice pv ws cv) := by rw [(HA.out.keeps HQ.out.2).cell]; rfl
          have HKW := Lib.hid ((HKQ.out.trans HKa.out).trans HQ.out.2)
          have HKC := Lib.hid (HKNO.out wq HKW.out)
          cases hkb : knownR d j with
          | false =>
            rw [hkb] at HKC
            obtain rfl : q = 0 := by
              rcases Nat.eq_zero_or_pos q with h | h
              · exact h
              · have := HQ.out.1 h
                rw [hkb] at this
                cases this
            have HSQ := Lib.hid (HST.out 0 _ (fun h => by rw [hkb] at h; cases h) (fun _ => rfl) rfl)
            have hwz := HKQ.out.size
            have hOZ := Frm.ownsRow_keeps HOQ.out (HKa.out.trans HQ.out.2)
            have HOZ := Lib.hid hOZ
            have hsz := HKW.out.size
            clear hOZ
            generalize bootT keep f.waits n0 f.sure 0 = s at *
            go_wp2_with (first
              | (refine HKC.out.mono ?_; rintro e wz ⟨rfl, rfl⟩)
              | (at_builtin; go_loud (refine wpList_apps (base := w.heap.size) filok (by decide) rfl _ _ rfl (.slice pq j cq) (.slice (some ⟨wq.heap.size, 0, none⟩) 1 1) j 1 ((bootL d keep j).flatMap filZ) [.string (bstr s), .string (bstr s), .slice none 0 0] rfl rfl (Frm.ownsRow_keeps HOZ.out ((Keeps.refl _).alloc _)) (Frm.rowS_lit rfl rfl rfl) (by simp [Value.oneCell']) (by omega) (by decide) (by rw [Frm.alloc_size]; omega) ?_; intro v4 w4 ho4 hg4 hf4; obtain ⟨p4, c4, rfl, -, -⟩ := Frm.ownsRow_form ho4)))
            have HO4 := Lib.hid (show w4.ownsRow w.heap.size 93 3 (.slice p4 (j + 1) c4) (j + 1) ((bootL d keep (j + 1)).flatMap filZ) from by
              rw [HSQ.out.2, List.flatMap_append]
              exact ho4)
            have HK4 := Lib.hid (show Keeps w w4 from (HKW.out.alloc _).grown hg4 (Frm.ownsRow_base HOZ.out))
            clear ho4 hg4 hf4
            go_roundw
            case rel => exact ⟨j + 1, by simp, by omega, by rw [HSQ.out.1]; rfl, Lib.hid ⟨p4, c4, rfl, HO4.out, HK4.out⟩⟩
            case measure =>
              simp only [RowKit.intOf]
              omega
          | true =>
            rw [hkb] at HKC
            by_cases hqs : q < ws
            · have hqs' : (q : Int) < (ws : Int) := by omega
              have hqw : q < f.waits.length := by rw [← HWS.out]; exact hqs
              obtain ⟨bw, ow, cw', hvw, hrw⟩ := writeAt (Frm.ownsRow_keeps HWT.out (HKa.out.trans HQ.out.2)) hqw
              rw [← HWS.out] at hvw
              simp only [Value.slice.injEq] at hvw
              obtain ⟨rfl, -, rfl⟩ := hvw
              have p0 := hrw 0 _ rfl
              have p1 := hrw 1 _ rfl
              rw [Nat.add_zero] at p0
              have HTS := Lib.hid (bootT_succ (keep := keep) (n := n0) (s := f.sure) hqw)
              have hpl := HPj.out hkb _ (List.getElem_mem hqw)
              have hKI := kept_in keep (n0 + q) f.waits[q]
              have HTL := Lib.hid (bootT_len (keep := keep) (n := n0) hsb (HPj.out hkb) q)
              generalize f.waits[q] = p at *
              generalize bootT keep f.waits n0 f.sure q = s at *
              clear hrw
              go_wp2_with fail
              refine HKC.out.mono ?_
              rintro e wz ⟨rfl, rfl⟩
              go_upto_region 15 with fail
              generalize hW : World.alloc wq _ = wb
              have HKb := Lib.hid (show Keeps wq wb from by rw [← hW]; exact (Keeps.refl _).alloc _)
              have HB := Lib.hid (show Blk wb wq.heap.size 127 #[.int .i64 (p.place : Int), .string (bstr p.b)] from by rw [← hW]; exact Blk.new _ _ _ rfl)
              clear hW p0 p1 a2
              obtain ⟨B, hB⟩ : ∃ z, z = wq.heap.size := ⟨_, rfl⟩
              rw [← hB] at HB ⊢
              clear hB
              have HTQ := Lib.hid (show Keeps wa wb from HQ.out.2.trans HKb.out)
              have HRB := Lib.hid (HR.out.keeps (HKW.out.trans HKb.out))
              have HKE : Hid (keptR keep (n0 + q) p = min (max (keep.getD (n0 + q) 0) 0) (p.b.length : Int)) := Lib.hid rfl
              have HBS : Hid (bootS keep p (n0 + q) s = if keptR keep (n0 + q) p = 0 then s else overL s p.place (p.b.take (keptR keep (n0 + q) p).toNat)) := Lib.hid rfl
              have hwn : IntKind.i64.wrap ((n0 : Int) + (q : Int) + 1) = ((n0 + (q + 1) : Nat) : Int) := by rw [IntKind.wrap_i64]; omega
              have hq0 : (0 : Int) ≤ (n0 : Int) + (q : Int) := by omega
              have hqt : ((n0 : Int) + (q : Int)).toNat = n0 + q := by omega
              clear hkb HQ HKC HKb
              by_cases hn : n0 + q < keep.length
              · have hn' : (n0 : Int) + (q : Int) < (keep.length : Int) := by omega
                obtain ⟨bk, ok, rfl, hka⟩ := rowAt HRB.out hn
                have hGD : keep.getD (n0 + q) 0 = keep[n0 + q] := by rw [List.getD_eq_getElem?_getD, List.getElem?_eq_getElem hn]; rfl
                have hidx : ok + (n0 + q) = ok + (n0 + q) := rfl
                have HGD := Lib.hid hGD
                clear hGD hidx
                generalize keep[n0 + q] = a at *
                by_cases ha : 0 < a
                · obtain ⟨kk, hkk⟩ : ∃ kk : Nat, (kk : Int) = keptR keep (n0 + q) p := ⟨(keptR keep (n0 + q) p).toNat, by omega⟩
                  have hKl : kk ≤ p.b.length := by omega
                  have hcut := run_cut_str p.b kk hKl
                  have HK := Lib.hid hkk
                  have hb0 : wb.cell? ⟨B, 0, none⟩ = some (.int .i64 (p.place : Int)) := by rw [HB.out.cell]; rfl
                  have hb1 : wb.cell? ⟨B, 1, none⟩ = some (.string (bstr p.b)) := by rw [HB.out.cell]; rfl
                  have HV := Lib.hid (show (if ((bstr p.b).size : Int) < a then ((bstr p.b).size : Int) else a) = (kk : Int) from by
                    rw [bstr_size, hkk, HKE.out, HGD.out]
                    split <;> omega)
                  have HBK := Lib.hid (show bootS keep p (n0 + q) s = if kk = 0 then s else overL s p.place (p.b.take kk) from by
                    rw [HBS.out, ← HK.out]
                    by_cases h0 : kk = 0
                    · rw [if_pos (by omega), if_pos h0]
                    · rw [if_neg (by omega), if_neg h0]
                      rfl)
                  clear hkk HBS HKE
                  go_upto_region 16 with fail
                  refine wp_region_noPanic ?_
                  refine wp_region_held_drew (S := fun w' => Keeps (wb) w') (by kernel_rfl) ((Keeps.refl _).drew) (fun _ => ?_)
                  have hHeld : Keeps (wb) (wb).drew := (Keeps.refl _).drew
                  refine wpAnyH_take (i := 0) (v := ?vv1) (by rfl) (by kernel_rfl) (by kernel_rfl) (by kernel_rfl) (by intro _ _ _ h; exact h) (Or.inl ⟨by kernel_rfl, ?hy1⟩) (by assumption) ?rest1
                  case hy1 =>
                    intro w' hSw
                    have hSw : Keeps _ w' := hSw
                    clear hSw
                    go_simp
                    try with_reducible rfl
                  change wpAnyH _ _ _ _ _ _ _ (Act.put _ (some 68) _) _
                  try simp only [Act.put, List.setIfInBounds_toArray, List.set_cons_zero, List.set_cons_succ]
                  refine wpAnyH_take (i := 1) (v := ?vv2) (by rfl) (by kernel_rfl) (by kernel_rfl) (by kernel_rfl) (by intro _ _ _ h; exact h) (Or.inl ⟨by kernel_rfl, ?hy2⟩) (by assumption) ?rest2
                  case hy2 =>
                    intro w' hSw
                    have hSw : Keeps _ w' := hSw
                    clear hSw
                    go_simp
                    try with_reducible rfl
                  change wpAnyH _ _ _ _ _ _ _ (Act.put _ (some 69) _) _
                  try simp only [Act.put, List.setIfInBounds_toArray, List.set_cons_zero, List.set_cons_succ]
                  refine wpAnyH_take (i := 2) (v := ?vv3) (by rfl) (by kernel_rfl) (by kernel_rfl) (by kernel_rfl) (by intro _ _ _ h; exact h) (Or.inl ⟨by kernel_rfl, ?hy3⟩) (by assumption) ?rest3
                  case hy3 =>
                    intro w' hSw
                    have hSw : Keeps _ w' := hSw
                    clear hSw
                    go_simp
                    try with_reducible rfl
                  change wpAnyH _ _ _ _ _ _ _ (Act.put _ (some 70) _) _
                  try simp only [Act.put, List.setIfInBounds_toArray, List.set_cons_zero, List.set_cons_succ]
                  refine wpAnyH_take (i := 3) (v := ?vv4) (by rfl) (by kernel_rfl) (by kernel_rfl) (by kernel_rfl) (by intro _ _ _ h; exact h) (Or.inl ⟨by kernel_rfl, ?hy4⟩) (by assumption) ?rest4
                  case hy4 =>
                    intro w' hSw
                    have hSw : Keeps _ w' := hSw
                    have hx := keep1 hSw hka
                    clear hSw
                    go_simp
                    try with_reducible rfl
                  change wpAnyH _ _ _ _ _ _ _ (Act.put _ (some 71) _) _
                  try simp only [Act.put, List.setIfInBounds_toArray, List.set_cons_zero, List.set_cons_succ]
                  refine wpAnyH_take (i := 4) (v := ?vv5) (by rfl) (by kernel_rfl) (by kernel_rfl) (by kernel_rfl) (by intro _ _ _ h; exact h) (Or.inl ⟨by kernel_rfl, ?hy5⟩) (by assumption) ?rest5
                  case hy5 =>
                    intro w' hSw
                    have hSw : Keeps _ w' := hSw
                    clear hSw
                    go_simp
                    try with_reducible rfl
                  change wpAnyH _ _ _ _ _ _ _ (Act.put _ (some 72) _) _
                  try simp only [Act.put, List.setIfInBounds_toArray, List.set_cons_zero, List.set_cons_succ]
                  refine wpAnyH_take (i := 5) (v := ?vv6) (by rfl) (by kernel_rfl) (by kernel_rfl) (by kernel_rfl) (by intro _ _ _ h; exact h) (Or.inl ⟨by kernel_rfl, ?hy6⟩) (by assumption) ?rest6
                  case hy6 =>
                    intro w' hSw
                    have hSw : Keeps _ w' := hSw
                    have hx := keep1 hSw hb1
                    clear hSw
                    go_simp
                    try with_reducible rfl
                  change wpAnyH _ _ _ _ _ _ _ (Act.put _ (some 73) _) _
                  try simp only [Act.put, List.setIfInBounds_toArray, List.set_cons_zero, List.set_cons_succ]
                  refine wpAnyH_take (i := 6) (v := ?vv7) (by rfl) (by kernel_rfl) (by kernel_rfl) (by kernel_rfl) (by intro _ _ _ h; exact h) (Or.inl ⟨by kernel_rfl, ?hy7⟩) (by assumption) ?rest7
                  case hy7 =>
                    intro w' hSw
                    have hSw : Keeps _ w' := hSw
                    clear hSw
                    go_simp
                    try with_reducible rfl
                  change wpAnyH _ _ _ _ _ _ _ (Act.put _ (some 74) _) _
                  try simp only [Act.put, List.setIfInBounds_toArray, List.set_cons_zero, List.set_cons_succ]
                  refine wpAnyH_take (i := 7) (v := ?vv8) (by rfl) (by kernel_rfl) (by kernel_rfl) (by kernel_rfl) (by intro _ _ _ h; exact h) (Or.inl ⟨by kernel_rfl, ?hy8⟩) (by assumption) ?rest8
                  case hy8 =>
                    intro w' hSw
                    have hSw : Keeps _ w' := hSw
                    clear hSw
                    go_simp
                    try with_reducible rfl
                  change wpAnyH _ _ _ _ _ _ _ (Act.put _ (some 75) _) _
                  try simp only [Act.put, List.setIfInBounds_toArray, List.set_cons_zero, List.set_cons_succ]
                  refine wpAnyH_take (i := 8) (v := ?vv9) (by rfl) (by kernel_rfl) (by kernel_rfl) (by kernel_rfl) (by intro _ _ _ h; exact h) (Or.inl ⟨by kernel_rfl, ?hy9⟩) (by assumption) ?rest9
                  case hy9 =>
                    intro w' hSw
                    have hSw : Keeps _ w' := hSw
                    clear hSw
                    go_simp
                    try with_reducible rfl
                  change wpAnyH _ _ _ _ _ _ _ (Act.put _ (some 14) _) _
                  try simp only [Act.put, List.setIfInBounds_toArray, List.set_cons_zero, List.set_cons_succ]
                  refine wpAnyH_done (by kernel_rfl) ?_ _
                  refine NoPanic.normal ?_
                  rw [HV.out]
                  have HK2 := Lib.hid (show Keeps wb wb.drew from (Keeps.refl wb).drew)
                  have hc0 : wb.drew.cell? ⟨B, 0, none⟩ = some (.int .i64 (p.place : Int)) := keep1 HK2.out hb0
                  have hc1 : wb.drew.cell? ⟨B, 1, none⟩ = some (.string (bstr p.b)) := keep1 HK2.out hb1
                  generalize wb.drew = w2 at *
                  by_cases h0 : kk = 0
                  · subst h0
                    have HZ := Lib.hid (HBK.out.trans (if_pos rfl))
                    clear HBK hc0 hc1 hcut HK
                    go_wp2_with fail
                    go_roundw
                    case rel => exact ⟨q + 1, by simp, by omega, by simp <;> omega, by rw [HTS.out, HZ.out], Lib.hid ⟨fun _ => trivial, HTQ.out.trans HK2.out⟩⟩
                    case measure =>
                      simp only [RowKit.intOf]
                      omega
                  · have HZ := Lib.hid (HBK.out.trans (if_neg h0))
                    have h0' : (0 : Int) < (kk : Int) := by omega
                    clear HBK
                    go_upto_region 19 with fail
                    refine wp_region_noPanic ?_
                    refine wp_region_held_drew (S := fun w' => Keeps (w2) w') (by kernel_rfl) ((Keeps.refl _).drew) (fun _ => ?_)
                    have hHeld : Keeps (w2) (w2).drew := (Keeps.refl _).drew
                    refine wpAnyH_take (i := 0) (v := ?vv10) (by rfl) (by kernel_rfl) (by kernel_rfl) (by kernel_rfl) (by intro _ _ _ h; exact h) (Or.inl ⟨by kernel_rfl, ?hy10⟩) (by assumption) ?rest10
                    case hy10 =>
                      intro w' hSw
                      have hSw : Keeps _ w' := hSw
                      clear hSw
                      go_simp
                      try with_reducible rfl
                    change wpAnyH _ _ _ _ _ _ _ (Act.put _ (some 80) _) _
                    try simp only [Act.put, List.setIfInBounds_toArray, List.set_cons_zero, List.set_cons_succ]
                    refine wpAnyH_take (i := 1) (v := ?vv11) (by rfl) (by kernel_rfl) (by kernel_rfl) (by kernel_rfl) (by intro _ _ _ h; exact h) (Or.inl ⟨by kernel_rfl, ?hy11⟩) (by assumption) ?rest11
                    case hy11 =>
                      intro w' hSw
                      have hSw : Keeps _ w' := hSw
                      clear hSw
                      go_simp
                      try with_reducible rfl
                    change wpAnyH _ _ _ _ _ _ _ (Act.put _ (some 81) _) _
                    try simp only [Act.put, List.setIfInBounds_toArray, List.set_cons_zero, List.set_cons_succ]
                    refine wpAnyH_take (i := 2) (v := ?vv12) (by rfl) (by kernel_rfl) (by kernel_rfl) (by kernel_rfl) (by intro _ _ _ h; exact h) (Or.inl ⟨by kernel_rfl, ?hy12⟩) (by assumption) ?rest12
                    case hy12 =>
                      intro w' hSw
                      have hSw : Keeps _ w' := hSw
                      have hx := keep1 hSw hc0
                      clear hSw
                      go_simp
                      try with_reducible rfl
                    change wpAnyH _ _ _ _ _ _ _ (Act.put _ (some 82) _) _
                    try simp only [Act.put, List.setIfInBounds_toArray, List.set_cons_zero, List.set_cons_succ]
                    refine wpAnyH_take (i := 3) (v := ?vv13) (by rfl) (by kernel_rfl) (by kernel_rfl) (by kernel_rfl) (by intro _ _ _ h; exact h) (Or.inl ⟨by kernel_rfl, ?hy13⟩) (by assumption) ?rest13
                    case hy13 =>
                      intro w' hSw
                      have hSw : Keeps _ w' := hSw
                      clear hSw
                      go_simp
                      try with_reducible rfl
                    change wpAnyH _ _ _ _ _ _ _ (Act.put _ (some 83) _) _
                    try simp only [Act.put, List.setIfInBounds_toArray, List.set_cons_zero, List.set_cons_succ]
                    refine wpAnyH_take (i := 4) (v := ?vv14) (by rfl) (by kernel_rfl) (by kernel_rfl) (by kernel_rfl) (by intro _ _ _ h; exact h) (Or.inl ⟨by kernel_rfl, ?hy14⟩) (by assumption) ?rest14
                    case hy14 =>
                      intro w' hSw
                      have hSw : Keeps _ w' := hSw
                      have hx := keep1 hSw hc1
                      clear hSw
                      go_simp
                      try with_reducible rfl
                    change wpAnyH _ _ _ _ _ _ _ (Act.put _ (some 84) _) _
                    try simp only [Act.put, List.setIfInBounds_toArray, List.set_cons_zero, List.set_cons_succ]
                    refine wpAnyH_take (i := 5) (v := ?vv15) (by rfl) (by kernel_rfl) (by kernel_rfl) (by kernel_rfl) (by intro _ _ _ h; exact h) (Or.inl ⟨by kernel_rfl, ?hy15⟩) (by assumption) ?rest15
                    case hy15 =>
                      intro w' hSw
                      have hSw : Keeps _ w' := hSw
                      clear hSw
                      go_simp
                      try with_reducible rfl
                    change wpAnyH _ _ _ _ _ _ _ (Act.put _ (some 85) _) _
                    try simp only [Act.put, List.setIfInBounds_toArray, List.set_cons_zero, List.set_cons_succ]
                    refine wpAnyH_take (i := 6) (v := ?vv16) (by rfl) (by kernel_rfl) (by kernel_rfl) (by kernel_rfl) (by intro _ _ _ h; exact h) (Or.inl ⟨by kernel_rfl, ?hy16⟩) (by assumption) ?rest16
                    case hy16 =>
                      intro w' hSw
                      have hSw : Keeps _ w' := hSw
                      have hx := hcut w'
                      clear hSw
                      go_simp
                      try with_reducible rfl
                    change wpAnyH _ _ _ _ _ _ _ (Act.put _ (some 86) _) _
                    try simp only [Act.put, List.setIfInBounds_toArray, List.set_cons_zero, List.set_cons_succ]
                    refine wpAnyH_ready (rs := [7]) (by kernel_rfl) (by simp) ?_
                    refine AllReadyH.cons (o := _) rfl (fun K hK => ?_) AllReadyH.nil
                    go_simp
                    refine (over_r _ s (p.b.take kk) p.place HTL.out (by rw [List.length_take]; omega) (by omega)).mono ?_
                    rintro e w3 ⟨rfl, hk⟩
                    have hb : Keeps _ w3 := hHeld.trans hk
                    have HK3 := Lib.hid (show Keeps w2 w3 from hHeld.trans hk)
                    go_wp2_with fail
                    refine hK.out _ _ hb (fun _ => ?_)
                    clear hK K
                    try simp only [Act.put, List.setIfInBounds_toArray, List.set_cons_zero, List.set_cons_succ]
                    refine wpAnyH_more (S' := fun w' => Keeps w3 w') (fun _ h => hb.trans h) ?_
                    clear hHeld hb hk
                    have hHeld : Keeps w3 w3 := Keeps.refl _
                    refine wpAnyH_take (i := 8) (v := ?vv17) (by rfl) (by kernel_rfl) (by kernel_rfl) (by kernel_rfl) (by intro _ _ _ h; exact h) (Or.inl ⟨by kernel_rfl, ?hy17⟩) (by assumption) ?rest17
                    case hy17 =>
                      intro w' hSw
                      have hSw : Keeps _ w' := hSw
                      clear hSw
                      go_simp
                      try with_reducible rfl
                    change wpAnyH _ _ _ _ _ _ _ (Act.put _ (some 11) _) _
                    try simp only [Act.put, List.setIfInBounds_toArray, List.set_cons_zero, List.set_cons_succ]
                    refine wpAnyH_done (by kernel_rfl) ?_ _
                    refine NoPanic.normal ?_
                    clear hHeld hc0 hc1 hcut
                    go_wp2_with fail
                    go_roundw
                    case rel => exact ⟨q + 1, by simp, by omega, by simp <;> omega, by rw [HTS.out, HZ.out], Lib.hid ⟨fun _ => trivial, (HTQ.out.trans HK2.out).trans HK3.out⟩⟩
                    case measure =>
                      simp only [RowKit.intOf]
                      omega
                · have ha' : decide (0 < a) = false := by simp; omega
                  have HZ := Lib.hid (show bootS keep p (n0 + q) s = s from by
                    rw [HBS.out, if_pos]
                    rw [HKE.out]
                    rw [HGD.out]; omega)
                  clear HBS HKE
                  go_wp2_with fail
                  go_roundw
                  case rel => exact ⟨q + 1, by simp, by omega, by simp <;> omega, by rw [HTS.out, HZ.out], Lib.hid ⟨fun _ => trivial, HTQ.out⟩⟩
                  case measure =>
                    simp only [RowKit.intOf]
                    omega
              · have hn' : decide ((n0 : Int) + (q : Int) < (keep.length : Int)) = false := by simp; omega
                have HZ := Lib.hid (show bootS keep p (n0 + q) s = s from by
                  rw [HBS.out, if_pos]
                  rw [HKE.out]
                  rw [List.getD_eq_getElem?_getD, List.getElem?_eq_none (by omega)]; show min (max (0 : Int) 0) (p.b.length : Int) = 0; omega)
                clear HBS HKE
                go_wp2_with fail
                go_roundw
                case rel => exact ⟨q + 1, by simp, by omega, by simp <;> omega, by rw [HTS.out, HZ.out], Lib.hid ⟨fun _ => trivial, HTQ.out⟩⟩
                case measure =>
                  simp only [RowKit.intOf]
                  omega
            · obtain rfl : q = ws := by omega
              have hqs' : decide ((q : Int) < (q : Int)) = false := by simp
              have HSQ := Lib.hid (HST.out q _ (fun _ => HWS.out) (fun h => by rw [hkb] at h; cases h) rfl)
              have hwz := HKQ.out.size
              have hOZ := Frm.ownsRow_keeps HOQ.out (HKa.out.trans HQ.out.2)
              have HOZ := Lib.hid hOZ
              have hsz := HKW.out.size
              clear hOZ
              generalize bootT keep f.waits n0 f.sure q = s at *
              go_wp2_with (first
                | (refine HKC.out.mono ?_; rintro e wz ⟨rfl, rfl⟩)
                | (at_builtin; go_loud (refine wpList_apps (base := w.heap.size) filok (by decide) rfl _ _ rfl (.slice pq j cq) (.slice (some ⟨wq.heap.size, 0, none⟩) 1 1) j 1 ((bootL d keep j).flatMap filZ) [.string (bstr s), .string (bstr s), .slice none 0 0] rfl rfl (Frm.ownsRow_keeps HOZ.out ((Keeps.refl _).alloc _)) (Frm.rowS_lit rfl rfl rfl) (by simp [Value.oneCell']) (by omega) (by decide) (by rw [Frm.alloc_size]; omega) ?_; intro v4 w4 ho4 hg4 hf4; obtain ⟨p4, c4, rfl, -, -⟩ := Frm.ownsRow_form ho4)))
              have HO4 := Lib.hid (show w4.ownsRow w.heap.size 93 3 (.slice p4 (j + 1) c4) (j + 1) ((bootL d keep (j + 1)).flatMap filZ) from by
                rw [HSQ.out.2, List.flatMap_append]
                exact ho4)
              have HK4 := Lib.hid (show Keeps w w4 from (HKW.out.alloc _).grown hg4 (Frm.ownsRow_base HOZ.out))
              clear ho4 hg4 hf4
              go_roundw
              case rel => exact ⟨j + 1, by simp, by omega, by rw [HSQ.out.1]; simp, Lib.hid ⟨p4, c4, rfl, HO4.out, HK4.out⟩⟩
              case measure =>
                simp only [RowKit.intOf]
                omega
      · obtain rfl : j = F := by omega
        have hlt' : decide ((j : Int) < (j : Int)) = false := by simp
        have c2 := keep1 HKQ.out HC2.out
        have HSU := Lib.hid (H.out.sure.mods (Mods.of_keeps (S := fun _ => False) HKQ.out) (fun _ _ h => h))
        clear HNB hlt hj
        go_wp2_with fail
        go_loopw [15, 16] (fun nx ix wq => ∃ (q : Nat) (p : Option Addr) (n c : Nat), ix = .int .i64 (q : Int) ∧ q ≤ d.waits.length ∧ nx = .slice p n c ∧ Hid ((q = 0 ∨ (q : Int) ≤ turns) ∧ n = (goneR d.sure d.waits q).length ∧ NmsOwn wq 0 (.slice p n c) (goneR d.sure d.waits q) ∧ (∀ y, (Value.slice p n c).ownBlock = some y → M y ∨ w.heap.size ≤ y) ∧ Keeps wo wq)) (fun _ ix _ => d.waits.length - (RowKit.intOf ix).toNat)
        case atStart => exact ⟨0, ps, _, cs, rfl, Nat.zero_le _, rfl, Lib.hid ⟨.inl rfl, rfl, HSU.out, fun y hy => .inl (H.out.ss y hy), Keeps.refl _⟩⟩
        case round =>
          obtain ⟨q, pn, nn, cn, rfl, hq, rfl, HQ⟩ := hrel
          obtain ⟨wq, rfl⟩ : ∃ z : World, z = wr := ⟨_, rfl⟩
          have HKW := Lib.hid (HKQ.out.trans HQ.out.2.2.2.2)
          have c3 := keep1 HKW.out HC3.out
          by_cases hqs : q < d.waits.length ∧ (q : Int) < turns
          · obtain ⟨hqs, hqt⟩ := hqs
            have hqs' : (q : Int) < (d.waits.length : Int) := by omega
            obtain ⟨b, off, cap, hv, hrw⟩ := turnsAt (Frm.ownsRow_keeps H.out.turns HKW.out) hqs
            simp only [Value.slice.injEq] at hv
            obtain ⟨rfl, -, rfl⟩ := hv
            have HGS := Lib.hid (goneR_succ (sure := d.sure) hqs)
            have HDO := Lib.hid (do_r wq HQ.out.2.2.1 (HGA.out q) d.waits[q] (by have := HGL.out q; omega))
            have HRW := Lib.hid hrw
            generalize d.waits[q] = tt at *
            generalize hW : d.waits.length = wl at *
            have HWW := Lib.hid hW
            clear hrw hW
            unfold trA at HDO
            obtain ⟨fr, ds, fi⟩ := tt
            go_wp2_with (first
              | refine wpList_ldR rfl trM HRW.out _ rfl rfl ?_
              | (refine HDO.out.mono ?_; rintro e w5 ⟨v5, rfl, ho5, hb5, hk5⟩; obtain ⟨p5, c5, rfl, -, -⟩ := Frm.ownsRow_form ho5))
            have HG2 := Lib.hid (show w5.ownsRow 0 96 2 (.slice p5 (goneR d.sure d.waits (q + 1)).length c5) (goneR d.sure d.waits (q + 1)).length ((goneR d.sure d.waits (q + 1)).flatMap enC) from by rw [HGS.out]; exact ho5)
            have hsz := HKW.out.size
            have HBB := Lib.hid (show ∀ y, (Value.slice p5 (goneR d.sure d.waits (q + 1)).length c5).ownBlock = some y → M y ∨ w.heap.size ≤ y from fun y hy => by
              rcases hb5 y (by rw [← hy]; cases p5 <;> rfl) with h | h
              · exact HQ.out.2.2.2.1 y h
              · exact .inr (by omega))
            have HK5 := Lib.hid (HQ.out.2.2.2.2.trans hk5)
            have HLE := Lib.hid (congrArg List.length HGS.out)
            clear ho5 hb5 hk5
            go_roundw
            case rel =>
              refine ⟨q + 1, p5, (goneR d.sure d.waits (q + 1)).length, c5, by simp, by omega, ?_, Lib.hid ⟨.inr (by omega), rfl, HG2.out, HBB.out, HK5.out⟩⟩
              rw [HLE.out]
            case measure =>
              simp only [RowKit.intOf]
              omega
          · have HGQ := Lib.hid (show goneR d.sure d.waits q = goneR d.sure d.waits turns.toNat from by
              have h0 := HQ.out.1
              by_cases hl : q < d.waits.length
              · have : turns.toNat = q := by omega
                rw [this]
              · obtain rfl : q = d.waits.length := by omega
                rcases h0 with h0 | h0
                · rw [goneR_all (j := turns.toNat) (by omega)]
                · rw [goneR_all (j := turns.toNat) (by omega)])
            have HBm := Lib.hid (H.out.blk.keeps HKW.out)
            have HEND := Lib.hid (show ∀ wF, Mods (· = m) w wF → Mods (· = m) wq wF → Blk wF m 59 (rdA { d with files := bootL d keep d.files.length, now := goneR d.sure d.waits turns.toNat, sure := goneR d.sure d.waits turns.toNat, waits := [], down := false, fail := -1, crash := -1 } (.slice pq j cq) (.slice pn nn cn) (.slice pn nn cn) (.slice none 0 0)) → RefAt wF (More M w wF) m { d with files := bootL d keep d.files.length, now := goneR d.sure d.waits turns.toNat, sure := goneR d.sure d.waits turns.toNat, waits := [], down := false, fail := -1, crash := -1 } k ∧ Mods (· = m) w wF from by
              intro wF hM hM2 hB
              obtain ⟨-, hnn, hnow, hpb, hkq⟩ := HQ.out
              rw [HGQ.out] at hnow hnn
              have hnm : (Value.slice pn nn cn).ownBlock ≠ some m := Frm.ownsRow_ne hnow HBm.out (by decide)
              have hnF := hnow.mods hM2 (fun y hy e => hnm (by rw [hy, e]))
              have hoq := Frm.ownsRow_keeps HOQ.out hkq
              have hom := Frm.ownsRow_ne hoq HBm.out (by decide)
              have hoF := Frm.ownsRow_mods hoq hM2 (fun y hy e => hom (by rw [hy, e]))
              have hsz := hM.size
              have hlen := bootL_len d keep d.files.length
              have hfit := H.out.fit
              refine ⟨⟨.slice pq j cq, .slice pn nn cn, .slice pn nn cn, .slice none 0 0, List.replicate (bootL d keep d.files.length).length (.slice none 0 0), ?_⟩, hM⟩
              have hbn : ∀ y, (Value.slice pn nn cn).ownBlock = some y → More M w wF y := fun y hy => by
                rcases hpb y hy with h | h
                · exact .inl h
                · exact .inr ⟨h, (owns_ty hnF hy).lt⟩
              exact
                { blk := hB
                  files := by
                    show wF.ownsRow 0 93 3 (.slice pq j cq) (bootL d keep d.files.length).length _
                    rw [filZ_zip, hlen, ← HF.out]
                    exact ownsRow_low hoF (Nat.zero_le _)
                  len := by simp
                  waits := fun i h1 h2 => by
                    have hw := (bootL_ok HSB.out HP.out keep d.files.length (Nat.le_refl _) _ (List.getElem_mem h2)).1
                    show wF.ownsRow 0 _ 2 _ (bootL d keep d.files.length)[i].waits.length _
                    rw [hw, List.getElem_replicate]
                    exact World.ownsRow_nil _ _ _ 2
                  now := hnF
                  sure := hnF
                  turns := World.ownsRow_nil _ _ _ 3
                  sm := .inl H.out.sm
                  sf := fun y hy => .inr ⟨Frm.ownsRow_base hoF y hy, (owns_ty hoF hy).lt⟩
                  sn := hbn, ss := hbn
                  st := fun y hy => by simp [Value.ownBlock] at hy
                  sw := fun v hv y hy => by
                    rw [(List.mem_replicate.1 hv).2] at hy
                    simp [Value.ownBlock] at hy
                  fit :=
                    { f := by show (bootL d keep d.files.length).length ≤ k; rw [hlen]; exact hfit.f
                      n := HGL.out _, s := HGL.out _, w := Nat.zero_le _
                      p := fun x hx => by rw [(bootL_ok HSB.out HP.out keep d.files.length (Nat.le_refl _) x hx).1]; exact Nat.zero_le _
                      b := fun x hx => (bootL_ok HSB.out HP.out keep d.files.length (Nat.le_refl _) x hx).2
                      c0 := hfit.c0, c1 := hfit.c1
                      t1 := neg1_in, t2 := neg1_in
                      an := HGA.out _, au := HGA.out _
                      is := fun p hp => by show p.2 < (bootL d keep d.files.length).length; rw [hlen]; exact HGI.out p hp
                      cap := hfit.cap } })
            have z0 : wq.frozen? ⟨m, 0, none⟩ = false := HBm.out.frozen _
            have z1 : wq.frozen? ⟨m, 1, none⟩ = false := HBm.out.frozen _
            have z2 : wq.frozen? ⟨m, 2, none⟩ = false := HBm.out.frozen _
            have z3 : wq.frozen? ⟨m, 3, none⟩ = false := HBm.out.frozen _
            have z5 : wq.frozen? ⟨m, 5, none⟩ = false := HBm.out.frozen _
            have z7 : wq.frozen? ⟨m, 7, none⟩ = false := HBm.out.frozen _
            have z8 : wq.frozen? ⟨m, 8, none⟩ = false := HBm.out.frozen _
            obtain ⟨y0, y1, y2, y3, -, y5, -, y7, y8, -⟩ := (H.out.apart (T := fun _ => False) (Mods.of_keeps HKW.out) (fun _ _ h => h)).cells
            rw [← HF.out] at y0
            generalize hW : d.waits.length = wl at *
            by_cases hl : q < wl
            · have hl' : (q : Int) < (wl : Int) := by omega
              have ht' : decide ((q : Int) < turns) = false := by simp; omega
              go_wp2_with fail
              go_ret
              rw [HX.out]
              have hM := (((((((Mods.of_keeps (S := (· = m)) HKW.out).setCell (p := ⟨m, 0, none⟩) (fun _ => rfl) (.slice pq j cq)).setCell (p := ⟨m, 1, none⟩) (fun _ => rfl) (.slice pn nn cn)).setCell (p := ⟨m, 2, none⟩) (fun _ => rfl) (.slice pn nn cn)).setCell (p := ⟨m, 3, none⟩) (fun _ => rfl) (.slice none 0 0)).setCell (p := ⟨m, 5, none⟩) (fun _ => rfl) (.bool false)).setCell (p := ⟨m, 7, none⟩) (fun _ => rfl) (.int .i64 (-1))).setCell (p := ⟨m, 8, none⟩) (fun _ => rfl) (.int .i64 (-1))
              have hM2 := (((((((Mods.refl (· = m) wq).setCell (p := ⟨m, 0, none⟩) (fun _ => rfl) (.slice pq j cq)).setCell (p := ⟨m, 1, none⟩) (fun _ => rfl) (.slice pn nn cn)).setCell (p := ⟨m, 2, none⟩) (fun _ => rfl) (.slice pn nn cn)).setCell (p := ⟨m, 3, none⟩) (fun _ => rfl) (.slice none 0 0)).setCell (p := ⟨m, 5, none⟩) (fun _ => rfl) (.bool false)).setCell (p := ⟨m, 7, none⟩) (fun _ => rfl) (.int .i64 (-1))).setCell (p := ⟨m, 8, none⟩) (fun _ => rfl) (.int .i64 (-1))
              have hB := ((((((HBm.out.set_ 0 (.slice pq j cq)).set_ 1 (.slice pn nn cn)).set_ 2 (.slice pn nn cn)).set_ 3 (.slice none 0 0)).set_ 5 (.bool false)).set_ 7 (.int .i64 (-1))).set_ 8 (.int .i64 (-1))
              exact ⟨rfl, HEND.out _ hM hM2 hB⟩
            · have hl' : decide ((q : Int) < (wl : Int)) = false := by simp; omega
              go_wp2_with fail
              go_ret
              rw [HX.out]
              have hM := (((((((Mods.of_keeps (S := (· = m)) HKW.out).setCell (p := ⟨m, 0, none⟩) (fun _ => rfl) (.slice pq j cq)).setCell (p := ⟨m, 1, none⟩) (fun _ => rfl) (.slice pn nn cn)).setCell (p := ⟨m, 2, none⟩) (fun _ => rfl) (.slice pn nn cn)).setCell (p := ⟨m, 3, none⟩) (fun _ => rfl) (.slice none 0 0)).setCell (p := ⟨m, 5, none⟩) (fun _ => rfl) (.bool false)).setCell (p := ⟨m, 7, none⟩) (fun _ => rfl) (.int .i64 (-1))).setCell (p := ⟨m, 8, none⟩) (fun _ => rfl) (.int .i64 (-1))
              have hM2 := (((((((Mods.refl (· = m) wq).setCell (p := ⟨m, 0, none⟩) (fun _ => rfl) (.slice pq j cq)).setCell (p := ⟨m, 1, none⟩) (fun _ => rfl) (.slice pn nn cn)).setCell (p := ⟨m, 2, none⟩) (fun _ => rfl) (.slice pn nn cn)).setCell (p := ⟨m, 3, none⟩) (fun _ => rfl) (.slice none 0 0)).setCell (p := ⟨m, 5, none⟩) (fun _ => rfl) (.bool false)).setCell (p := ⟨m, 7, none⟩) (fun _ => rfl) (.int .i64 (-1))).setCell (p := ⟨m, 8, none⟩) (fun _ => rfl) (.int .i64 (-1))
              have hB := ((((((HBm.out.set_ 0 (.slice pq j cq)).set_ 1 (.slice pn nn cn)).set_ 2 (.slice pn nn cn)).set_ 3 (.slice none 0 0)).set_ 5 (.bool false)).set_ 7 (.int .i64 (-1))).set_ 8 (.int .i64 (-1))
              exact ⟨rfl, HEND.out _ hM hM2 hB⟩
end
end Rf
end Go.Proofs.YtchjncnolmiejaaGreat

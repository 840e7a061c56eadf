/- Several texts in one: FrameSame, TxOne, TxRepPlain, TxReplay, TxSame. -/
import Derived.Test.YtchjncnolmiejaaGreatK19
import Derived.Test.YtchjncnolmiejaaGreatDrawn
import Derived.Test.YtchjncnolmiejaaGreatK11
import Derived.Test.YtchjncnolmiejaaGreatTxBegin
import Derived.Test.YtchjncnolmiejaaGreatMid
import Derived.Deep.LoopGhost
/- The reference's Same and SameGaps: of what is the same they say so. -/
namespace Go.Proofs.YtchjncnolmiejaaGreat
open Go.RowKit
namespace Frm
open Oct

theorem fr_at {l : List (Fr1 × Value)} {i : Nat} (h : i < l.length) {j : Nat} (hj : j < 4) : (l.flatMap frC)[i * 4 + j]? = (frC l[i])[j]? := flat_get frC_len l i j _ (List.getElem?_eq_getElem h) hj
/-- one frame of a list in memory: its cells and its payload -/
theorem FramesAt.one {w : World} {base : Nat} {p : Option Addr} {n cap : Nat} {l : List (Fr1 × Value)} (h : FramesAt w base (.slice p n cap) l) {j : Nat} (hj : j < l.length) : ∃ g, p = some ⟨g, 0, none⟩ ∧ (w.cell? ⟨g, j * 4, none⟩ = some (.int .i64 l[j].1.at') ∧ w.cell? ⟨g, j * 4 + 1, none⟩ = some (.int .i64 l[j].1.len) ∧ w.cell? ⟨g, j * 4 + 2, none⟩ = some (.int .i64 l[j].1.kind) ∧ w.cell? ⟨g, j * 4 + 3, none⟩ = some l[j].2) ∧ Row w l[j].2 (l[j].1.pay.map u8v) := by
 obtain ⟨g, cap', hv, -, -, -, hc⟩ := ownsRow_at h.own (by omega)
 simp only [Value.slice.injEq] at hv
 obtain ⟨rfl, -, rfl⟩ := hv
 refine ⟨g, rfl, ⟨hc (j * 4 + 0) _ (by rw [fr_at hj (by omega)]; rfl), hc (j * 4 + 1) _ (by rw [fr_at hj (by omega)]; rfl), hc (j * 4 + 2) _ (by rw [fr_at hj (by omega)]; rfl), hc (j * 4 + 3) _ (by rw [fr_at hj (by omega)]; rfl)⟩, (h.pay _ (List.getElem_mem hj)).row⟩

end Frm
end Go.Proofs.YtchjncnolmiejaaGreat

/- txlog.one. -/
namespace Go.Proofs.YtchjncnolmiejaaGreat
open Go.RowKit
namespace Txl
open Oct Frm
theorem frM : Mids Tryz.prog 147 4 := ⟨⟨_, Tryz.underlying147, rfl⟩, by kernel_rfl⟩
theorem payok : ElemOk Tryz.prog 44 22 24 := elemOk (z := .slice none 0 0) Tryz.underlying44 (by kernel_rfl) rfl
/-- a row of frames that is read alone -/
structure FrmsR (w : World) (base : Nat) (v : Value) (l : List (Fr1 × Value)) : Prop where
 row : RowS w 4 v l.length (l.flatMap frC)
 pay : ∀ x ∈ l, Piece w base 5 x.2 (x.1.pay.map u8v)
 len : ∀ x ∈ l, x.1.pay.length ≤ 35184372088832
 ty : ∀ b off n cap, v = .slice (some ⟨b, off, none⟩) n cap → 0 < n → ∃ cs fr, w.heap[b]? = some (.cells cs 147 fr)
section
variable {w w' : World} {base : Nat} {v : Value} {l : List (Fr1 × Value)}
theorem FrmsR.keeps (h : FrmsR w base v l) (k : Keeps w w') : FrmsR w' base v l := ⟨h.row.keeps k, fun x hx => (h.pay x hx).keeps k, h.len, fun b off n cap hv hn => by
 obtain ⟨cs, fr, hh⟩ := h.ty b off n cap hv hn
 exact ⟨cs, fr, by rw [k.block (Array.getElem?_eq_some_iff.1 hh).1]; exact hh⟩⟩
theorem FrmsR.form (h : FrmsR w base v l) : ∃ p cap, v = .slice p l.length cap ∧ l.length ≤ cap ∧ cap ≤ 9223372036854775807 := h.row.form
theorem FrmsR.at_ (h : FrmsR w base v l) {j : Nat} (hj : j < l.length) : ∃ b off cap, v = .slice (some ⟨b, off, none⟩) l.length cap ∧ w.rangeAt b (off + j * 4) (frC l[j]) := by
 obtain ⟨b, off, cap, hv, -, -, hc⟩ := RowS.at_ h.row (by omega)
 refine ⟨b, off, cap, hv, fun i x hx => ?_⟩
 have hi : i < 4 := by
  have := (List.getElem?_eq_some_iff.1 hx).1
  simpa [frC] using this
 rw [Nat.add_assoc]
 refine hc.out (j * 4 + i) x ?_
 rw [flat_get frC_len l j i _ (List.getElem?_eq_getElem hj) hi]
 exact hx
theorem FrmsR.cut {p : Option Addr} {cap : Nat} (h : FrmsR w base (.slice p l.length cap) l) {lo hi : Nat} (h1 : lo ≤ hi) (h2 : hi ≤ l.length) : FrmsR w base (cutS 4 p lo hi cap) ((l.drop lo).take (hi - lo)) := by
 have hp := RowS.part frC_len h.row h1 h2
 refine ⟨?_, fun x hx => h.pay x (List.mem_of_mem_drop (List.mem_of_mem_take hx)), fun x hx => h.len x (List.mem_of_mem_drop (List.mem_of_mem_take hx)), fun b off n c hv hn => ?_⟩
 ·have e : ((l.drop lo).take (hi - lo)).length = hi - lo := by rw [List.length_take, List.length_drop]; omega
  rw [e]
  exact hp
 ·unfold cutS at hv
  simp only [Value.slice.injEq] at hv
  obtain ⟨h3, h4, -⟩ := hv
  have hl : 0 < l.length := by omega
  cases p with
  | none => split at h3 <;> simp at h3
  | some a =>
   obtain ⟨b0, o0, s0⟩ := a
   obtain ⟨b1, o1, c1, hv1, -⟩ := RowS.at_ h.row hl
   simp only [Value.slice.injEq, Option.some.injEq, Addr.mk.injEq] at hv1
   obtain ⟨⟨rfl, rfl, rfl⟩, -, -⟩ := hv1
   have hb : b0 = b := by
    split at h3
    ·simp only [Option.some.injEq, Addr.mk.injEq] at h3; exact h3.1
    ·simp only [Option.map_some, Option.some.injEq, Go.WideShapes.add_plain, Addr.mk.injEq] at h3; exact h3.1
   subst hb
   exact h.ty b0 o0 l.length cap rfl hl
theorem FrmsR.modsT {S : Nat → Prop} (h : FrmsR w base v l) (k : Mods S w w') (h1 : ∀ x, S x → ∀ cs fr, w.heap[x]? ≠ some (.cells cs 147 fr)) (h2 : ∀ x, S x → ∀ cs fr, w.heap[x]? ≠ some (.cells cs 5 fr)) : FrmsR w' base v l := by
 have hn : ∀ b off n cap, v = .slice (some ⟨b, off, none⟩) n cap → 0 < n → ¬ S b := fun b off n cap hv hp hs => by
  obtain ⟨cs, fr, hh⟩ := h.ty b off n cap hv hp
  exact h1 b hs cs fr hh
 refine ⟨⟨h.row.1, ?_⟩, fun x hx => (h.pay x hx).modsT k h2, h.len, fun b off n cap hv hp => ?_⟩
 ·rcases h.row.2 with h3 | ⟨b, off, cap, hv, g1, g2, g3⟩
  ·exact .inl h3
  ·by_cases hz : l.length = 0
   ·have : l = [] := List.eq_nil_of_length_eq_zero hz
    subst this
    exact .inr ⟨b, off, cap, hv, g1, g2, fun i x hx => by simp at hx⟩
   ·exact .inr ⟨b, off, cap, hv, g1, g2, fun i x hx => k.cell (g3 i x hx) (hn b off _ cap hv (by omega))⟩
 ·obtain ⟨cs, fr, hh⟩ := h.ty b off n cap hv hp
  exact ⟨cs, fr, k.heap hh (hn b off n cap hv hp)⟩
end
def itemB (f : Fr1) : Bool := decide (f.kind = 33) && decide (f.pay.length ≤ 4096)
/-- how many items the transaction n has that the frames begin with; none: they begin with none -/
def oneK (n : Nat) (fs : List Fr1) : Option Nat := match fs with
 | [] => none
 | f :: r => if beginB n f = true ∧ cntP f.pay < r.length ∧ commitB n (r.getD (cntP f.pay) ⟨0, 0, 0, []⟩) = true ∧ (r.take (cntP f.pay)).all itemB = true then some (cntP f.pay) else none
def txZero : Array Value := #[.int .i64 0, .slice none 0 0]
def OneDid (W : World) (n : Nat) (fs : List (Fr1 × Value)) (r : Option Nat) (e : Ending) (w' : World) : Prop := Keeps W w' ∧ match r with
 | none => e = .returned (.tuple #[.agg #[.int .i64 0, .slice none 0 0], .int .i64 0, .bool false])
 | some c => ∃ iv, e = .returned (.tuple #[.agg #[.int .i64 (n : Int), iv], .int .i64 ((c : Int) + 2), .bool true]) ∧ Own w' W.heap.size 22 iv (((fs.drop 1).take c).map (·.2))
theorem oneDid_none {W w' : World} {n : Nat} {fs : List (Fr1 × Value)} {r : Option Nat} (hr : r = none) (hK : Keeps W w') : OneDid W n fs r (.returned (.tuple #[.agg #[.int .i64 0, .slice none 0 0], .int .i64 0, .bool false])) w' := by
 subst hr
 exact ⟨hK, rfl⟩
theorem oneDid_some {W w' : World} {n c : Nat} {fs : List (Fr1 × Value)} {r : Option Nat} (hr : r = some c) (hK : Keeps W w') {iv : Value} (ho : Own w' W.heap.size 22 iv (((fs.drop 1).take c).map (·.2))) : OneDid W n fs r (.returned (.tuple #[.agg #[.int .i64 (n : Int), iv], .int .i64 ((c : Int) + 2), .bool true])) w' := by
 subst hr
 exact ⟨hK, iv, rfl, ho⟩
theorem oneK_cons (n : Nat) (f : Fr1) (r : List Fr1) : oneK n (f :: r) = if beginB n f = true ∧ cntP f.pay < r.length ∧ commitB n (r.getD (cntP f.pay) ⟨0, 0, 0, []⟩) = true ∧ (r.take (cntP f.pay)).all itemB = true then some (cntP f.pay) else none := rfl
theorem beginB_cnt {n : Nat} {f : Fr1} (h : beginB n f = true) : cntP f.pay ≤ 1000 := by
 unfold beginB at h
 simp at h
 exact h.2
set_option maxRecDepth 100000 in
set_option maxHeartbeats 4000000 in
theorem one_any (n : Nat) (hn : n < 9223372036854775808) (fs : List (Fr1 × Value)) (v : Value) (base : Nat) (w : World) (h : FrmsR w base v fs) (hbase : fs.length ≤ 1099511627776) : Calls Tryz.prog 82 #[v, .int .i64 (n : Int)] w (OneDid w n fs (oneK n (fs.map (·.1)))) := by
 obtain ⟨p, cap, rfl, hc1, hc2⟩ := h.form
 have HR := Lib.hid h
 clear h
 cases fs with
 | nil =>
  show Calls _ _ _ _ (OneDid w n [] none)
  unfold OneDid
  have hl0 : ([] : List (Fr1 × Value)).length = 0 := rfl
  rw [hl0]
  go_enter Tryz.func82, Tryz.ntmps82
  go_wp2_with fail
  exact bodyPost_ret (v := .tuple #[.agg #[.int .i64 0, .slice none 0 0], .int .i64 0, .bool false]) (by simp [results, Tryz.results82, go_sem]) rfl ⟨by repeat (first | exact Keeps.refl _ | refine Keeps.alloc ?_ _ | refine Keeps.setCell ?_ (by simp) _), rfl⟩
 | cons x r =>
  have hpos : 0 < (x :: r).length := by simp
  obtain ⟨b, off, cap', hv, hrg⟩ := HR.out.at_ hpos
  simp only [Value.slice.injEq] at hv
  obtain ⟨rfl, -, rfl⟩ := hv
  obtain ⟨f, pv⟩ := x
  have hpc := HR.out.pay _ (List.mem_cons_self ..)
  have hlp := HR.out.len _ (List.mem_cons_self ..)
  have HRW := Lib.hid (show Row w pv (f.pay.map u8v) from hpc.row)
  obtain ⟨pp, pc, hpv, -, -⟩ := hpc.form
  simp only [List.length_map] at hpv
  subst hpv
  have HRG := Lib.hid (show w.rangeAt b (off + 0 * 4) [.int .i64 f.at', .int .i64 f.len, .int .i64 f.kind, .slice pp f.pay.length pc] from hrg)
  have HLP := Lib.hid hlp
  have HX0 := Lib.hid (show oneK n (((f, Value.slice pp f.pay.length pc) :: r).map (·.1)) = if beginB n f = true ∧ cntP f.pay < (r.map (·.1)).length ∧ commitB n ((r.map (·.1)).getD (cntP f.pay) ⟨0, 0, 0, []⟩) = true ∧ ((r.map (·.1)).take (cntP f.pay)).all itemB = true then some (cntP f.pay) else none from rfl)
  obtain ⟨L, hL⟩ : ∃ L, L = ((f, Value.slice pp f.pay.length pc) :: r).length := ⟨_, rfl⟩
  have hLr : L = r.length + 1 := by rw [hL]; rfl
  have HLR := Lib.hid hLr
  have HLL := Lib.hid hL
  rw [← hL] at hc1 hbase ⊢
  have hL1 : 0 < L := by omega
  have hL1i : (0 : Int) < (L : Int) := by omega
  generalize oneK n (((f, Value.slice pp f.pay.length pc) :: r).map (·.1)) = res at *
  clear hpc hrg hlp hpos hL hLr
  go_enter Tryz.func82, Tryz.ntmps82
  go_upto_region 1 with fail
  generalize hW : World.alloc w _ = w1
  have HK1 := Lib.hid (show Keeps w w1 from by rw [← hW]; exact (Keeps.refl _).alloc _)
  have HR1 := Lib.hid (show Blk w1 w.heap.size 106 txZero from by rw [← hW]; exact Blk.new _ _ _ rfl)
  clear hW
  obtain ⟨R, hq⟩ : ∃ q, q = w.heap.size := ⟨_, rfl⟩
  rw [← hq] at HR1 ⊢
  have HRe := Lib.hid hq
  clear hq
  have HB := Lib.hid (begin_any n hn f (.slice pp f.pay.length pc) w1 (HRW.out.keeps HK1.out) HLP.out)
  unfold BeginDid at HB
  have HG1 := Lib.hid (show w1.rangeAt b (off + 0 * 4) [.int .i64 f.at', .int .i64 f.len, .int .i64 f.kind, .slice pp f.pay.length pc] from fun i x hx => by
   have := HRG.out i x hx
   rw [HK1.out.cell (p := ⟨b, off + 0 * 4 + i, none⟩) (lt_of_cell this)]
   exact this)
  rw [Nat.zero_mul, Nat.add_zero] at HG1
  go_wp2_with (refine wpList_ldR rfl frM HG1.out _ rfl rfl ?_)
  refine HB.out.mono ?_
  rintro e w2 ⟨rfl, hk2⟩
  have HK2 := Lib.hid (HK1.out.trans hk2)
  have HR2 := Lib.hid (HR1.out.keeps hk2)
  have HCB := Lib.hid (beginB_cnt (n := n) (f := f))
  clear hk2 HB
  cases hbb : beginB n f with
  | false =>
   have HN := Lib.hid (HX0.out.trans (if_neg (by rw [hbb]; simp)))
   clear hbb
   have r0 : w2.cell? ⟨R, 0, none⟩ = some (.int .i64 0) := by rw [HR2.out.cell]; rfl
   have r1 : w2.cell? ⟨R, 1, none⟩ = some (.slice none 0 0) := by rw [HR2.out.cell]; rfl
   have z0 : w2.frozen? ⟨R, 0, none⟩ = false := HR2.out.frozen _
   have z1 : w2.frozen? ⟨R, 1, none⟩ = false := HR2.out.frozen _
   go_wp2_with fail
   exact bodyPost_ret (v := .tuple #[.agg #[.int .i64 0, .slice none 0 0], .int .i64 0, .bool false]) (by simp [results, Tryz.results82, go_sem, r0, r1]) rfl (oneDid_none HN.out ((HK2.out.setCell (by have := HRe.out; show _ ≤ R; omega) _).setCell (by have := HRe.out; show _ ≤ R; omega) _))
  | true =>
   have hc := HCB.out hbb
   have HBB := Lib.hid hbb
   clear hbb
   have HX1 := Lib.hid (show res = if cntP f.pay < (r.map (·.1)).length ∧ commitB n ((r.map (·.1)).getD (cntP f.pay) ⟨0, 0, 0, []⟩) = true ∧ ((r.map (·.1)).take (cntP f.pay)).all itemB = true then some (cntP f.pay) else none from by rw [HX0.out, HBB.out]; simp)
   generalize cntP f.pay = c at *
   clear HX0 HCB HBB
   have hw1 : IntKind.i64.wrap ((c : Int) + 2) = (c : Int) + 2 := by rw [IntKind.wrap_i64]; omega
   have hw2 : IntKind.i64.wrap ((c : Int) + 1) = (c : Int) + 1 := by rw [IntKind.wrap_i64]; omega
   by_cases hl2 : L < c + 2
   ·have HN := Lib.hid (HX1.out.trans (if_neg (fun hh => by have h1 := hh.1; rw [List.length_map] at h1; have := HLR.out; omega)))
    have hl2i : (L : Int) < (c : Int) + 2 := by omega
    have r0 : w2.cell? ⟨R, 0, none⟩ = some (.int .i64 0) := by rw [HR2.out.cell]; rfl
    have r1 : w2.cell? ⟨R, 1, none⟩ = some (.slice none 0 0) := by rw [HR2.out.cell]; rfl
    have z0 : w2.frozen? ⟨R, 0, none⟩ = false := HR2.out.frozen _
    have z1 : w2.frozen? ⟨R, 1, none⟩ = false := HR2.out.frozen _
    go_wp2_with fail
    exact bodyPost_ret (v := .tuple #[.agg #[.int .i64 0, .slice none 0 0], .int .i64 0, .bool false]) (by simp [results, Tryz.results82, go_sem, r0, r1]) rfl (oneDid_none HN.out ((HK2.out.setCell (by have := HRe.out; show _ ≤ R; omega) _).setCell (by have := HRe.out; show _ ≤ R; omega) _))
   have hcr : c < r.length := by have := HLR.out; omega
   have hl2i : ¬ (L : Int) < (c : Int) + 2 := by omega
   have ht2 : decide ((L : Int) < (c : Int) + 2) = false := by simp; omega
   have hci : (c : Int) + 1 < (L : Int) := by omega
   obtain ⟨b', off', cap', hv, hrg⟩ := HR.out.at_ (j := c + 1) (by simp; omega)
   simp only [Value.slice.injEq, Option.some.injEq, Addr.mk.injEq] at hv
   obtain ⟨⟨rfl, rfl, -⟩, -, rfl⟩ := hv
   have hx1 : ((f, Value.slice pp f.pay.length pc) :: r)[c + 1]'(by simp; omega) = r[c] := List.getElem_cons_succ ..
   rw [hx1] at hrg
   have hgp := HR.out.pay _ (List.mem_cons_of_mem _ (List.getElem_mem hcr))
   have HGL := Lib.hid (HR.out.len _ (List.mem_cons_of_mem _ (List.getElem_mem hcr)))
   have HGD := Lib.hid (show (r.map (·.1)).getD c ⟨0, 0, 0, []⟩ = r[c].1 from by rw [List.getD_eq_getElem?_getD, List.getElem?_map, List.getElem?_eq_getElem hcr]; rfl)
   generalize r[c] = y at *
   obtain ⟨g, gv⟩ := y
   obtain ⟨gp, gc, hgv, -, -⟩ := hgp.form
   simp only [List.length_map] at hgv
   subst hgv
   have HGW := Lib.hid (show Row w (.slice gp g.pay.length gc) (g.pay.map u8v) from hgp.row)
   have HGG := Lib.hid (show w2.rangeAt b (off + (c + 1) * 4) [.int .i64 g.at', .int .i64 g.len, .int .i64 g.kind, .slice gp g.pay.length gc] from fun i x hx => by
    have := hrg i x hx
    rw [HK2.out.cell (p := ⟨b, off + (c + 1) * 4 + i, none⟩) (lt_of_cell this)]
    exact this)
   have HCM := Lib.hid (commit_any n hn g (.slice gp g.pay.length gc) w2 (HGW.out.keeps HK2.out) HGL.out)
   unfold CommitDid at HCM
   have g0 := HGG.out 0 _ rfl
   have g1 := HGG.out 1 _ rfl
   have g2 := HGG.out 2 _ rfl
   have g3 := HGG.out 3 _ rfl
   rw [Nat.add_zero] at g0
   clear hrg hgp hx1
   have HX2 := Lib.hid (show res = if commitB n g = true ∧ ((r.map (·.1)).take c).all itemB = true then some c else none from by
    rw [HX1.out, HGD.out]
    simp [hcr])
   cases hcm : commitB n g with
   | false =>
    rw [hcm] at HCM
    have HN := Lib.hid (HX2.out.trans (if_neg (by rw [hcm]; simp)))
    clear hcm
    go_wp2_with fail
    refine HCM.out.mono ?_
    rintro e w3 ⟨rfl, hk3⟩
    have HK3 := Lib.hid (HK2.out.trans hk3)
    have HR3 := Lib.hid (HR2.out.keeps hk3)
    clear hk3 HCM g0 g1 g2 g3
    have r0 : w3.cell? ⟨R, 0, none⟩ = some (.int .i64 0) := by rw [HR3.out.cell]; rfl
    have r1 : w3.cell? ⟨R, 1, none⟩ = some (.slice none 0 0) := by rw [HR3.out.cell]; rfl
    have z0 : w3.frozen? ⟨R, 0, none⟩ = false := HR3.out.frozen _
    have z1 : w3.frozen? ⟨R, 1, none⟩ = false := HR3.out.frozen _
    go_wp2_with fail
    exact bodyPost_ret (v := .tuple #[.agg #[.int .i64 0, .slice none 0 0], .int .i64 0, .bool false]) (by simp [results, Tryz.results82, go_sem, r0, r1]) rfl (oneDid_none HN.out ((HK3.out.setCell (by have := HRe.out; show _ ≤ R; omega) _).setCell (by have := HRe.out; show _ ≤ R; omega) _))
   | true =>
    rw [hcm] at HCM
    have HX3 := Lib.hid (show res = if ((r.map (·.1)).take c).all itemB = true then some c else none from by rw [HX2.out, hcm]; simp)
    clear hcm
    go_wp2_with fail
    refine HCM.out.mono ?_
    rintro e w3 ⟨rfl, hk3⟩
    have HK3 := Lib.hid (HK2.out.trans hk3)
    have HR3 := Lib.hid (HR2.out.keeps hk3)
    clear hk3 HCM g0 g1 g2 g3
    go_upto_region 7 with fail
    generalize hW : World.alloc w3 _ = w4
    have HK4 := Lib.hid (show Keeps w3 w4 from by rw [← hW]; exact (Keeps.refl _).alloc _)
    have HT4 := Lib.hid (show Blk w4 w3.heap.size 106 #[.int .i64 (n : Int), .slice none 0 0] from by rw [← hW]; exact Blk.new _ _ _ rfl)
    clear hW
    have HR4 := Lib.hid (HR3.out.keeps HK4.out)
    have HTR := Lib.hid (show R < w3.heap.size from HR3.out.lt)
    have HTW := Lib.hid (show w.heap.size ≤ w3.heap.size from HK3.out.size)
    obtain ⟨T, hq⟩ : ∃ q, q = w3.heap.size := ⟨_, rfl⟩
    rw [← hq] at HT4 HTR HTW ⊢
    clear hq
    have HK4w := Lib.hid (HK3.out.trans HK4.out)
    have hcL : c + 1 ≤ cap := by omega
    obtain ⟨ps, hps⟩ := cutS_sl 4 (some ⟨b, off, none⟩) 1 (c + 1) cap
    rw [Nat.add_sub_cancel] at hps
    have hcut : ∀ w', (Instr.slice 141 (.slice (some ⟨b, off, none⟩) L cap) (some (.int .i64 1)) (some (.int .i64 ((c : Int) + 1))) none).run Tryz.prog w' = .ok (.slice ps c (cap - 1)) w' := fun w' => by
     rw [← hps, show ((c : Int) + 1) = ((c + 1 : Nat) : Int) from by omega]
     exact run_cutS_lh w' Tryz.underlying141 (by intro w; kernel_rfl) (some ⟨b, off, none⟩) L cap 1 (c + 1) (by omega) hcL
    have HSUB := Lib.hid (show FrmsR w base (.slice ps c (cap - 1)) (r.take c) from by
     have := HR.out.cut (lo := 1) (hi := c + 1) (by omega) (by simp; omega)
     rw [Nat.add_sub_cancel, hps] at this
     exact this)
    have HTL := Lib.hid (show (r.take c).length = c from by rw [List.length_take]; omega)
    have HX3 := Lib.hid (show res = if (r.take c).all (fun x => itemB x.1) = true then some c else none from by
     rw [HX3.out, ← List.map_take, List.all_map]
     rfl)
    have HRT := Lib.hid (show (((f, Value.slice pp f.pay.length pc) :: r).drop 1).take c = r.take c from rfl)
    clear hps HR HRG HG1 HGG HGW HX1 HX2 HGD HRW hw2
    generalize r.take c = G at *
    go_upto_region 8 with fail
    go_wp2_with fail
    go_loopw [50] (fun iv wr => ∃ (j : Nat) (po : Option Addr) (co : Nat), iv = .int .i64 (j : Int) ∧ j ≤ c ∧ Hid (Blk wr T 106 #[.int .i64 (n : Int), .slice po j co]) ∧ Hid (Own wr w.heap.size 22 (.slice po j co) ((G.take j).map (·.2))) ∧ Hid (Blk wr R 106 txZero) ∧ Hid (Keeps w wr) ∧ Hid (∀ x ∈ G.take j, itemB x.1 = true)) (fun iv _ => c - (intOf iv).toNat)
    case atStart => exact ⟨0, none, 0, rfl, Nat.zero_le _, HT4, Lib.hid (by simpa using Own.nil _ _ _), HR4, HK4w, Lib.hid (by simp)⟩
    case round =>
     clear HT4 HR4 HK4w HK4 HK3 HR3 HK2 HR2 HK1 HR1
     obtain ⟨j, po, co, rfl, hj, HT, HO, HRr, HK, HI⟩ := hrel
     by_cases hlt : j < c
     ·have hjG : j < G.length := by rw [HTL.out]; exact hlt
      obtain ⟨b2, off2, cap2, hv2, hrg⟩ := (HSUB.out.keeps HK.out).at_ hjG
      rw [HTL.out] at hv2
      simp only [Value.slice.injEq] at hv2
      obtain ⟨rfl, -, rfl⟩ := hv2
      have hgp := HSUB.out.pay _ (List.getElem_mem hjG)
      have HTJ := Lib.hid (show G.take (j + 1) = G.take j ++ [G[j]] from List.take_succ_eq_append_getElem hjG)
      have HMJ := Lib.hid (List.getElem_mem hjG)
      have hji : (j : Int) < (c : Int) := by omega
      generalize G[j] = z at *
      obtain ⟨h, hv⟩ := z
      obtain ⟨hp, hc3, hhv, -, -⟩ := hgp.form
      simp only [List.length_map] at hhv
      subst hhv
      have HGG := Lib.hid (show wr.rangeAt b2 (off2 + j * 4) [.int .i64 h.at', .int .i64 h.len, .int .i64 h.kind, .slice hp h.pay.length hc3] from hrg)
      clear hgp hrg
      go_upto_region 10 with (refine wpList_ldR rfl frM HGG.out _ rfl rfl ?_)
      generalize hW : World.alloc wr _ = y1
      have HKy := Lib.hid (show Keeps wr y1 from by rw [← hW]; exact (Keeps.refl _).alloc _)
      have HFy := Lib.hid (show Blk y1 wr.heap.size 147 #[.int .i64 h.at', .int .i64 h.len, .int .i64 h.kind, .slice hp h.pay.length hc3] from by rw [← hW]; exact Blk.new _ _ _ rfl)
      clear hW
      have HTy := Lib.hid (HT.out.keeps HKy.out)
      have HRy := Lib.hid (HRr.out.keeps HKy.out)
      have HOy := Lib.hid (HO.out.keeps HKy.out)
      have HKW := Lib.hid (HK.out.trans HKy.out)
      have HQW := Lib.hid (show w.heap.size ≤ wr.heap.size from HK.out.size)
      have HQT := Lib.hid (show T < wr.heap.size from HT.out.lt)
      obtain ⟨q, hq⟩ : ∃ q, q = wr.heap.size := ⟨_, rfl⟩
      rw [← hq] at HFy HQW HQT ⊢
      clear hq HGG
      have q2 : y1.cell? ⟨q, 2, none⟩ = some (.int .i64 h.kind) := by rw [HFy.out.cell]; rfl
      have q3 : y1.cell? ⟨q, 3, none⟩ = some (.slice hp h.pay.length hc3) := by rw [HFy.out.cell]; rfl
      by_cases hk : h.kind = 33
      ·have e1 : (h.kind != 33) = false := by simp [hk]
       have e1' : (h.kind == 33) = true := by simp [hk]
       by_cases hbig : 4096 < h.pay.length
       ·have HN := Lib.hid (HX3.out.trans (if_neg (fun hh => by
         have := List.all_eq_true.1 hh _ HMJ.out
         simp [itemB] at this
         omega)))
        clear hk
        have r0 : y1.cell? ⟨R, 0, none⟩ = some (.int .i64 0) := by rw [HRy.out.cell]; rfl
        have r1 : y1.cell? ⟨R, 1, none⟩ = some (.slice none 0 0) := by rw [HRy.out.cell]; rfl
        have z0 : y1.frozen? ⟨R, 0, none⟩ = false := HRy.out.frozen _
        have z1 : y1.frozen? ⟨R, 1, none⟩ = false := HRy.out.frozen _
        go_wp2_with fail
        exact bodyPost_ret (v := .tuple #[.agg #[.int .i64 0, .slice none 0 0], .int .i64 0, .bool false]) (by simp [results, Tryz.results82, go_sem, r0, r1]) rfl (oneDid_none HN.out ((HKW.out.setCell (by have := HRe.out; show _ ≤ R; omega) _).setCell (by have := HRe.out; show _ ≤ R; omega) _))
       ·have HIZ := Lib.hid (show itemB h = true from by simp [itemB, hk]; omega)
        clear hk
        have t1 : y1.cell? ⟨T, 1, none⟩ = some (.slice po j co) := by rw [HTy.out.cell]; rfl
        have hsz := HKW.out.size
        go_upto_region 12 with fail
        go_wp2_with (at_builtin; go_loud (refine wpList_app1 (base := w.heap.size) payok rfl _ _ rfl (.slice po j co) (.slice (some ⟨y1.heap.size, 0, none⟩) 1 1) ((G.take j).map (·.2)) [.slice hp h.pay.length hc3] rfl rfl (HOy.out.alloc _) (row_alloc rfl rfl rfl (by unfold maxLen; simp)) (by simp [Value.oneCell']) (by rw [List.length_map, List.length_take]; simp; omega) (by decide) (by rw [Frm.alloc_size]; omega) ?_; intro v4 y4 ho4 hg4 hf4; have hl4 : ((G.take j).map (·.2) ++ [Value.slice hp h.pay.length hc3]).length = j + 1 := by { simp; omega }; obtain ⟨p4, c4, hv4, -, -⟩ := Frm.ownsRow_form ho4; rw [hl4] at hv4; subst hv4; have HO4 := Lib.hid ho4; have HNT := Lib.hid (show (Value.slice po j co).ownBlock ≠ some T from HOy.out.blk_ne HTy.out (by decide)); have HNR := Lib.hid (show (Value.slice po j co).ownBlock ≠ some R from HOy.out.blk_ne HRy.out (by decide)); have HT4 := Lib.hid ((HTy.out.alloc _).grown hg4 HNT.out); have HR4 := Lib.hid ((HRy.out.alloc _).grown hg4 HNR.out); have HK4 := Lib.hid ((HKW.out.alloc _).grown hg4 (fun k hk => HOy.out.base k hk)); have t4 : y4.cell? ⟨T, 1, none⟩ = some (.slice po j co) := by { rw [HT4.out.cell]; rfl }; have zt4 : y4.frozen? ⟨T, 1, none⟩ = false := HT4.out.frozen _; clear ho4 hg4 hf4))
        have HO4T := Lib.hid (show (Value.slice p4 (j + 1) c4).ownBlock ≠ some T from HO4.out.blk_ne HT4.out (by decide))
        go_roundw
        case rel =>
         refine ⟨j + 1, p4, c4, by simp, by omega, Lib.hid (HT4.out.set_ 1 _), Lib.hid ?_, Lib.hid (HR4.out.far (by have := HTR.out; show R ≠ T; omega) _), Lib.hid (HK4.out.setCell (by have := HTW.out; show _ ≤ T; omega) _), Lib.hid ?_⟩
         ·have := HO4.out.setCell (a := ⟨T, 1, none⟩) (.slice p4 (j + 1) c4) HO4T.out
          rw [HTJ.out, List.map_append]
          exact this
         ·rw [HTJ.out]
          intro x hx
          rcases List.mem_append.1 hx with hx | hx
          ·exact HI.out x hx
          ·simp at hx; subst hx; exact HIZ.out
        case measure =>
         simp only [intOf]
         omega
      ·have e1 : (h.kind != 33) = true := by simp [hk]
       have e1' : (h.kind == 33) = false := by simp [hk]
       have HN := Lib.hid (HX3.out.trans (if_neg (fun hh => by
        have := List.all_eq_true.1 hh _ HMJ.out
        simp [itemB] at this
        omega)))
       clear hk
       have r0 : y1.cell? ⟨R, 0, none⟩ = some (.int .i64 0) := by rw [HRy.out.cell]; rfl
       have r1 : y1.cell? ⟨R, 1, none⟩ = some (.slice none 0 0) := by rw [HRy.out.cell]; rfl
       have z0 : y1.frozen? ⟨R, 0, none⟩ = false := HRy.out.frozen _
       have z1 : y1.frozen? ⟨R, 1, none⟩ = false := HRy.out.frozen _
       go_wp2_with fail
       exact bodyPost_ret (v := .tuple #[.agg #[.int .i64 0, .slice none 0 0], .int .i64 0, .bool false]) (by simp [results, Tryz.results82, go_sem, r0, r1]) rfl (oneDid_none HN.out ((HKW.out.setCell (by have := HRe.out; show _ ≤ R; omega) _).setCell (by have := HRe.out; show _ ≤ R; omega) _))
     ·have hjc : j = c := by omega
      have HGT := Lib.hid (show G.take j = G from List.take_of_length_le (by rw [HTL.out, hjc]; exact Nat.le_refl _))
      have HRES := Lib.hid (HX3.out.trans (if_pos (List.all_eq_true.2 (fun x hx => HI.out x (by rw [HGT.out]; exact hx)))))
      have hlt' : decide ((j : Int) < (c : Int)) = false := by simp; omega
      have HOG := Lib.hid (show Own wr w.heap.size 22 (.slice po j co) (G.map (·.2)) from by have := HO.out; rw [HGT.out] at this; exact this)
      have r0 : wr.cell? ⟨R, 0, none⟩ = some (.int .i64 0) := by rw [HRr.out.cell]; rfl
      have r1 : wr.cell? ⟨R, 1, none⟩ = some (.slice none 0 0) := by rw [HRr.out.cell]; rfl
      have z0 : wr.frozen? ⟨R, 0, none⟩ = false := HRr.out.frozen _
      have z1 : wr.frozen? ⟨R, 1, none⟩ = false := HRr.out.frozen _
      have t0 : wr.cell? ⟨T, 0, none⟩ = some (.int .i64 (n : Int)) := by rw [HT.out.cell]; rfl
      have t1 : wr.cell? ⟨T, 1, none⟩ = some (.slice po j co) := by rw [HT.out.cell]; rfl
      have HOR := Lib.hid (show (Value.slice po j co).ownBlock ≠ some R from HO.out.blk_ne HRr.out (by decide))
      clear hjc
      go_wp2_with fail
      refine bodyPost_ret (v := .tuple #[.agg #[.int .i64 (n : Int), .slice po j co], .int .i64 ((c : Int) + 2), .bool true]) (by simp [results, Tryz.results82, go_sem, r0, r1]) rfl (oneDid_some HRES.out ((HK.out.setCell (by have := HRe.out; show _ ≤ R; omega) _).setCell (by have := HRe.out; show _ ≤ R; omega) _) ?_)
      rw [HRT.out]
      exact (HOG.out.setCell _ HOR.out).setCell _ HOR.out
end Txl
end Go.Proofs.YtchjncnolmiejaaGreat

/- The transactions of frames, plain. -/
namespace Go.Proofs.YtchjncnolmiejaaGreat
open Go.RowKit
namespace Txl
open Oct Frm
def lenS (fs : List Fr1) : Int := (fs.map (·.len)).sum
theorem lenS_nil : lenS [] = 0 := rfl
theorem lenS_cons (f : Fr1) (fs : List Fr1) : lenS (f :: fs) = f.len + lenS fs := by simp [lenS]
theorem lenS_append (a b : List Fr1) : lenS (a ++ b) = lenS a + lenS b := by simp [lenS]
theorem lenS_take {fs : List Fr1} {j : Nat} (h : j < fs.length) : lenS (fs.take (j + 1)) = lenS (fs.take j) + fs[j].len := by
 rw [List.take_succ_eq_append_getElem h, lenS_append]
 simp [lenS]
theorem lenS_split (fs : List Fr1) (j : Nat) : lenS fs = lenS (fs.take j) + lenS (fs.drop j) := by
 rw [← lenS_append, List.take_append_drop]
theorem lenS_nn {fs : List Fr1} (h : ∀ f ∈ fs, 0 ≤ f.len) : 0 ≤ lenS fs := by
 induction fs with
 | nil => simp [lenS]
 | cons f fs ih =>
  rw [lenS_cons]
  have h1 := h f (List.mem_cons_self ..)
  have h2 := ih (fun x hx => h x (List.mem_cons_of_mem _ hx))
  omega
/-- what a row of frames has -/
theorem rowN_all (l : List UInt8) : ∀ (k u : Nat), u ≤ l.length → (∀ f ∈ (rowN l k u).1, 0 ≤ f.len ∧ f.pay.length ≤ l.length) ∧ (u : Int) + lenS (rowN l k u).1 = ((rowN l k u).2.1 : Int) ∧ (rowN l k u).2.1 ≤ l.length ∧ (rowN l k u).1.length + u ≤ (rowN l k u).2.1
 | 0, u, h => by simp [rowN, lenS, h]
 | k + 1, u, h => by
  by_cases hu : u < l.length
  ·by_cases he : atE l u = 0
   ·obtain ⟨h1, h2, h3⟩ := atE_len he
    have hp := atE_pay he
    obtain ⟨m, hm⟩ := Int.eq_ofNat_of_zero_le h3
    rw [rowN_ok hu he]
    have hm2 : (atF l u).len.toNat = m := by omega
    rw [hm2]
    obtain ⟨i1, i2, i3, i4⟩ := rowN_all l k (u + m) (by omega)
    refine ⟨?_, ?_, i3, ?_⟩
    ·intro f hf
     rcases List.mem_cons.1 hf with rfl | hf
     ·exact ⟨h3, hp⟩
     ·exact i1 f hf
    ·rw [lenS_cons]
     simp only at i2 ⊢
     omega
    ·simp only [List.length_cons]
     omega
   ·rw [rowN_err hu he]
    simp [lenS, h]
  ·rw [rowN_end hu]
   simp [lenS, h]
theorem rowR_all (l : List UInt8) : (∀ f ∈ (rowR l).1, 0 ≤ f.len ∧ f.pay.length ≤ l.length) ∧ lenS (rowR l).1 ≤ (l.length : Int) ∧ (rowR l).1.length ≤ l.length := by
 obtain ⟨h1, h2, h3, h4⟩ := rowN_all l l.length 0 (Nat.zero_le _)
 refine ⟨h1, ?_, ?_⟩
 ·show lenS (rowN l l.length 0).1 ≤ _
  omega
 ·show (rowN l l.length 0).1.length ≤ _
  omega
/-- the transactions from number n on, and how many bytes they have -/
def replayN : Nat → Nat → List Fr1 → List (Nat × List Item) × Int
 | 0, _, _ => ([], 0)
 | k + 1, n, fs => match oneK n fs with
  | none => ([], 0)
  | some c => ((n, ((fs.drop 1).take c).map (·.pay)) :: (replayN k (n + 1) (fs.drop (c + 2))).1, lenS (fs.take (c + 2)) + (replayN k (n + 1) (fs.drop (c + 2))).2)
def replayF (fs : List Fr1) : List (Nat × List Item) × Int := replayN fs.length 1 fs
theorem replayN_none {k n : Nat} {fs : List Fr1} (h : oneK n fs = none) : replayN k n fs = ([], 0) := by
 cases k with
 | zero => rfl
 | succ k => unfold replayN; rw [h]
theorem replayN_some {k n c : Nat} {fs : List Fr1} (h : oneK n fs = some c) : replayN (k + 1) n fs = ((n, ((fs.drop 1).take c).map (·.pay)) :: (replayN k (n + 1) (fs.drop (c + 2))).1, lenS (fs.take (c + 2)) + (replayN k (n + 1) (fs.drop (c + 2))).2) := by
 show (match oneK n fs with | none => _ | some c => _) = _
 rw [h]
theorem oneK_len {n c : Nat} {fs : List Fr1} (h : oneK n fs = some c) : c + 2 ≤ fs.length ∧ c ≤ 1000 := by
 cases fs with
 | nil => cases h
 | cons f r =>
  rw [oneK_cons] at h
  split at h
  ·rename_i hh
   cases h
   exact ⟨by simp; omega, beginB_cnt hh.1⟩
  ·cases h
end Txl
end Go.Proofs.YtchjncnolmiejaaGreat

/- txlog.Replay. -/
namespace Go.Proofs.YtchjncnolmiejaaGreat
open Go.RowKit
namespace Txl
open Oct Frm
theorem rowS_of {w : World} {base C n : Nat} {e : TypeId} {v : Value} {xs : List Value} (h : w.ownsRow base e C v n xs) : RowS w C v n xs := by
 refine ⟨h.1, ?_⟩
 rcases h.2 with ⟨rfl, rfl⟩ | ⟨q, cap, cur, rfl, _, hgg, h1, h2, h3, h4⟩
 ·exact .inl ⟨none, 0, rfl, rfl, Nat.zero_le _, fun _ => rfl⟩
 ·refine .inr ⟨q, 0, cap, rfl, h1, h2, fun i x hx => ?_⟩
  have hc := World.ownsRow.cells (h := h) (g := q) rfl i x hx
  rw [Go.WideShapes.add_plain] at hc
  exact hc
theorem FrmsR.of {w : World} {base : Nat} {v : Value} {l : List (Fr1 × Value)} (h : FramesAt w base v l) (hl : ∀ x ∈ l, x.1.pay.length ≤ 35184372088832) : FrmsR w base v l := ⟨rowS_of h.own, h.pay, hl, fun b off n cap hv hn => by
 rcases h.own.2 with ⟨e, _⟩ | ⟨q, cap', cur, e, _, hgg, _⟩
 ·rw [e] at hv; simp at hv
 ·rw [e] at hv
  simp only [Value.slice.injEq, Option.some.injEq, Addr.mk.injEq] at hv
  obtain ⟨⟨rfl, -, -⟩, -, -⟩ := hv
  exact ⟨_, _, hgg⟩⟩
/-- a transaction in memory: its number, its items' slice, the items' slices and bytes -/
abbrev TxX := Nat × Value × List (Value × Item)
def txC (x : TxX) : List Value := [.int .i64 (x.1 : Int), x.2.1]
theorem txC_len (x : TxX) : (txC x).length = 2 := rfl
def txP (x : TxX) : Nat × List Item := (x.1, x.2.2.map (·.2))
theorem txok : ElemOkS Tryz.prog 37 106 2 32 := elemOkS (z := .agg #[.int .i64 0, .slice none 0 0]) Tryz.underlying37 (by kernel_rfl) rfl
structure TxsAt (w : World) (base : Nat) (v : Value) (X : List TxX) : Prop where
 own : w.ownsRow base 106 2 v X.length (X.flatMap txC)
 its : ∀ x ∈ X, Own w base 22 x.2.1 (x.2.2.map (·.1))
 pay : ∀ x ∈ X, ∀ y ∈ x.2.2, Piece w base 5 y.1 (y.2.map u8v)
section
variable {w w' : World} {base : Nat} {v : Value} {X : List TxX}
theorem TxsAt.nil (w : World) (base : Nat) : TxsAt w base (.slice none 0 0) [] := ⟨World.ownsRow_nil w base _ 2, by simp, by simp⟩
theorem TxsAt.keeps (h : TxsAt w base v X) (k : Keeps w w') : TxsAt w' base v X := ⟨ownsRow_keeps h.own k, fun x hx => (h.its x hx).keeps k, fun x hx y hy => (h.pay x hx y hy).keeps k⟩
theorem own_modsT {T : Nat → Prop} {e : TypeId} {l : List Value} (h : Own w base e v l) (k : Mods T w w') (hn : ∀ x, T x → ∀ cs fr, w.heap[x]? ≠ some (.cells cs e fr)) : Own w' base e v l := by
 refine ownsRow_mods h k (fun x hx hs => ?_)
 rcases h.2 with ⟨rfl, _⟩ | ⟨q, cap, cur, rfl, _, hgg, _⟩
 ·simp [Value.ownBlock] at hx
 ·simp [Value.ownBlock] at hx
  subst hx
  exact hn _ hs _ _ hgg
/-- behind an append of one transaction -/
theorem TxsAt.snoc {v' : Value} {x : TxX} (h : TxsAt w base v X) (hi : Own w base 22 x.2.1 (x.2.2.map (·.1))) (hp : ∀ y ∈ x.2.2, Piece w base 5 y.1 (y.2.map u8v)) (ho : w'.ownsRow base 106 2 v' (X.length + 1) (X.flatMap txC ++ txC x)) (hg : w.grownBy w' v.ownBlock) : TxsAt w' base v' (X ++ [x]) := by
 have hM : Mods (fun x => v.ownBlock = some x) w w' := (Mods.refl _ w).grown hg (fun k hk _ => hk)
 have hty := ownsRow_ty (e' := 5) h.own (by decide)
 have hty2 := ownsRow_ty (e' := 22) h.own (by decide)
 refine ⟨by simpa using ho, ?_, ?_⟩
 ·intro z hz
  rcases List.mem_append.1 hz with hz | hz
  ·exact own_modsT (h.its z hz) hM hty2
  ·simp at hz
   subst hz
   exact own_modsT hi hM hty2
 ·intro z hz y hy
  rcases List.mem_append.1 hz with hz | hz
  ·exact (h.pay z hz y hy).modsT hM hty
  ·simp at hz
   subst hz
   exact (hp y hy).modsT hM hty
theorem TxsAt.one (h : TxsAt w base v X) : ∀ u ∈ X.flatMap txC, u.oneCell' = true := fun u hu => by
 obtain ⟨x, hx, hq⟩ := List.mem_flatMap.1 hu
 simp [txC] at hq
 rcases hq with rfl | rfl
 ·rfl
 ·obtain ⟨p, n, c, e⟩ := (h.its x hx).sl
  rw [e]
  rfl
end
def ReplayDid (W : World) (r : List (Nat × List Item) × Int) (e : Ending) (w' : World) : Prop := ∃ v X, e = .returned (.tuple #[v, .int .i64 r.2]) ∧ TxsAt w' W.heap.size v X ∧ X.map txP = r.1 ∧ Keeps W w'
set_option maxRecDepth 100000 in
set_option maxHeartbeats 4000000 in
theorem replay_any (v : Value) (l : List UInt8) (w : World) (hr : Row w v (l.map u8v)) (hl : l.length ≤ 549755813887) : Calls Tryz.prog 30 #[v] w (ReplayDid w (replayF (rowR l).1)) := by
 obtain ⟨p, cap, rfl, hc1, hc2⟩ := hr.formB
 have HRO := Lib.hid (row_any _ l w hr (by omega))
 obtain ⟨ha1, ha2, ha3⟩ := rowR_all l
 have HA := Lib.hid ha1
 clear hr ha1
 generalize (rowR l).1 = fs0 at *
 obtain ⟨N, hN⟩ : ∃ N, N = fs0.length := ⟨_, rfl⟩
 have HRF := Lib.hid (show replayF fs0 = replayN N 1 fs0 from by rw [hN]; rfl)
 go_enter Tryz.func30, Tryz.ntmps30
 go_wp2_with fail
 unfold RowDid at HRO
 refine HRO.out.mono ?_
 rintro e w1 ⟨v1, fl, rfl, hf, hfe, hk1⟩
 subst hfe
 have HF1 := Lib.hid (FrmsR.of hf (fun x hx => by have := (HA.out x.1 (List.mem_map.2 ⟨x, hx, rfl⟩)).2; omega))
 have HK1 := Lib.hid hk1
 obtain ⟨p1, c1, rfl, -, -⟩ := FrmsR.form HF1.out
 rw [List.length_map] at hN ha3
 have hNl : N ≤ 549755813887 := by omega
 clear hf hk1 HRO
 go_wp2_with fail
 have HIN := Lib.hid (show (∀ x ∈ fl, 0 ≤ x.1.len) ∧ (0 : Int) + lenS (fl.map (·.1)) ≤ (l.length : Int) ∧ 0 + fl.length ≤ N ∧ replayF (fl.map (·.1)) = ([].map txP ++ (replayN N 1 (fl.map (·.1))).1, 0 + (replayN N 1 (fl.map (·.1))).2) from
  ⟨fun x hx => (HA.out x.1 (List.mem_map.2 ⟨x, hx, rfl⟩)).1, by omega, by omega, by rw [HRF.out]; simp⟩)
 go_loopg [2, 3, 4] N (fun gk lv uv fv wr => ∃ (X : List TxX) (px : Option Addr) (cx : Nat) (u : Int) (fs : List (Fr1 × Value)) (pf : Option Addr) (cf : Nat), lv = .slice px X.length cx ∧ uv = .int .i64 u ∧ fv = .slice pf fs.length cf ∧ 0 ≤ u ∧ X.length ≤ N ∧ fs.length ≤ gk ∧ Hid (TxsAt wr w.heap.size (.slice px X.length cx) X) ∧ Hid (FrmsR wr w.heap.size (.slice pf fs.length cf) fs) ∧ Hid (Keeps w wr) ∧ Hid ((∀ x ∈ fs, 0 ≤ x.1.len) ∧ u + lenS (fs.map (·.1)) ≤ (l.length : Int) ∧ X.length + fs.length ≤ N ∧ replayF (fl.map (·.1)) = (X.map txP ++ (replayN gk (X.length + 1) (fs.map (·.1))).1, u + (replayN gk (X.length + 1) (fs.map (·.1))).2)))
 case atStart => exact ⟨[], none, 0, 0, fl, p1, c1, rfl, rfl, rfl, by omega, Nat.zero_le _, by omega, Lib.hid (TxsAt.nil _ _), HF1, HK1, HIN⟩
 case round =>
  clear HF1 HK1 HIN HA HRF ha2 ha3 hN
  obtain ⟨X, px, cx, u, fs, pf, cf, rfl, rfl, rfl, hu, hX, hgk, HX, HF, HK, HI⟩ := hrel
  have HC := Lib.hid (one_any (X.length + 1) (by omega) fs (.slice pf fs.length cf) w.heap.size wr HF.out (by have := HI.out.2.2.1; omega))
  rw [show ((X.length + 1 : Nat) : Int) = (X.length : Int) + 1 from by omega] at HC
  cases hone : oneK (X.length + 1) (fs.map (·.1)) with
  | none =>
   rw [hone] at HC
   have HE := Lib.hid (show replayF (fl.map (·.1)) = (X.map txP, u) from by rw [HI.out.2.2.2, replayN_none hone]; simp)
   unfold OneDid at HC
   clear hone
   go_wp2_with fail
   refine HC.out.mono ?_
   rintro e w2 ⟨hk, rfl⟩
   have HK2 := Lib.hid (HK.out.trans hk)
   have HX2 := Lib.hid (HX.out.keeps hk)
   clear hk HC
   go_wp2_with fail
   go_ret2
   rw [HE.out]
   exact ⟨_, X, rfl, HX2.out.keeps ((Keeps.refl _).alloc _), rfl, HK2.out.alloc _⟩
  | some c =>
   rw [hone] at HC
   obtain ⟨hcl, hc1000⟩ := oneK_len hone
   rw [List.length_map] at hcl
   obtain ⟨k', rfl⟩ : ∃ k', gk = k' + 1 := ⟨gk - 1, by omega⟩
   have HI2 := Lib.hid (show replayF (fl.map (·.1)) = (X.map txP ++ ((X.length + 1, (((fs.map (·.1)).drop 1).take c).map (·.pay)) :: (replayN k' (X.length + 1 + 1) ((fs.map (·.1)).drop (c + 2))).1), u + (lenS ((fs.map (·.1)).take (c + 2)) + (replayN k' (X.length + 1 + 1) ((fs.map (·.1)).drop (c + 2))).2)) from by rw [HI.out.2.2.2, replayN_some hone])
   have HB := Lib.hid (show 0 ≤ lenS ((fs.map (·.1)).take (c + 2)) ∧ u + lenS ((fs.map (·.1)).take (c + 2)) + lenS ((fs.map (·.1)).drop (c + 2)) ≤ (l.length : Int) ∧ 0 ≤ lenS ((fs.map (·.1)).drop (c + 2)) from by
    have h1 := lenS_split (fs.map (·.1)) (c + 2)
    have h2 := HI.out.2.1
    refine ⟨lenS_nn (fun f hf => ?_), by omega, lenS_nn (fun f hf => ?_)⟩
    ·obtain ⟨x, hx, rfl⟩ := List.mem_map.1 (List.mem_of_mem_take hf)
     exact HI.out.1 x hx
    ·obtain ⟨x, hx, rfl⟩ := List.mem_map.1 (List.mem_of_mem_drop hf)
     exact HI.out.1 x hx)
   unfold OneDid at HC
   clear hone
   go_wp2_with fail
   refine HC.out.mono ?_
   rintro e w2 ⟨hk, iv, rfl, ho⟩
   have HK2 := Lib.hid (HK.out.trans hk)
   have HX2 := Lib.hid (HX.out.keeps hk)
   have HF2 := Lib.hid (HF.out.keeps hk)
   have HO2 := Lib.hid (show Own w2 w.heap.size 22 iv (((fs.drop 1).take c).map (·.2)) from ho.lower HK.out.size)
   obtain ⟨pi, ni, ci, rfl⟩ := ho.sl
   clear hk ho HC
   have hXn : X.length + c + 2 ≤ N := by have := HI.out.2.2.1; omega
   go_upto_region 5 with fail
   generalize hW : World.alloc w2 _ = w3
   have hk3 : Keeps w2 w3 := by rw [← hW]; exact (Keeps.refl _).alloc _
   have HQ3 := Lib.hid (show Blk w3 w2.heap.size 106 #[.int .i64 ((X.length : Int) + 1), .slice pi ni ci] from by rw [← hW]; exact Blk.new _ _ _ rfl)
   have HK3 := Lib.hid (HK2.out.trans hk3)
   have HX3 := Lib.hid (HX2.out.keeps hk3)
   have HF3 := Lib.hid (HF2.out.keeps hk3)
   have HO3 := Lib.hid (HO2.out.keeps hk3)
   clear hW hk3
   obtain ⟨q, hq⟩ : ∃ q, q = w2.heap.size := ⟨_, rfl⟩
   rw [← hq] at HQ3 ⊢
   clear hq HK2 HX2 HF2 HO2
   have q0 : w3.cell? ⟨q, 0, none⟩ = some (.int .i64 ((X.length : Int) + 1)) := by rw [HQ3.out.cell]; rfl
   have q1 : w3.cell? ⟨q, 1, none⟩ = some (.slice pi ni ci) := by rw [HQ3.out.cell]; rfl
   have hs3 := HK3.out.size
   obtain ⟨its, hits⟩ : ∃ its : List (Value × Item), its = ((fs.drop 1).take c).map (fun x => (x.2, x.1.pay)) := ⟨_, rfl⟩
   have HI1 := Lib.hid (show its.map (·.1) = ((fs.drop 1).take c).map (·.2) from by rw [hits, List.map_map]; rfl)
   have HI3 := Lib.hid (show its.map (·.2) = (((fs.map (·.1)).drop 1).take c).map (·.pay) from by rw [hits, List.map_map, ← List.map_drop, ← List.map_take, List.map_map]; rfl)
   have HIP := Lib.hid (show ∀ (w' : World), Keeps w3 w' → ∀ y ∈ its, Piece w' w.heap.size 5 y.1 (y.2.map u8v) from fun w' k y hy => by
    rw [hits] at hy
    obtain ⟨x, hx, rfl⟩ := List.mem_map.1 hy
    exact (HF3.out.pay x (List.mem_of_mem_drop (List.mem_of_mem_take hx))).keeps k)
   clear hits
   have hXb : X.length ≤ 549755813887 := by omega
   have hcc : c + 2 ≤ cf := by have := HF3.out.form; obtain ⟨_, _, e1, e2, -⟩ := this; simp only [Value.slice.injEq] at e1; omega
   go_upto_region 6 with (at_builtin; go_loud (refine wpList_apps (base := w.heap.size) txok (by decide) rfl _ _ rfl (.slice px X.length cx) (.slice (some ⟨w3.heap.size, 0, none⟩) 1 1) X.length 1 (X.flatMap txC) [.int .i64 ((X.length : Int) + 1), .slice pi ni ci] rfl rfl (ownsRow_keeps HX3.out.own ((Keeps.refl _).alloc _)) (rowS_lit rfl rfl rfl) (by simp [Value.oneCell']) (by omega) (by decide) (by rw [alloc_size]; omega) ?_; intro v5 w5 ho5 hg5 hf5; obtain ⟨p5, c5, rfl, -, -⟩ := ownsRow_form ho5))
   have HX5 := Lib.hid ((HX3.out.keeps ((Keeps.refl _).alloc _)).snoc (x := (X.length + 1, .slice pi ni ci, its)) (by show Own _ _ _ _ (its.map (·.1)); rw [HI1.out]; exact HO3.out.alloc _) (HIP.out _ ((Keeps.refl _).alloc _)) ho5 hg5)
   have HK5 := Lib.hid ((HK3.out.alloc _).grown hg5 (ownsRow_base HX3.out.own))
   have HF5 := Lib.hid (show FrmsR w5 w.heap.size (.slice pf fs.length cf) fs from by
    have hm : Mods (fun x => (Value.slice px X.length cx).ownBlock = some x) w3 w5 := ((Mods.refl _ w3).alloc _).grown hg5 (fun k hk _ => hk)
    exact HF3.out.modsT hm (ownsRow_ty HX3.out.own (by decide)) (ownsRow_ty HX3.out.own (by decide)))
   clear ho5 hg5 hf5 q0 q1
   obtain ⟨ps, hps⟩ := cutS_sl 4 pf 0 (c + 2) cf
   obtain ⟨pn, hpn⟩ := cutS_sl 4 pf (c + 2) fs.length cf
   rw [Nat.sub_zero, Nat.sub_zero] at hps
   have hcut1 : ∀ w', (Instr.slice 141 (.slice pf fs.length cf) none (some (.int .i64 ((c : Int) + 2))) none).run Tryz.prog w' = .ok (.slice ps (c + 2) cf) w' := fun w' => by
    rw [← hps, show ((c : Int) + 2) = ((c + 2 : Nat) : Int) from by omega]
    exact run_cutS_h w' Tryz.underlying141 (by intro w; kernel_rfl) pf fs.length cf (c + 2) hcc
   have hcut2 : ∀ w', (Instr.slice 141 (.slice pf fs.length cf) (some (.int .i64 ((c : Int) + 2))) none none).run Tryz.prog w' = .ok (.slice pn (fs.length - (c + 2)) (cf - (c + 2))) w' := fun w' => by
    rw [← hpn, show ((c : Int) + 2) = ((c + 2 : Nat) : Int) from by omega]
    exact run_cutS_l w' Tryz.underlying141 (by intro w; kernel_rfl) pf fs.length cf (c + 2) hcl
   have HS1 := Lib.hid (show FrmsR w5 w.heap.size (.slice ps (c + 2) cf) (fs.take (c + 2)) from by
    have := HF5.out.cut (lo := 0) (hi := c + 2) (Nat.zero_le _) hcl
    rw [hps] at this
    simpa using this)
   have HS2 := Lib.hid (show FrmsR w5 w.heap.size (.slice pn (fs.length - (c + 2)) (cf - (c + 2))) (fs.drop (c + 2)) from by
    have := HF5.out.cut (lo := c + 2) (hi := fs.length) hcl (Nat.le_refl _)
    rw [hpn] at this
    rw [List.take_of_length_le (by simp)] at this
    exact this)
   have HL1 := Lib.hid (show (fs.take (c + 2)).length = c + 2 from by rw [List.length_take]; omega)
   have HL2 := Lib.hid (show (fs.drop (c + 2)).length = fs.length - (c + 2) from by rw [List.length_drop])
   have HM1 := Lib.hid (show (fs.map (·.1)).take (c + 2) = (fs.take (c + 2)).map (·.1) ∧ (fs.map (·.1)).drop (c + 2) = (fs.drop (c + 2)).map (·.1) from ⟨by rw [List.map_take], by rw [List.map_drop]⟩)
   have HN1 := Lib.hid (show (∀ x ∈ fs.take (c + 2), 0 ≤ x.1.len) ∧ (∀ x ∈ fs.drop (c + 2), 0 ≤ x.1.len) from ⟨fun x hx => HI.out.1 x (List.mem_of_mem_take hx), fun x hx => HI.out.1 x (List.mem_of_mem_drop hx)⟩)
   have hfN := HI.out.2.2.1
   rw [HM1.out.1, HM1.out.2] at HB HI2
   clear hps hpn HF5 HF3 HX3 HK3 HQ3 HI1 HIP HO3 HI HM1
   generalize fs.take (c + 2) = G1 at *
   generalize fs.drop (c + 2) = G2 at *
   have hub := HB.out
   go_wp2_with fail
   go_loopw [3, 39] (fun uv iv wx => ∃ (j : Nat), iv = .int .i64 (j : Int) ∧ j ≤ c + 2 ∧ uv = .int .i64 (u + lenS ((G1.take j).map (·.1))) ∧ Hid (Keeps w5 wx)) (fun _ iv _ => c + 2 - (intOf iv).toNat)
   case atStart => exact ⟨0, rfl, Nat.zero_le _, by simp [lenS], Lib.hid (Keeps.refl _)⟩
   case round =>
    obtain ⟨j, rfl, hj, rfl, HKX⟩ := hrel
    by_cases hlt : j < c + 2
    ·have hjG : j < G1.length := by rw [HL1.out]; exact hlt
     obtain ⟨b2, off2, cap2, hv2, hrg⟩ := (HS1.out.keeps HKX.out).at_ hjG
     rw [HL1.out] at hv2
     simp only [Value.slice.injEq] at hv2
     obtain ⟨rfl, -, rfl⟩ := hv2
     have hgp := HS1.out.pay _ (List.getElem_mem hjG)
     have HSU := Lib.hid (show lenS ((G1.take (j + 1)).map (·.1)) = lenS ((G1.take j).map (·.1)) + G1[j].1.len from by
      rw [List.map_take, List.map_take, lenS_take (by simpa using hjG)]
      simp)
     have hsb : 0 ≤ lenS ((G1.take j).map (·.1)) ∧ 0 ≤ G1[j].1.len ∧ lenS ((G1.take j).map (·.1)) + G1[j].1.len ≤ lenS (G1.map (·.1)) := by
      have h1 := lenS_split (G1.map (·.1)) (j + 1)
      rw [← List.map_take, ← List.map_drop, HSU.out] at h1
      have h2 : 0 ≤ lenS ((G1.drop (j + 1)).map (·.1)) := lenS_nn (fun f hf => by
       obtain ⟨x, hx, rfl⟩ := List.mem_map.1 hf
       exact HN1.out.1 x (List.mem_of_mem_drop hx))
      have h3 : 0 ≤ lenS ((G1.take j).map (·.1)) := lenS_nn (fun f hf => by
       obtain ⟨x, hx, rfl⟩ := List.mem_map.1 hf
       exact HN1.out.1 x (List.mem_of_mem_take hx))
      exact ⟨h3, HN1.out.1 _ (List.getElem_mem hjG), by omega⟩
     have hji : (j : Int) < (c : Int) + 2 := by omega
     have htj : decide ((j : Int) < ((c + 2 : Nat) : Int)) = true := by simp; omega
     generalize G1[j] = z at *
     obtain ⟨h, hv⟩ := z
     obtain ⟨hp, hc3, hhv, -, -⟩ := hgp.form
     simp only [List.length_map] at hhv
     subst hhv
     have HGG := Lib.hid (show wr.rangeAt b2 (off2 + j * 4) [.int .i64 h.at', .int .i64 h.len, .int .i64 h.kind, .slice hp h.pay.length hc3] from hrg)
     simp only at hsb HSU
     clear hgp hrg
     generalize lenS ((G1.take j).map (·.1)) = sj at *
     go_upto_region 9 with (refine wpList_ldR rfl frM HGG.out _ rfl rfl ?_)
     generalize hW : World.alloc wr _ = y1
     have HKy := Lib.hid (show Keeps wr y1 from by rw [← hW]; exact (Keeps.refl _).alloc _)
     have HFy := Lib.hid (show Blk y1 wr.heap.size 147 #[.int .i64 h.at', .int .i64 h.len, .int .i64 h.kind, .slice hp h.pay.length hc3] from by rw [← hW]; exact Blk.new _ _ _ rfl)
     clear hW
     obtain ⟨qq, hqq⟩ : ∃ q, q = wr.heap.size := ⟨_, rfl⟩
     rw [← hqq] at HFy ⊢
     clear hqq HGG
     have q1 : y1.cell? ⟨qq, 1, none⟩ = some (.int .i64 h.len) := by rw [HFy.out.cell]; rfl
     have hws : IntKind.i64.wrap (u + sj + h.len) = u + sj + h.len := by rw [IntKind.wrap_i64]; omega
     go_wp2_with fail
     go_roundw
     case rel => exact ⟨j + 1, by simp, by omega, by rw [HSU.out, Int.add_assoc], Lib.hid (HKX.out.trans HKy.out)⟩
     case measure =>
      simp only [intOf]
      omega
    ·have hjn : j = c + 2 := by omega
     have hlt' : decide ((j : Int) < ((c + 2 : Nat) : Int)) = false := by simp; omega
     have HGT := Lib.hid (show G1.take j = G1 from List.take_of_length_le (by rw [HL1.out, hjn]; exact Nat.le_refl _))
     rw [HGT.out]
     clear hjn hcut1
     go_wp2_with fail
     go_roundg k'
     case rel =>
      refine ⟨X ++ [(X.length + 1, .slice pi ni ci, its)], p5, c5, u + lenS (G1.map (·.1)), G2, pn, cf - (c + 2), by simp, rfl, by rw [HL2.out], by omega, by simp; omega, by rw [HL2.out]; omega, Lib.hid ?_, Lib.hid ?_, Lib.hid (HK5.out.trans HKX.out), Lib.hid ?_⟩
      ·have := HX5.out.keeps HKX.out
       simpa using this
      ·rw [HL2.out]
       exact HS2.out.keeps HKX.out
      ·refine ⟨HN1.out.2, by omega, by rw [HL2.out]; simp; omega, ?_⟩
       rw [HI2.out, ← HI3.out]
       simp [txP, Int.add_assoc]
     case measure => omega
end Txl
end Go.Proofs.YtchjncnolmiejaaGreat

/- pigeonholeref17.Same: two lists of transactions that tell the same. -/
namespace Go.Proofs.YtchjncnolmiejaaGreat
open Go.RowKit
namespace Txl
open Oct Frm
/-- transactions that are read alone -/
structure TxsR (w : World) (v : Value) (X : List TxX) : Prop where
 row : RowS w 2 v X.length (X.flatMap txC)
 its : ∀ x ∈ X, Row w x.2.1 (x.2.2.map (·.1))
 pay : ∀ x ∈ X, ∀ y ∈ x.2.2, Row w y.1 (y.2.map u8v)
section
variable {w w' : World} {base : Nat} {v : Value} {X : List TxX}
theorem TxsAt.r (h : TxsAt w base v X) : TxsR w v X := ⟨rowS_of h.own, fun x hx => (h.its x hx).row, fun x hx y hy => (h.pay x hx y hy).row⟩
theorem TxsR.keeps (h : TxsR w v X) (k : Keeps w w') : TxsR w' v X := ⟨h.row.keeps k, fun x hx => (h.its x hx).keeps k, fun x hx y hy => (h.pay x hx y hy).keeps k⟩
theorem TxsR.form (h : TxsR w v X) : ∃ p cap, v = .slice p X.length cap ∧ X.length ≤ cap ∧ cap ≤ 9223372036854775807 := h.row.form
theorem TxsR.one (h : TxsR w v X) {j : Nat} (hj : j < X.length) : ∃ b off cap, v = .slice (some ⟨b, off, none⟩) X.length cap ∧ w.cell? ⟨b, off + j * 2, none⟩ = some (.int .i64 (X[j].1 : Int)) ∧ w.cell? ⟨b, off + j * 2 + 1, none⟩ = some X[j].2.1 := by
 obtain ⟨b, off, cap, hv, -, -, hc⟩ := RowS.at_ h.row (by omega)
 refine ⟨b, off, cap, hv, ?_, ?_⟩
 ·have := hc.out (j * 2 + 0) _ (by rw [flat_get txC_len X j 0 _ (List.getElem?_eq_getElem hj) (by omega)]; rfl)
  exact this
 ·rw [Nat.add_assoc]
  exact hc.out (j * 2 + 1) _ (by rw [flat_get txC_len X j 1 _ (List.getElem?_eq_getElem hj) (by omega)]; rfl)
end
set_option maxRecDepth 100000 in
set_option maxHeartbeats 4000000 in
theorem same17_any (v1 v2 : Value) (X1 X2 : List TxX) (w : World) (h1 : TxsR w v1 X1) (h2 : TxsR w v2 X2) (he : X1.map txP = X2.map txP) (hn : X1.length ≤ 1099511627776) : Calls Tryz.prog 11 #[v1, v2] w fun e w' => e = .returned (.bool true) ∧ Keeps w w' := by
 have hl : X1.length = X2.length := by have := congrArg List.length he; simpa using this
 obtain ⟨p1, c1, rfl, -, -⟩ := h1.form
 obtain ⟨p2, c2, rfl, -, -⟩ := h2.form
 have H1 := Lib.hid h1
 have H2 := Lib.hid h2
 have HE := Lib.hid (show ∀ j (h1 : j < X1.length) (h2 : j < X2.length), txP X1[j] = txP X2[j] from fun j h1 h2 => by
  have h := congrArg (fun l => l[j]?) he
  simp only [List.getElem?_map, List.getElem?_eq_getElem h1, List.getElem?_eq_getElem h2, Option.map_some, Option.some.injEq] at h
  exact h)
 have HL := Lib.hid hl
 clear h1 h2 he
 rw [← hl]
 clear hl
 go_enter Tryz.func11, Tryz.ntmps11
 go_wp2_with fail
 go_loopw [5] (fun i wr => ∃ j : Nat, i = .int .i64 j ∧ j ≤ X1.length ∧ Hid (Keeps w wr)) (fun i _ => X1.length - (intOf i).toNat)
 case atStart => exact ⟨0, rfl, Nat.zero_le _, Lib.hid (Keeps.refl _)⟩
 case round =>
  obtain ⟨j, rfl, hj, HK⟩ := hrel
  by_cases hlt : j < X1.length
  ·have hlt2 : j < X2.length := by have := HL.out; omega
   obtain ⟨b1, o1, k1, hv1, ha0, ha1⟩ := (H1.out.keeps HK.out).one hlt
   obtain ⟨b2, o2, k2, hv2, hb0, hb1⟩ := (H2.out.keeps HK.out).one hlt2
   simp only [Value.slice.injEq] at hv1
   obtain ⟨rfl, -, rfl⟩ := hv1
   rw [← HL.out] at hv2
   simp only [Value.slice.injEq] at hv2
   obtain ⟨rfl, -, rfl⟩ := hv2
   have hee := HE.out j hlt hlt2
   have HI1 := Lib.hid ((H1.out.its _ (List.getElem_mem hlt)).keeps HK.out)
   have HI2 := Lib.hid ((H2.out.its _ (List.getElem_mem hlt2)).keeps HK.out)
   have HP1 := Lib.hid (fun y hy => (H1.out.pay _ (List.getElem_mem hlt) y hy).keeps HK.out)
   have HP2 := Lib.hid (fun y hy => (H2.out.pay _ (List.getElem_mem hlt2) y hy).keeps HK.out)
   generalize X1[j] = x1 at *
   generalize X2[j] = x2 at *
   obtain ⟨n1, iv1, is1⟩ := x1
   obtain ⟨n2, iv2, is2⟩ := x2
   simp only [txP, Prod.mk.injEq] at hee
   obtain ⟨hen, hei⟩ := hee
   simp only at hen hei ha0 ha1 hb0 hb1 HI1 HI2 HP1 HP2
   subst hen
   have hil : is1.length = is2.length := by have := congrArg List.length hei; simpa using this
   have HEI := Lib.hid (show ∀ i (h1 : i < is1.length) (h2 : i < is2.length), is1[i].2 = is2[i].2 from fun i h1 h2 => by
    have h := congrArg (fun l => l[i]?) hei
    simp only [List.getElem?_map, List.getElem?_eq_getElem h1, List.getElem?_eq_getElem h2, Option.map_some, Option.some.injEq] at h
    exact h)
   obtain ⟨q1, d1, hq1, hg1, hg2⟩ := HI1.out.form
   obtain ⟨q2, d2, hq2, -, -⟩ := HI2.out.form
   rw [List.length_map] at hq1 hq2 hg1
   unfold maxLen at hg2
   rw [← hil] at hq2
   have HIL := Lib.hid hil
   subst hq1 hq2
   have hji : (j : Int) < (X1.length : Int) := by omega
   clear hei hlt2 hil
   go_upto_region 6 with fail
   refine wp_region_noPanic ?_
   refine wp_region_held_drew (S := fun w' => Keeps (wr) w') (by kernel_rfl) ((Keeps.refl _).drew) (fun _ => ?_)
   have hHeld : Keeps (wr) (wr).drew := (Keeps.refl _).drew
   refine tq 0 18 ?_
   refine tq 1 19 ?_
   refine tq 2 20 ?_
   refine tq 3 21 ?_
   refine tq 4 22 ?_ (hy := fun w' hSw => by
    have hSw : Keeps _ w' := hSw
    have hx := keep1 hSw ha0
    clear hSw
    go_simp
    try with_reducible rfl)
   refine tq 5 23 ?_
   refine tq 6 24 ?_
   refine tq 7 25 ?_
   refine tq 8 26 ?_
   refine tq 9 27 ?_ (hy := fun w' hSw => by
    have hSw : Keeps _ w' := hSw
    have hx := keep1 hSw hb0
    clear hSw
    go_simp
    try with_reducible rfl)
   refine tq 10 28 ?_
   refine tq 11 29 ?_
   refine tq 12 30 ?_
   refine tq 13 31 ?_
   refine tq 14 32 ?_
   refine tq 15 33 ?_
   refine tq 16 34 ?_ (hy := fun w' hSw => by
    have hSw : Keeps _ w' := hSw
    have hx := keep1 hSw ha1
    clear hSw
    go_simp
    try with_reducible rfl)
   refine tq 17 35 ?_
   refine tq 18 36 ?_
   refine tq 19 37 ?_
   refine tq 20 38 ?_
   refine tq 21 39 ?_
   refine tq 22 40 ?_ (hy := fun w' hSw => by
    have hSw : Keeps _ w' := hSw
    have hx := keep1 hSw hb1
    clear hSw
    go_simp
    try with_reducible rfl)
   refine tq 23 41 ?_
   refine tq 24 42 ?_
   refine tq 25 43 ?_
   refine wpAnyH_done (by kernel_rfl) ?_ _
   refine NoPanic.normal ?_
   have HKd := Lib.hid (HK.out.trans (Keeps.refl wr).drew)
   have HA1 := Lib.hid (keep1 (Keeps.refl wr).drew ha1)
   have HB1 := Lib.hid (keep1 (Keeps.refl wr).drew hb1)
   have HI1 := Lib.hid (HI1.out.drew)
   have HI2 := Lib.hid (HI2.out.drew)
   have HP1 := Lib.hid (fun y hy => (HP1.out y hy).drew)
   have HP2 := Lib.hid (fun y hy => (HP2.out y hy).drew)
   clear hHeld ha0 hb0 ha1 hb1
   generalize wr.drew = wd at *
   go_wp2_with fail
   go_loopw [6] (fun iv wx => ∃ i : Nat, iv = .int .i64 (i : Int) ∧ i ≤ is1.length ∧ Hid (Keeps wd wx)) (fun iv _ => is1.length - (intOf iv).toNat)
   case atStart => exact ⟨0, rfl, Nat.zero_le _, Lib.hid (Keeps.refl _)⟩
   case round =>
    obtain ⟨i, rfl, hi, HX⟩ := hrel
    have ha1 := keep1 HX.out HA1.out
    have hb1 := keep1 HX.out HB1.out
    by_cases hlti : i < is1.length
    ·have hlti2 : i < is2.length := by have := HIL.out; omega
     obtain ⟨s1, f1, e1, hs1, hc1⟩ := row_cells HI1.out (by rw [List.length_map]; omega)
     obtain ⟨s2, f2, e2, hs2, hc2⟩ := row_cells HI2.out (by rw [List.length_map]; omega)
     rw [List.length_map] at hs1 hs2
     simp only [Value.slice.injEq] at hs1 hs2
     obtain ⟨rfl, -, rfl⟩ := hs1
     obtain ⟨rfl, -, rfl⟩ := hs2
     have hx1 := hc1.out i is1[i].1 (by simp [hlti])
     have hx2 := hc2.out i is2[i].1 (by simp [hlti2])
     have HY1 := Lib.hid (HP1.out _ (List.getElem_mem hlti))
     have HY2 := Lib.hid (HP2.out _ (List.getElem_mem hlti2))
     have hee := HEI.out i hlti hlti2
     rw [hee] at HY1
     have hii : (i : Int) < (is1.length : Int) := by omega
     generalize is1[i] = y1 at *
     generalize is2[i] = y2 at *
     obtain ⟨yv1, yl1⟩ := y1
     obtain ⟨yv2, yl2⟩ := y2
     simp only at hx1 hx2 HY1 HY2
     obtain ⟨t1, u1, hyv1, -, -⟩ := (show Row wd yv1 (yl2.map u8v) from HY1.out).formB
     obtain ⟨t2, u2, hyv2, -, -⟩ := (show Row wd yv2 (yl2.map u8v) from HY2.out).formB
     subst hyv1 hyv2
     have heq : ((bstr yl2).toList == (bstr yl2).toList) = true := by simp
     clear hc1 hc2 hlti2 hee
     go_upto_region 11 with fail
     refine wp_region_noPanic ?_
     refine wp_region_held_drew (S := fun w' => Keeps (wr) w') (by kernel_rfl) ((Keeps.refl _).drew) (fun _ => ?_)
     have hHeld : Keeps (wr) (wr).drew := (Keeps.refl _).drew
     refine tq 0 54 ?_
     refine tq 1 55 ?_
     refine tq 2 56 ?_
     refine tq 3 57 ?_
     refine tq 4 58 ?_ (hy := fun w' hSw => by
      have hSw : Keeps _ w' := hSw
      have hx := keep1 hSw ha1
      clear hSw
      go_simp
      try with_reducible rfl)
     refine tq 5 59 ?_
     refine tq 6 60 ?_
     refine tq 7 61 ?_ (hy := fun w' hSw => by
      have hSw : Keeps _ w' := hSw
      have hx := keep1 (HX.out.trans hSw) hx1
      clear hSw
      go_simp
      try with_reducible rfl)
     refine tq 8 62 ?_ (hy := fun w' hSw => by
      have hSw : Keeps _ w' := hSw
      have hc := str_at' (HY1.out.keeps (HX.out.trans hSw))
      clear hSw
      go_simp
      try with_reducible rfl)
     refine tq 9 63 ?_
     refine tq 10 64 ?_
     refine tq 11 65 ?_
     refine tq 12 66 ?_
     refine tq 13 67 ?_ (hy := fun w' hSw => by
      have hSw : Keeps _ w' := hSw
      have hx := keep1 hSw hb1
      clear hSw
      go_simp
      try with_reducible rfl)
     refine tq 14 68 ?_
     refine tq 15 69 ?_
     refine tq 16 70 ?_ (hy := fun w' hSw => by
      have hSw : Keeps _ w' := hSw
      have hx := keep1 (HX.out.trans hSw) hx2
      clear hSw
      go_simp
      try with_reducible rfl)
     refine tq 17 71 ?_ (hy := fun w' hSw => by
      have hSw : Keeps _ w' := hSw
      have hc := str_at' (HY2.out.keeps (HX.out.trans hSw))
      clear hSw
      go_simp
      try with_reducible rfl)
     refine tq 18 72 ?_
     refine wpAnyH_done (by kernel_rfl) ?_ _
     refine NoPanic.normal ?_
     go_wp2_with fail
     go_roundw
     case rel => exact ⟨i + 1, by simp, by omega, Lib.hid (HX.out.trans (Keeps.refl wr).drew)⟩
     case measure =>
      simp only [intOf]
      omega
    ·have hti : decide ((i : Int) < (is1.length : Int)) = false := by simp; omega
     go_wp2_with fail
     go_roundw
     case rel => exact ⟨j + 1, by simp, by omega, Lib.hid (HKd.out.trans HX.out)⟩
     case measure =>
      simp only [intOf]
      omega
  ·go_wp2_with fail
   go_ret
   exact ⟨rfl, HK.out⟩
end Txl
end Go.Proofs.YtchjncnolmiejaaGreat

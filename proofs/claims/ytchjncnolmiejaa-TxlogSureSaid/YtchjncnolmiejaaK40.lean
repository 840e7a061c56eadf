/- Several texts in one: TxOne, TxRepPlain, TxCutPlain. -/
import Derived.Test.YtchjncnolmiejaaK39
import Derived.Test.YtchjncnolmiejaaK30
import Derived.Test.YtchjncnolmiejaaMid
import Derived.Test.YtchjncnolmiejaaFrameSame
import Derived.Test.YtchjncnolmiejaaK38
/- txlog.one. -/
namespace Go.Proofs.Ytchjncnolmiejaa
open Go.RowKit
namespace Txl
open Oct Frm
theorem frM : Mids Try.prog 139 4 := ⟨⟨_, Try.underlying139, rfl⟩, by kernel_rfl⟩
theorem txM : Mids Try.prog 75 2 := ⟨⟨_, Try.underlying75, rfl⟩, by kernel_rfl⟩
theorem payok : ElemOk Try.prog 62 22 24 := elemOk (z := .slice none 0 0) Try.underlying62 (by kernel_rfl) rfl
/-- a row of frames that is read alone -/
structure FrmsR (w : World) (base : Nat) (v : Value) (l : List (Fr1 × Value)) : Prop where
  row : RowS w 4 v l.length (l.flatMap frC)
  pay : ∀ x ∈ l, Piece w base 5 x.2 (x.1.pay.map u8v)
  len : ∀ x ∈ l, x.1.pay.length ≤ 35184372088832
  ty : ∀ b off n cap, v = .slice (some ⟨b, off, none⟩) n cap → 0 < n → ∃ cs fr, w.heap[b]? = some (.cells cs 139 fr)
section
variable {w w' : World} {base : Nat} {v : Value} {l : List (Fr1 × Value)}
theorem FrmsR.keeps (h : FrmsR w base v l) (k : Keeps w w') : FrmsR w' base v l := ⟨h.row.keeps k, fun x hx => (h.pay x hx).keeps k, h.len, fun b off n cap hv hn => by
  obtain ⟨cs, fr, hh⟩ := h.ty b off n cap hv hn
  exact ⟨cs, fr, by rw [k.block (Array.getElem?_eq_some_iff.1 hh).1]; exact hh⟩⟩
theorem FrmsR.form (h : FrmsR w base v l) : ∃ p cap, v = .slice p l.length cap ∧ l.length ≤ cap ∧ cap ≤ 9223372036854775807 := h.row.form
theorem FrmsR.at_ (h : FrmsR w base v l) {j : Nat} (hj : j < l.length) : ∃ b off cap, v = .slice (some ⟨b, off, none⟩) l.length cap ∧ w.rangeAt b (off + j * 4) (frC l[j]) := by
  obtain ⟨b, off, cap, hv, -, -, hc⟩ := RowS.at_ h.row (by omega)
  refine ⟨b, off, cap, hv, fun i x hx => ?_⟩
  have hi : i < 4 := by
    have := (List.getElem?_eq_some_iff.1 hx).1
    simpa [frC] using this
  rw [Nat.add_assoc]
  refine hc.out (j * 4 + i) x ?_
  rw [flat_get frC_len l j i _ (List.getElem?_eq_getElem hj) hi]
  exact hx
theorem FrmsR.cut {p : Option Addr} {cap : Nat} (h : FrmsR w base (.slice p l.length cap) l) {lo hi : Nat} (h1 : lo ≤ hi) (h2 : hi ≤ l.length) : FrmsR w base (cutS 4 p lo hi cap) ((l.drop lo).take (hi - lo)) := by
  have hp := RowS.part frC_len h.row h1 h2
  refine ⟨?_, fun x hx => h.pay x (List.mem_of_mem_drop (List.mem_of_mem_take hx)), fun x hx => h.len x (List.mem_of_mem_drop (List.mem_of_mem_take hx)), fun b off n c hv hn => ?_⟩
  · have e : ((l.drop lo).take (hi - lo)).length = hi - lo := by rw [List.length_take, List.length_drop]; omega
    rw [e]
    exact hp
  · unfold cutS at hv
    simp only [Value.slice.injEq] at hv
    obtain ⟨h3, h4, -⟩ := hv
    have hl : 0 < l.length := by omega
    cases p with
    | none => split at h3 <;> simp at h3
    | some a =>
      obtain ⟨b0, o0, s0⟩ := a
      obtain ⟨b1, o1, c1, hv1, -⟩ := RowS.at_ h.row hl
      simp only [Value.slice.injEq, Option.some.injEq, Addr.mk.injEq] at hv1
      obtain ⟨⟨rfl, rfl, rfl⟩, -, -⟩ := hv1
      have hb : b0 = b := by
        split at h3
        · simp only [Option.some.injEq, Addr.mk.injEq] at h3; exact h3.1
        · simp only [Option.map_some, Option.some.injEq, Go.WideShapes.add_plain, Addr.mk.injEq] at h3; exact h3.1
      subst hb
      exact h.ty b0 o0 l.length cap rfl hl
theorem FrmsR.modsT {S : Nat → Prop} (h : FrmsR w base v l) (k : Mods S w w') (h1 : ∀ x, S x → ∀ cs fr, w.heap[x]? ≠ some (.cells cs 139 fr)) (h2 : ∀ x, S x → ∀ cs fr, w.heap[x]? ≠ some (.cells cs 5 fr)) : FrmsR w' base v l := by
  have hn : ∀ b off n cap, v = .slice (some ⟨b, off, none⟩) n cap → 0 < n → ¬ S b := fun b off n cap hv hp hs => by
    obtain ⟨cs, fr, hh⟩ := h.ty b off n cap hv hp
    exact h1 b hs cs fr hh
  refine ⟨⟨h.row.1, ?_⟩, fun x hx => (h.pay x hx).modsT k h2, h.len, fun b off n cap hv hp => ?_⟩
  · rcases h.row.2 with h3 | ⟨b, off, cap, hv, g1, g2, g3⟩
    · exact .inl h3
    · by_cases hz : l.length = 0
      · have : l = [] := List.eq_nil_of_length_eq_zero hz
        subst this
        exact .inr ⟨b, off, cap, hv, g1, g2, fun i x hx => by simp at hx⟩
      · exact .inr ⟨b, off, cap, hv, g1, g2, fun i x hx => k.cell (g3 i x hx) (hn b off _ cap hv (by omega))⟩
  · obtain ⟨cs, fr, hh⟩ := h.ty b off n cap hv hp
    exact ⟨cs, fr, k.heap hh (hn b off n cap hv hp)⟩
end
def itemB (f : Fr1) : Bool := decide (f.kind = 33) && decide (f.pay.length ≤ 4096)
/-- how many items the transaction n has that the frames begin with; none: they begin with none -/
def oneK (n : Nat) (fs : List Fr1) : Option Nat := match fs with
  | [] => none
  | f :: r => if beginB n f = true ∧ cntP f.pay < r.length ∧ commitB n (r.getD (cntP f.pay) ⟨0, 0, 0, []⟩) = true ∧ (r.take (cntP f.pay)).all itemB = true then some (cntP f.pay) else none
def txZero : Array Value := #[.int .i64 0, .slice none 0 0]
def OneDid (W : World) (n : Nat) (fs : List (Fr1 × Value)) (r : Option Nat) (e : Ending) (w' : World) : Prop := Keeps W w' ∧ match r with
  | none => e = .returned (.tuple #[.agg #[.int .i64 0, .slice none 0 0], .int .i64 0, .bool false])
  | some c => ∃ iv, e = .returned (.tuple #[.agg #[.int .i64 (n : Int), iv], .int .i64 ((c : Int) + 2), .bool true]) ∧ Own w' W.heap.size 22 iv (((fs.drop 1).take c).map (·.2))
theorem oneDid_none {W w' : World} {n : Nat} {fs : List (Fr1 × Value)} {r : Option Nat} (hr : r = none) (hK : Keeps W w') : OneDid W n fs r (.returned (.tuple #[.agg #[.int .i64 0, .slice none 0 0], .int .i64 0, .bool false])) w' := by
  subst hr
  exact ⟨hK, rfl⟩
theorem oneDid_some {W w' : World} {n c : Nat} {fs : List (Fr1 × Value)} {r : Option Nat} (hr : r = some c) (hK : Keeps W w') {iv : Value} (ho : Own w' W.heap.size 22 iv (((fs.drop 1).take c).map (·.2))) : OneDid W n fs r (.returned (.tuple #[.agg #[.int .i64 (n : Int), iv], .int .i64 ((c : Int) + 2), .bool true])) w' := by
  subst hr
  exact ⟨hK, iv, rfl, ho⟩
theorem oneK_cons (n : Nat) (f : Fr1) (r : List Fr1) : oneK n (f :: r) = if beginB n f = true ∧ cntP f.pay < r.length ∧ commitB n (r.getD (cntP f.pay) ⟨0, 0, 0, []⟩) = true ∧ (r.take (cntP f.pay)).all itemB = true then some (cntP f.pay) else none := rfl
theorem beginB_cnt {n : Nat} {f : Fr1} (h : beginB n f = true) : cntP f.pay ≤ 1000 := by
  unfold beginB at h
  simp at h
  exact h.2
set_option maxRecDepth 100000 in
set_option maxHeartbeats 4000000 in
theorem one_any (n : Nat) (hn : n < 9223372036854775808) (fs : List (Fr1 × Value)) (v : Value) (base : Nat) (w : World) (h : FrmsR w base v fs) (hbase : fs.length ≤ 1099511627776) : Calls Try.prog 101 #[v, .int .i64 (n : Int)] w (OneDid w n fs (oneK n (fs.map (·.1)))) := by
  obtain ⟨p, cap, rfl, hc1, hc2⟩ := h.form
  have HR := Lib.hid h
  clear h
  cases fs with
  | nil =>
    show Calls _ _ _ _ (OneDid w n [] none)
    unfold OneDid
    have hl0 : ([] : List (Fr1 × Value)).length = 0 := rfl
    rw [hl0]
    go_enter Try.func101, Try.ntmps101
    go_wp2_with fail
    exact bodyPost_ret (v := .tuple #[.agg #[.int .i64 0, .slice none 0 0], .int .i64 0, .bool false]) (by simp [results, Try.results101, go_sem]) rfl ⟨by repeat (first | exact Keeps.refl _ | refine Keeps.alloc ?_ _ | refine Keeps.setCell ?_ (by simp) _), rfl⟩
  | cons x r =>
    have hpos : 0 < (x :: r).length := by simp
    obtain ⟨b, off, cap', hv, hrg⟩ := HR.out.at_ hpos
    simp only [Value.slice.injEq] at hv
    obtain ⟨rfl, -, rfl⟩ := hv
    obtain ⟨f, pv⟩ := x
    have hpc := HR.out.pay _ (List.mem_cons_self ..)
    have hlp := HR.out.len _ (List.mem_cons_self ..)
    have HRW := Lib.hid (show Row w pv (f.pay.map u8v) from hpc.row)
    obtain ⟨pp, pc, hpv, -, -⟩ := hpc.form
    simp only [List.length_map] at hpv
    subst hpv
    have HRG := Lib.hid (show w.rangeAt b (off + 0 * 4) [.int .i64 f.at', .int .i64 f.len, .int .i64 f.kind, .slice pp f.pay.length pc] from hrg)
    have HLP := Lib.hid hlp
    have HX0 := Lib.hid (show oneK n (((f, Value.slice pp f.pay.length pc) :: r).map (·.1)) = if beginB n f = true ∧ cntP f.pay < (r.map (·.1)).length ∧ commitB n ((r.map (·.1)).getD (cntP f.pay) ⟨0, 0, 0, []⟩) = true ∧ ((r.map (·.1)).take (cntP f.pay)).all itemB = true then some (cntP f.pay) else none from rfl)
    obtain ⟨L, hL⟩ : ∃ L, L = ((f, Value.slice pp f.pay.length pc) :: r).length := ⟨_, rfl⟩
    have hLr : L = r.length + 1 := by rw [hL]; rfl
    have HLR := Lib.hid hLr
    have HLL := Lib.hid hL
    rw [← hL] at hc1 hbase ⊢
    have hL1 : 0 < L := by omega
    have hL1i : (0 : Int) < (L : Int) := by omega
    generalize oneK n (((f, Value.slice pp f.pay.length pc) :: r).map (·.1)) = res at *
    clear hpc hrg hlp hpos hL hLr
    go_enter Try.func101, Try.ntmps101
    go_upto_region 1 with fail
    generalize hW : World.alloc w _ = w1
    have HK1 := Lib.hid (show Keeps w w1 from by rw [← hW]; exact (Keeps.refl _).alloc _)
    have HR1 := Lib.hid (show Blk w1 w.heap.size 75 txZero from by rw [← hW]; exact Blk.new _ _ _ rfl)
    clear hW
    obtain ⟨R, hq⟩ : ∃ q, q = w.heap.size := ⟨_, rfl⟩
    rw [← hq] at HR1 ⊢
    have HRe := Lib.hid hq
    clear hq
    have HB := Lib.hid (begin_any n hn f (.slice pp f.pay.length pc) w1 (HRW.out.keeps HK1.out) HLP.out)
    unfold BeginDid at HB
    have HG1 := Lib.hid (show w1.rangeAt b (off + 0 * 4) [.int .i64 f.at', .int .i64 f.len, .int .i64 f.kind, .slice pp f.pay.length pc] from fun i x hx => by
      have := HRG.out i x hx
      rw [HK1.out.cell (p := ⟨b, off + 0 * 4 + i, none⟩) (lt_of_cell this)]
      exact this)
    rw [Nat.zero_mul, Nat.add_zero] at HG1
    go_wp2_with (refine wpList_ldR rfl frM HG1.out _ rfl rfl ?_)
    refine HB.out.mono ?_
    rintro e w2 ⟨rfl, hk2⟩
    have HK2 := Lib.hid (HK1.out.trans hk2)
    have HR2 := Lib.hid (HR1.out.keeps hk2)
    have HCB := Lib.hid (beginB_cnt (n := n) (f := f))
    clear hk2 HB
    cases hbb : beginB n f with
    | false =>
      have HN := Lib.hid (HX0.out.trans (if_neg (by rw [hbb]; simp)))
      clear hbb
      have r0 : w2.cell? ⟨R, 0, none⟩ = some (.int .i64 0) := by rw [HR2.out.cell]; rfl
      have r1 : w2.cell? ⟨R, 1, none⟩ = some (.slice none 0 0) := by rw [HR2.out.cell]; rfl
      have z0 : w2.frozen? ⟨R, 0, none⟩ = false := HR2.out.frozen _
      have z1 : w2.frozen? ⟨R, 1, none⟩ = false := HR2.out.frozen _
      go_wp2_with fail
      exact bodyPost_ret (v := .tuple #[.agg #[.int .i64 0, .slice none 0 0], .int .i64 0, .bool false]) (by simp [results, Try.results101, go_sem, r0, r1]) rfl (oneDid_none HN.out ((HK2.out.setCell (by have := HRe.out; show _ ≤ R; omega) _).setCell (by have := HRe.out; show _ ≤ R; omega) _))
    | true =>
      have hc := HCB.out hbb
      have HBB := Lib.hid hbb
      clear hbb
      have HX1 := Lib.hid (show res = if cntP f.pay < (r.map (·.1)).length ∧ commitB n ((r.map (·.1)).getD (cntP f.pay) ⟨0, 0, 0, []⟩) = true ∧ ((r.map (·.1)).take (cntP f.pay)).all itemB = true then some (cntP f.pay) else none from by rw [HX0.out, HBB.out]; simp)
      generalize cntP f.pay = c at *
      clear HX0 HCB HBB
      have hw1 : IntKind.i64.wrap ((c : Int) + 2) = (c : Int) + 2 := by rw [IntKind.wrap_i64]; omega
      have hw2 : IntKind.i64.wrap ((c : Int) + 1) = (c : Int) + 1 := by rw [IntKind.wrap_i64]; omega
      by_cases hl2 : L < c + 2
      · have HN := Lib.hid (HX1.out.trans (if_neg (fun hh => by have h1 := hh.1; rw [List.length_map] at h1; have := HLR.out; omega)))
        have hl2i : (L : Int) < (c : Int) + 2 := by omega
        have r0 : w2.cell? ⟨R, 0, none⟩ = some (.int .i64 0) := by rw [HR2.out.cell]; rfl
        have r1 : w2.cell? ⟨R, 1, none⟩ = some (.slice none 0 0) := by rw [HR2.out.cell]; rfl
        have z0 : w2.frozen? ⟨R, 0, none⟩ = false := HR2.out.frozen _
        have z1 : w2.frozen? ⟨R, 1, none⟩ = false := HR2.out.frozen _
        go_wp2_with fail
        exact bodyPost_ret (v := .tuple #[.agg #[.int .i64 0, .slice none 0 0], .int .i64 0, .bool false]) (by simp [results, Try.results101, go_sem, r0, r1]) rfl (oneDid_none HN.out ((HK2.out.setCell (by have := HRe.out; show _ ≤ R; omega) _).setCell (by have := HRe.out; show _ ≤ R; omega) _))
      have hcr : c < r.length := by have := HLR.out; omega
      have hl2i : ¬ (L : Int) < (c : Int) + 2 := by omega
      have ht2 : decide ((L : Int) < (c : Int) + 2) = false := by simp; omega
      have hci : (c : Int) + 1 < (L : Int) := by omega
      obtain ⟨b', off', cap', hv, hrg⟩ := HR.out.at_ (j := c + 1) (by simp; omega)
      simp only [Value.slice.injEq, Option.some.injEq, Addr.mk.injEq] at hv
      obtain ⟨⟨rfl, rfl, -⟩, -, rfl⟩ := hv
      have hx1 : ((f, Value.slice pp f.pay.length pc) :: r)[c + 1]'(by simp; omega) = r[c] := List.getElem_cons_succ ..
      rw [hx1] at hrg
      have hgp := HR.out.pay _ (List.mem_cons_of_mem _ (List.getElem_mem hcr))
      have HGL := Lib.hid (HR.out.len _ (List.mem_cons_of_mem _ (List.getElem_mem hcr)))
      have HGD := Lib.hid (show (r.map (·.1)).getD c ⟨0, 0, 0, []⟩ = r[c].1 from by rw [List.getD_eq_getElem?_getD, List.getElem?_map, List.getElem?_eq_getElem hcr]; rfl)
      generalize r[c] = y at *
      obtain ⟨g, gv⟩ := y
      obtain ⟨gp, gc, hgv, -, -⟩ := hgp.form
      simp only [List.length_map] at hgv
      subst hgv
      have HGW := Lib.hid (show Row w (.slice gp g.pay.length gc) (g.pay.map u8v) from hgp.row)
      have HGG := Lib.hid (show w2.rangeAt b (off + (c + 1) * 4) [.int .i64 g.at', .int .i64 g.len, .int .i64 g.kind, .slice gp g.pay.length gc] from fun i x hx => by
        have := hrg i x hx
        rw [HK2.out.cell (p := ⟨b, off + (c + 1) * 4 + i, none⟩) (lt_of_cell this)]
        exact this)
      have HCM := Lib.hid (commit_any n hn g (.slice gp g.pay.length gc) w2 (HGW.out.keeps HK2.out) HGL.out)
      unfold CommitDid at HCM
      have g0 := HGG.out 0 _ rfl
      have g1 := HGG.out 1 _ rfl
      have g2 := HGG.out 2 _ rfl
      have g3 := HGG.out 3 _ rfl
      rw [Nat.add_zero] at g0
      clear hrg hgp hx1
      have HX2 := Lib.hid (show res = if commitB n g = true ∧ ((r.map (·.1)).take c).all itemB = true then some c else none from by
        rw [HX1.out, HGD.out]
        simp [hcr])
      cases hcm : commitB n g with
      | false =>
        rw [hcm] at HCM
        have HN := Lib.hid (HX2.out.trans (if_neg (by rw [hcm]; simp)))
        clear hcm
        go_wp2_with fail
        refine HCM.out.mono ?_
        rintro e w3 ⟨rfl, hk3⟩
        have HK3 := Lib.hid (HK2.out.trans hk3)
        have HR3 := Lib.hid (HR2.out.keeps hk3)
        clear hk3 HCM g0 g1 g2 g3
        have r0 : w3.cell? ⟨R, 0, none⟩ = some (.int .i64 0) := by rw [HR3.out.cell]; rfl
        have r1 : w3.cell? ⟨R, 1, none⟩ = some (.slice none 0 0) := by rw [HR3.out.cell]; rfl
        have z0 : w3.frozen? ⟨R, 0, none⟩ = false := HR3.out.frozen _
        have z1 : w3.frozen? ⟨R, 1, none⟩ = false := HR3.out.frozen _
        go_wp2_with fail
        exact bodyPost_ret (v := .tuple #[.agg #[.int .i64 0, .slice none 0 0], .int .i64 0, .bool false]) (by simp [results, Try.results101, go_sem, r0, r1]) rfl (oneDid_none HN.out ((HK3.out.setCell (by have := HRe.out; show _ ≤ R; omega) _).setCell (by have := HRe.out; show _ ≤ R; omega) _))
      | true =>
        rw [hcm] at HCM
        have HX3 := Lib.hid (show res = if ((r.map (·.1)).take c).all itemB = true then some c else none from by rw [HX2.out, hcm]; simp)
        clear hcm
        go_wp2_with fail
        refine HCM.out.mono ?_
        rintro e w3 ⟨rfl, hk3⟩
        have HK3 := Lib.hid (HK2.out.trans hk3)
        have HR3 := Lib.hid (HR2.out.keeps hk3)
        clear hk3 HCM g0 g1 g2 g3
        go_upto_region 7 with fail
        generalize hW : World.alloc w3 _ = w4
        have HK4 := Lib.hid (show Keeps w3 w4 from by rw [← hW]; exact (Keeps.refl _).alloc _)
        have HT4 := Lib.hid (show Blk w4 w3.heap.size 75 #[.int .i64 (n : Int), .slice none 0 0] from by rw [← hW]; exact Blk.new _ _ _ rfl)
        clear hW
        have HR4 := Lib.hid (HR3.out.keeps HK4.out)
        have HTR := Lib.hid (show R < w3.heap.size from HR3.out.lt)
        have HTW := Lib.hid (show w.heap.size ≤ w3.heap.size from HK3.out.size)
        obtain ⟨T, hq⟩ : ∃ q, q = w3.heap.size := ⟨_, rfl⟩
        rw [← hq] at HT4 HTR HTW ⊢
        clear hq
        have HK4w := Lib.hid (HK3.out.trans HK4.out)
        have hcL : c + 1 ≤ cap := by omega
        obtain ⟨ps, hps⟩ := cutS_sl 4 (some ⟨b, off, none⟩) 1 (c + 1) cap
        rw [Nat.add_sub_cancel] at hps
        have hcut : ∀ w', (Instr.slice 135 (.slice (some ⟨b, off, none⟩) L cap) (some (.int .i64 1)) (some (.int .i64 ((c : Int) + 1))) none).run Try.prog w' = .ok (.slice ps c (cap - 1)) w' := fun w' => by
          rw [← hps, show ((c : Int) + 1) = ((c + 1 : Nat) : Int) from by omega]
          exact run_cutS_lh w' Try.underlying135 (by intro w; kernel_rfl) (some ⟨b, off, none⟩) L cap 1 (c + 1) (by omega) hcL
        have HSUB := Lib.hid (show FrmsR w base (.slice ps c (cap - 1)) (r.take c) from by
          have := HR.out.cut (lo := 1) (hi := c + 1) (by omega) (by simp; omega)
          rw [Nat.add_sub_cancel, hps] at this
          exact this)
        have HTL := Lib.hid (show (r.take c).length = c from by rw [List.length_take]; omega)
        have HX3 := Lib.hid (show res = if (r.take c).all (fun x => itemB x.1) = true then some c else none from by
          rw [HX3.out, ← List.map_take, List.all_map]
          rfl)
        have HRT := Lib.hid (show (((f, Value.slice pp f.pay.length pc) :: r).drop 1).take c = r.take c from rfl)
        clear hps HR HRG HG1 HGG HGW HX1 HX2 HGD HRW hw2
        generalize r.take c = G at *
        go_upto_region 8 with fail
        go_wp2_with fail
        go_loopw [50] (fun iv wr => ∃ (j : Nat) (po : Option Addr) (co : Nat), iv = .int .i64 (j : Int) ∧ j ≤ c ∧ Hid (Blk wr T 75 #[.int .i64 (n : Int), .slice po j co]) ∧ Hid (Own wr w.heap.size 22 (.slice po j co) ((G.take j).map (·.2))) ∧ Hid (Blk wr R 75 txZero) ∧ Hid (Keeps w wr) ∧ Hid (∀ x ∈ G.take j, itemB x.1 = true)) (fun iv _ => c - (intOf iv).toNat)
        case atStart => exact ⟨0, none, 0, rfl, Nat.zero_le _, HT4, Lib.hid (by simpa using Own.nil _ _ _), HR4, HK4w, Lib.hid (by simp)⟩
        case round =>
          clear HT4 HR4 HK4w HK4 HK3 HR3 HK2 HR2 HK1 HR1
          obtain ⟨j, po, co, rfl, hj, HT, HO, HRr, HK, HI⟩ := hrel
          by_cases hlt : j < c
          · have hjG : j < G.length := by rw [HTL.out]; exact hlt
            obtain ⟨b2, off2, cap2, hv2, hrg⟩ := (HSUB.out.keeps HK.out).at_ hjG
            rw [HTL.out] at hv2
            simp only [Value.slice.injEq] at hv2
            obtain ⟨rfl, -, rfl⟩ := hv2
            have hgp := HSUB.out.pay _ (List.getElem_mem hjG)
            have HTJ := Lib.hid (show G.take (j + 1) = G.take j ++ [G[j]] from List.take_succ_eq_append_getElem hjG)
            have HMJ := Lib.hid (List.getElem_mem hjG)
            have hji : (j : Int) < (c : Int) := by omega
            generalize G[j] = z at *
            obtain ⟨h, hv⟩ := z
            obtain ⟨hp, hc3, hhv, -, -⟩ := hgp.form
            simp only [List.length_map] at hhv
            subst hhv
            have HGG := Lib.hid (show wr.rangeAt b2 (off2 + j * 4) [.int .i64 h.at', .int .i64 h.len, .int .i64 h.kind, .slice hp h.pay.length hc3] from hrg)
            clear hgp hrg
            go_upto_region 10 with (refine wpList_ldR rfl frM HGG.out _ rfl rfl ?_)
            generalize hW : World.alloc wr _ = y1
            have HKy := Lib.hid (show Keeps wr y1 from by rw [← hW]; exact (Keeps.refl _).alloc _)
            have HFy := Lib.hid (show Blk y1 wr.heap.size 139 #[.int .i64 h.at', .int .i64 h.len, .int .i64 h.kind, .slice hp h.pay.length hc3] from by rw [← hW]; exact Blk.new _ _ _ rfl)
            clear hW
            have HTy := Lib.hid (HT.out.keeps HKy.out)
            have HRy := Lib.hid (HRr.out.keeps HKy.out)
            have HOy := Lib.hid (HO.out.keeps HKy.out)
            have HKW := Lib.hid (HK.out.trans HKy.out)
            have HQW := Lib.hid (show w.heap.size ≤ wr.heap.size from HK.out.size)
            have HQT := Lib.hid (show T < wr.heap.size from HT.out.lt)
            obtain ⟨q, hq⟩ : ∃ q, q = wr.heap.size := ⟨_, rfl⟩
            rw [← hq] at HFy HQW HQT ⊢
            clear hq HGG
            have q2 : y1.cell? ⟨q, 2, none⟩ = some (.int .i64 h.kind) := by rw [HFy.out.cell]; rfl
            have q3 : y1.cell? ⟨q, 3, none⟩ = some (.slice hp h.pay.length hc3) := by rw [HFy.out.cell]; rfl
            by_cases hk : h.kind = 33
            · have e1 : (h.kind != 33) = false := by simp [hk]
              have e1' : (h.kind == 33) = true := by simp [hk]
              by_cases hbig : 4096 < h.pay.length
              · have HN := Lib.hid (HX3.out.trans (if_neg (fun hh => by
                  have := List.all_eq_true.1 hh _ HMJ.out
                  simp [itemB] at this
                  omega)))
                clear hk
                have r0 : y1.cell? ⟨R, 0, none⟩ = some (.int .i64 0) := by rw [HRy.out.cell]; rfl
                have r1 : y1.cell? ⟨R, 1, none⟩ = some (.slice none 0 0) := by rw [HRy.out.cell]; rfl
                have z0 : y1.frozen? ⟨R, 0, none⟩ = false := HRy.out.frozen _
                have z1 : y1.frozen? ⟨R, 1, none⟩ = false := HRy.out.frozen _
                go_wp2_with fail
                exact bodyPost_ret (v := .tuple #[.agg #[.int .i64 0, .slice none 0 0], .int .i64 0, .bool false]) (by simp [results, Try.results101, go_sem, r0, r1]) rfl (oneDid_none HN.out ((HKW.out.setCell (by have := HRe.out; show _ ≤ R; omega) _).setCell (by have := HRe.out; show _ ≤ R; omega) _))
              · have HIZ := Lib.hid (show itemB h = true from by simp [itemB, hk]; omega)
                clear hk
                have t1 : y1.cell? ⟨T, 1, none⟩ = some (.slice po j co) := by rw [HTy.out.cell]; rfl
                have hsz := HKW.out.size
                go_upto_region 12 with fail
                go_wp2_with (at_builtin; go_loud (refine wpList_app1 (base := w.heap.size) payok rfl _ _ rfl (.slice po j co) (.slice (some ⟨y1.heap.size, 0, none⟩) 1 1) ((G.take j).map (·.2)) [.slice hp h.pay.length hc3] rfl rfl (HOy.out.alloc _) (row_alloc rfl rfl rfl (by unfold maxLen; simp)) (by simp [Value.oneCell']) (by rw [List.length_map, List.length_take]; simp; omega) (by decide) (by rw [Frm.alloc_size]; omega) ?_; intro v4 y4 ho4 hg4 hf4; have hl4 : ((G.take j).map (·.2) ++ [Value.slice hp h.pay.length hc3]).length = j + 1 := by { simp; omega }; obtain ⟨p4, c4, hv4, -, -⟩ := Frm.ownsRow_form ho4; rw [hl4] at hv4; subst hv4; have HO4 := Lib.hid ho4; have HNT := Lib.hid (show (Value.slice po j co).ownBlock ≠ some T from HOy.out.blk_ne HTy.out (by decide)); have HNR := Lib.hid (show (Value.slice po j co).ownBlock ≠ some R from HOy.out.blk_ne HRy.out (by decide)); have HT4 := Lib.hid ((HTy.out.alloc _).grown hg4 HNT.out); have HR4 := Lib.hid ((HRy.out.alloc _).grown hg4 HNR.out); have HK4 := Lib.hid ((HKW.out.alloc _).grown hg4 (fun k hk => HOy.out.base k hk)); have t4 : y4.cell? ⟨T, 1, none⟩ = some (.slice po j co) := by { rw [HT4.out.cell]; rfl }; have zt4 : y4.frozen? ⟨T, 1, none⟩ = false := HT4.out.frozen _; clear ho4 hg4 hf4))
                have HO4T := Lib.hid (show (Value.slice p4 (j + 1) c4).ownBlock ≠ some T from HO4.out.blk_ne HT4.out (by decide))
                go_roundw
                case rel =>
                  refine ⟨j + 1, p4, c4, by simp, by omega, Lib.hid (HT4.out.set_ 1 _), Lib.hid ?_, Lib.hid (HR4.out.far (by have := HTR.out; show R ≠ T; omega) _), Lib.hid (HK4.out.setCell (by have := HTW.out; show _ ≤ T; omega) _), Lib.hid ?_⟩
                  · have := HO4.out.setCell (a := ⟨T, 1, none⟩) (.slice p4 (j + 1) c4) HO4T.out
                    rw [HTJ.out, List.map_append]
                    exact this
                  · rw [HTJ.out]
                    intro x hx
                    rcases List.mem_append.1 hx with hx | hx
                    · exact HI.out x hx
                    · simp at hx; subst hx; exact HIZ.out
                case measure =>
                  simp only [intOf]
                  omega
            · have e1 : (h.kind != 33) = true := by simp [hk]
              have e1' : (h.kind == 33) = false := by simp [hk]
              have HN := Lib.hid (HX3.out.trans (if_neg (fun hh => by
                have := List.all_eq_true.1 hh _ HMJ.out
                simp [itemB] at this
                omega)))
              clear hk
              have r0 : y1.cell? ⟨R, 0, none⟩ = some (.int .i64 0) := by rw [HRy.out.cell]; rfl
              have r1 : y1.cell? ⟨R, 1, none⟩ = some (.slice none 0 0) := by rw [HRy.out.cell]; rfl
              have z0 : y1.frozen? ⟨R, 0, none⟩ = false := HRy.out.frozen _
              have z1 : y1.frozen? ⟨R, 1, none⟩ = false := HRy.out.frozen _
              go_wp2_with fail
              exact bodyPost_ret (v := .tuple #[.agg #[.int .i64 0, .slice none 0 0], .int .i64 0, .bool false]) (by simp [results, Try.results101, go_sem, r0, r1]) rfl (oneDid_none HN.out ((HKW.out.setCell (by have := HRe.out; show _ ≤ R; omega) _).setCell (by have := HRe.out; show _ ≤ R; omega) _))
          · have hjc : j = c := by omega
            have HGT := Lib.hid (show G.take j = G from List.take_of_length_le (by rw [HTL.out, hjc]; exact Nat.le_refl _))
            have HRES := Lib.hid (HX3.out.trans (if_pos (List.all_eq_true.2 (fun x hx => HI.out x (by rw [HGT.out]; exact hx)))))
            have hlt' : decide ((j : Int) < (c : Int)) = false := by simp; omega
            have HOG := Lib.hid (show Own wr w.heap.size 22 (.slice po j co) (G.map (·.2)) from by have := HO.out; rw [HGT.out] at this; exact this)
            have r0 : wr.cell? ⟨R, 0, none⟩ = some (.int .i64 0) := by rw [HRr.out.cell]; rfl
            have r1 : wr.cell? ⟨R, 1, none⟩ = some (.slice none 0 0) := by rw [HRr.out.cell]; rfl
            have z0 : wr.frozen? ⟨R, 0, none⟩ = false := HRr.out.frozen _
            have z1 : wr.frozen? ⟨R, 1, none⟩ = false := HRr.out.frozen _
            have t0 : wr.cell? ⟨T, 0, none⟩ = some (.int .i64 (n : Int)) := by rw [HT.out.cell]; rfl
            have t1 : wr.cell? ⟨T, 1, none⟩ = some (.slice po j co) := by rw [HT.out.cell]; rfl
            have HOR := Lib.hid (show (Value.slice po j co).ownBlock ≠ some R from HO.out.blk_ne HRr.out (by decide))
            clear hjc
            go_wp2_with fail
            refine bodyPost_ret (v := .tuple #[.agg #[.int .i64 (n : Int), .slice po j co], .int .i64 ((c : Int) + 2), .bool true]) (by simp [results, Try.results101, go_sem, r0, r1]) rfl (oneDid_some HRES.out ((HK.out.setCell (by have := HRe.out; show _ ≤ R; omega) _).setCell (by have := HRe.out; show _ ≤ R; omega) _) ?_)
            rw [HRT.out]
            exact (HOG.out.setCell _ HOR.out).setCell _ HOR.out
end Txl
end Go.Proofs.Ytchjncnolmiejaa

/- The transactions of frames, plain. -/
namespace Go.Proofs.Ytchjncnolmiejaa
open Go.RowKit
namespace Txl
open Oct Frm
def lenS (fs : List Fr1) : Int := (fs.map (·.len)).sum
theorem lenS_nil : lenS [] = 0 := rfl
theorem lenS_cons (f : Fr1) (fs : List Fr1) : lenS (f :: fs) = f.len + lenS fs := by simp [lenS]
theorem lenS_append (a b : List Fr1) : lenS (a ++ b) = lenS a + lenS b := by simp [lenS]
theorem lenS_take {fs : List Fr1} {j : Nat} (h : j < fs.length) : lenS (fs.take (j + 1)) = lenS (fs.take j) + fs[j].len := by
  rw [List.take_succ_eq_append_getElem h, lenS_append]
  simp [lenS]
theorem lenS_split (fs : List Fr1) (j : Nat) : lenS fs = lenS (fs.take j) + lenS (fs.drop j) := by
  rw [← lenS_append, List.take_append_drop]
theorem lenS_nn {fs : List Fr1} (h : ∀ f ∈ fs, 0 ≤ f.len) : 0 ≤ lenS fs := by
  induction fs with
  | nil => simp [lenS]
  | cons f fs ih =>
    rw [lenS_cons]
    have h1 := h f (List.mem_cons_self ..)
    have h2 := ih (fun x hx => h x (List.mem_cons_of_mem _ hx))
    omega
/-- what a row of frames has -/
theorem rowN_all (l : List UInt8) : ∀ (k u : Nat), u ≤ l.length → (∀ f ∈ (rowN l k u).1, 0 ≤ f.len ∧ f.pay.length ≤ l.length) ∧ (u : Int) + lenS (rowN l k u).1 = ((rowN l k u).2.1 : Int) ∧ (rowN l k u).2.1 ≤ l.length ∧ (rowN l k u).1.length + u ≤ (rowN l k u).2.1
  | 0, u, h => by simp [rowN, lenS, h]
  | k + 1, u, h => by
    by_cases hu : u < l.length
    · by_cases he : atE l u = 0
      · obtain ⟨h1, h2, h3⟩ := atE_len he
        have hp := atE_pay he
        obtain ⟨m, hm⟩ := Int.eq_ofNat_of_zero_le h3
        rw [rowN_ok hu he]
        have hm2 : (atF l u).len.toNat = m := by omega
        rw [hm2]
        obtain ⟨i1, i2, i3, i4⟩ := rowN_all l k (u + m) (by omega)
        refine ⟨?_, ?_, i3, ?_⟩
        · intro f hf
          rcases List.mem_cons.1 hf with rfl | hf
          · exact ⟨h3, hp⟩
          · exact i1 f hf
        · rw [lenS_cons]
          simp only at i2 ⊢
          omega
        · simp only [List.length_cons]
          omega
      · rw [rowN_err hu he]
        simp [lenS, h]
    · rw [rowN_end hu]
      simp [lenS, h]
theorem rowR_all (l : List UInt8) : (∀ f ∈ (rowR l).1, 0 ≤ f.len ∧ f.pay.length ≤ l.length) ∧ lenS (rowR l).1 ≤ (l.length : Int) ∧ (rowR l).1.length ≤ l.length := by
  obtain ⟨h1, h2, h3, h4⟩ := rowN_all l l.length 0 (Nat.zero_le _)
  refine ⟨h1, ?_, ?_⟩
  · show lenS (rowN l l.length 0).1 ≤ _
    omega
  · show (rowN l l.length 0).1.length ≤ _
    omega
/-- the transactions from number n on, and how many bytes they have -/
def replayN : Nat → Nat → List Fr1 → List (Nat × List Item) × Int
  | 0, _, _ => ([], 0)
  | k + 1, n, fs => match oneK n fs with
    | none => ([], 0)
    | some c => ((n, ((fs.drop 1).take c).map (·.pay)) :: (replayN k (n + 1) (fs.drop (c + 2))).1, lenS (fs.take (c + 2)) + (replayN k (n + 1) (fs.drop (c + 2))).2)
def replayF (fs : List Fr1) : List (Nat × List Item) × Int := replayN fs.length 1 fs
theorem replayN_none {k n : Nat} {fs : List Fr1} (h : oneK n fs = none) : replayN k n fs = ([], 0) := by
  cases k with
  | zero => rfl
  | succ k => unfold replayN; rw [h]
theorem replayN_some {k n c : Nat} {fs : List Fr1} (h : oneK n fs = some c) : replayN (k + 1) n fs = ((n, ((fs.drop 1).take c).map (·.pay)) :: (replayN k (n + 1) (fs.drop (c + 2))).1, lenS (fs.take (c + 2)) + (replayN k (n + 1) (fs.drop (c + 2))).2) := by
  show (match oneK n fs with | none => _ | some c => _) = _
  rw [h]
theorem oneK_len {n c : Nat} {fs : List Fr1} (h : oneK n fs = some c) : c + 2 ≤ fs.length ∧ c ≤ 1000 := by
  cases fs with
  | nil => cases h
  | cons f r =>
    rw [oneK_cons] at h
    split at h
    · rename_i hh
      cases h
      exact ⟨by simp; omega, beginB_cnt hh.1⟩
    · cases h
end Txl
end Go.Proofs.Ytchjncnolmiejaa

/- Transactions one behind the other, cut off anywhere: plain. -/
namespace Go.Proofs.Ytchjncnolmiejaa
open Go.RowKit
namespace Txl
open Oct Frm
abbrev FK := Nat × List UInt8
def kpl (f : Fr1) : Int × List UInt8 × Int := (f.kind, f.pay, f.len)
def kql (x : FK) : Int × List UInt8 × Int := ((x.1 : Int), x.2, ((wrapL x.1 x.2).length : Int))
theorem row_catL (l : List UInt8) : ∀ (F : List FK) (c k u : Nat), catOk F → c ≤ (cat F).length → u ≤ l.length → l.length ≤ u + k → l.drop u = (cat F).take c → (rowN l k u).1.map kpl = (F.take (whole F c)).map kql := by
  intro F
  induction F with
  | nil =>
    intro c k u _ hc hu hk hd
    have hc0 : c = 0 := by simpa [cat] using hc
    subst hc0
    have hlen := congrArg List.length hd
    rw [List.length_drop] at hlen
    simp at hlen
    rw [rowN_end (by omega)]
    simp [whole]
  | cons x F ih =>
    intro c k u hok hc hu hk hd
    obtain ⟨h1, h2⟩ := hok x (by simp)
    have hpos := wrapL_pos h1 h2
    have hlen := congrArg List.length hd
    rw [List.length_drop, List.length_take] at hlen
    by_cases hw : (wrapL x.1 x.2).length ≤ c
    · have hwh : whole (x :: F) c = whole F (c - (wrapL x.1 x.2).length) + 1 := by rw [whole, if_pos hw]
      rw [cat_cons] at hd hc hlen
      rw [List.length_append] at hc hlen
      rw [take_of_prefix hw] at hd
      obtain ⟨he, hf⟩ := at_put h1 h2 hd
      obtain ⟨k', rfl⟩ : ∃ k', k = k' + 1 := ⟨k - 1, by omega⟩
      have hlt : u < l.length := by omega
      rw [rowN_ok hlt he, hf, hwh]
      simp only [Int.toNat_natCast]
      have hd2 : l.drop (u + (wrapL x.1 x.2).length) = (cat F).take (c - (wrapL x.1 x.2).length) := by
        rw [← List.drop_drop, hd, List.drop_left]
      have i1 := ih (c - (wrapL x.1 x.2).length) k' (u + (wrapL x.1 x.2).length) (fun y hy => hok y (by simp [hy])) (by omega) (by omega) (by omega) hd2
      simp [i1, kpl, kql]
    · have hwh : whole (x :: F) c = 0 := by rw [whole, if_neg hw]
      rw [hwh]
      rw [cat_cons, List.take_append_of_le_length (by omega)] at hd
      rw [cat_cons, List.length_append] at hlen
      by_cases hc0 : c = 0
      · subst hc0
        rw [rowN_end (by omega)]
        simp
      · obtain ⟨k', rfl⟩ : ∃ k', k = k' + 1 := ⟨k - 1, by omega⟩
        have he := at_cut h1 h2 (by omega) hd hu
        rw [rowN_err (by omega) (by rw [he]; decide)]
        simp
theorem whole_more : ∀ (A B : List FK) (c : Nat), (cat A).length ≤ c → whole (A ++ B) c = A.length + whole B (c - (cat A).length)
  | [], B, c, _ => by simp [cat]
  | x :: A, B, c, h => by
    rw [cat_cons, List.length_append] at h ⊢
    have ih := whole_more A B (c - (wrapL x.1 x.2).length) (by omega)
    show whole (x :: (A ++ B)) c = _
    rw [whole, if_pos (by omega), ih, List.length_cons, Nat.sub_sub]
    omega
theorem whole_less : ∀ (A B : List FK) (c : Nat), c < (cat A).length → whole (A ++ B) c < A.length
  | [], B, c, h => by simp [cat] at h
  | x :: A, B, c, h => by
    rw [cat_cons, List.length_append] at h
    show whole (x :: (A ++ B)) c < _
    rw [whole]
    split
    · have ih := whole_less A B (c - (wrapL x.1 x.2).length) (by omega)
      simp only [List.length_cons]
      omega
    · simp
/-- a transaction's frames -/
def trF (n : Nat) (t : List Item) : List FK := (32, numL n (t.length : Int)) :: (t.map (fun x => (33, x)) ++ [(34, numL n (-1))])
def trOk (t : List Item) : Prop := t.length ≤ 1000 ∧ ∀ x ∈ t, x.length ≤ 4096
theorem trF_len (n : Nat) (t : List Item) : (trF n t).length = t.length + 2 := by simp [trF]
theorem trF_cat (n : Nat) (t : List Item) : cat (trF n t) = headL n t.length ++ itemsL t ++ endL n := by
  unfold trF
  rw [cat_cons, cat_append, ← List.append_assoc]
  have e : cat (t.map fun x => ((33 : Nat), x)) = itemsL t := by
    unfold cat itemsL
    rw [List.flatMap_map]
    rfl
  rw [e]
  unfold headL endL
  simp [cat]
theorem trF_tx {n : Nat} {t : List Item} (h1 : 1 ≤ n) (h : trOk t) : txE (n : Int) t = 0 ∧ txL (n : Int) t = cat (trF n t) := by
  have h0 : txE (n : Int) t = 0 := by
    unfold txE
    rw [if_neg (by omega), if_neg (by have := h.1; omega), if_neg]
    intro hh
    obtain ⟨x, hx, hy⟩ := List.any_eq_true.1 hh
    have := h.2 x hx
    simp [bigB] at hy
    omega
  refine ⟨h0, ?_⟩
  unfold txL
  rw [if_pos h0, trF_cat]
  rfl
theorem trF_ok {n : Nat} {t : List Item} (h : trOk t) : catOk (trF n t) := by
  intro x hx
  unfold trF at hx
  rcases List.mem_cons.1 hx with rfl | hx
  · have := numL_len n (t.length : Int)
    exact ⟨by show 32 ≤ 255; decide, by show (numL n (t.length : Int)).length ≤ _; omega⟩
  · rcases List.mem_append.1 hx with hx | hx
    · obtain ⟨y, hy, rfl⟩ := List.mem_map.1 hx
      exact ⟨by show 33 ≤ 255; decide, by have := h.2 y hy; show y.length ≤ _; omega⟩
    · simp only [List.mem_singleton] at hx
      subst hx
      have := numL_len n (-1)
      exact ⟨by show 34 ≤ 255; decide, by show (numL n (-1)).length ≤ _; omega⟩
theorem num_head (n c : Nat) (hn : n < 18446744073709551616) (hc : c < 65536) : (numL n (c : Int)).length = 10 ∧ numP (numL n (c : Int)) = n ∧ cntP (numL n (c : Int)) = c := by
  have h8 := be_length 8 n
  have h2 := be_length 2 c
  have e : numL n (c : Int) = be 8 n ++ be 2 c := by
    unfold numL
    rw [if_pos (by omega)]
    rfl
  have hl : (numL n (c : Int)).length = 10 := by rw [e, List.length_append]; omega
  refine ⟨hl, ?_, ?_⟩
  · unfold numP
    rw [if_pos (by omega), e, List.take_append_of_le_length (by omega), List.take_of_length_le (by omega), valOf_be]
    exact Nat.mod_eq_of_lt (by simpa using hn)
  · unfold cntP
    rw [if_pos (by omega), e, List.drop_append_of_le_length (by omega), List.drop_of_length_le (by omega), List.nil_append, List.take_of_length_le (by omega), valOf_be]
    exact Nat.mod_eq_of_lt (by simpa using hc)
theorem num_end (n : Nat) (hn : n < 18446744073709551616) : (numL n (-1)).length = 8 ∧ numP (numL n (-1)) = n := by
  have h8 := be_length 8 n
  have e : numL n (-1) = be 8 n := by
    unfold numL
    rw [if_neg (by decide), List.append_nil]
  refine ⟨by rw [e]; omega, ?_⟩
  unfold numP
  rw [if_pos (by rw [e]; omega), e, List.take_of_length_le (by omega), valOf_be]
  exact Nat.mod_eq_of_lt (by simpa using hn)
theorem map_eq_take {fs : List Fr1} {F : List FK} (h : fs.map kpl = F.map kql) : fs.length = F.length ∧ ∀ i (h1 : i < fs.length) (h2 : i < F.length), kpl fs[i] = kql F[i] := by
  refine ⟨by have := congrArg List.length h; simpa using this, fun i h1 h2 => ?_⟩
  have := congrArg (fun l => l[i]?) h
  simpa [h1, h2] using this
/-- the frames of a transaction ahead -/
theorem oneK_tr {n : Nat} {t : List Item} (hn : n < 18446744073709551616) (ht : trOk t) {fs : List Fr1} {R : List FK} (h : fs.map kpl = (trF n t ++ R).map kql) : oneK n fs = some t.length ∧ ((fs.drop 1).take t.length).map (·.pay) = t ∧ lenS (fs.take (t.length + 2)) = ((cat (trF n t)).length : Int) ∧ (fs.drop (t.length + 2)).map kpl = R.map kql := by
  have hlen := (map_eq_take h).1
  rw [List.length_append, trF_len] at hlen
  obtain ⟨g1, g2, g3⟩ := num_head n t.length hn (by have := ht.1; omega)
  obtain ⟨e1, e2⟩ := num_end n hn
  -- the pieces
  cases fs with
  | nil => exact absurd hlen (by simp only [List.length_nil]; omega)
  | cons f r =>
    have h0 : kpl f = kql (32, numL n (t.length : Int)) ∧ r.map kpl = (t.map (fun x => ((33 : Nat), x)) ++ [(34, numL n (-1))] ++ R).map kql := by
      unfold trF at h
      simp only [List.cons_append, List.map_cons, List.cons.injEq] at h
      exact ⟨h.1, by rw [h.2]⟩
    obtain ⟨hf, hr⟩ := h0
    simp only [kpl, kql, Prod.mk.injEq] at hf
    obtain ⟨hk, hp, hl⟩ := hf
    rw [List.length_cons] at hlen
    have hT : (r.take t.length).map kpl = (t.map (fun x => ((33 : Nat), x))).map kql := by
      rw [List.map_take, hr, List.append_assoc, List.map_append, List.take_append_of_le_length (by simp), List.take_of_length_le (by simp)]
    have hD : (r.drop t.length).map kpl = ((34, numL n (-1)) :: R).map kql := by
      rw [List.map_drop, hr, List.append_assoc, List.map_append, List.drop_append_of_le_length (by simp), List.drop_of_length_le (by simp), List.nil_append]
      rfl
    have hc : cntP f.pay = t.length := by rw [hp]; exact g3
    have hg : kpl (r.getD t.length ⟨0, 0, 0, []⟩) = kql (34, numL n (-1)) := by
      have : (r.drop t.length)[0]? = some r[t.length] := by rw [List.getElem?_drop, Nat.add_zero, List.getElem?_eq_getElem (by omega)]
      have h2 := congrArg (fun l => l[0]?) hD
      simp only [List.getElem?_map, this, Option.map_some, List.map_cons, List.getElem?_cons_zero, Option.some.injEq] at h2
      rw [List.getD_eq_getElem?_getD, List.getElem?_eq_getElem (by omega)]
      exact h2
    simp only [kpl, kql, Prod.mk.injEq] at hg
    have hone : oneK n (f :: r) = some t.length := by
      rw [oneK_cons, hc, if_pos]
      refine ⟨?_, by omega, ?_, ?_⟩
      · unfold beginB
        rw [hk, hp, g1, g2, g3]
        have := ht.1
        simp
        omega
      · unfold commitB
        rw [hg.1, hg.2.1, e1, e2]
        simp
      · rw [List.all_eq_true]
        intro x hx
        obtain ⟨i, hi, rfl⟩ := List.mem_iff_getElem.1 hx
        have h2 := (map_eq_take hT).2 i hi (by rw [List.length_map]; rw [List.length_take] at hi; omega)
        simp only [List.getElem_map, kpl, kql, Prod.mk.injEq] at h2
        unfold itemB
        rw [h2.1, h2.2.1]
        simp
        exact ht.2 _ (List.getElem_mem _)
    refine ⟨hone, ?_, ?_, ?_⟩
    · have h2 := congrArg (List.map (fun x : Int × List UInt8 × Int => x.2.1)) hT
      simp only [List.map_map] at h2
      have e3 : ((fun x : Int × List UInt8 × Int => x.2.1) ∘ kpl) = (·.pay) := rfl
      have e4 : ((fun x : Int × List UInt8 × Int => x.2.1) ∘ kql ∘ fun x => ((33 : Nat), x)) = id := rfl
      rw [e3] at h2
      show (r.take t.length).map (·.pay) = t
      rw [h2]
      show t.map ((fun x : Int × List UInt8 × Int => x.2.1) ∘ kql ∘ fun x => ((33 : Nat), x)) = t
      rw [e4, List.map_id]
    · have h2 : ((f :: r).take (t.length + 2)).map kpl = (trF n t).map kql := by
        rw [List.map_take, h, List.map_append, List.take_append_of_le_length (by simp [trF_len]), List.take_of_length_le (by simp [trF_len])]
      have h3 := congrArg (List.map (fun x : Int × List UInt8 × Int => x.2.2)) h2
      simp only [List.map_map] at h3
      have h4 : lenS ((f :: r).take (t.length + 2)) = ((trF n t).map ((fun x : Int × List UInt8 × Int => x.2.2) ∘ kql)).sum := by
        unfold lenS
        rw [← h3]
        rfl
      rw [h4]
      unfold cat
      generalize trF n t = F
      clear h h2 h3 h4
      induction F with
      | nil => simp
      | cons x F ih =>
        rw [List.map_cons, List.sum_cons, List.flatMap_cons, List.length_append, ih]
        simp [kql]
    · have e5 : (f :: r).drop (t.length + 2) = (r.drop t.length).drop 1 := by rw [List.drop_drop]; simp [Nat.add_comm]
      rw [e5, List.map_drop, hD]
      rfl
theorem oneK_cut {n : Nat} {t : List Item} (hn : n < 18446744073709551616) (ht : trOk t) {fs : List Fr1} {R : List FK} {m : Nat} (hm : m < t.length + 2) (h : fs.map kpl = ((trF n t ++ R).take m).map kql) : oneK n fs = none := by
  have hlen := (map_eq_take h).1
  rw [List.length_take, List.length_append, trF_len] at hlen
  cases fs with
  | nil => rfl
  | cons f r =>
    obtain ⟨m, rfl⟩ : ∃ m', m = m' + 1 := ⟨m - 1, by simp at hlen; omega⟩
    have hf : kpl f = kql (32, numL n (t.length : Int)) := by
      unfold trF at h
      simp only [List.cons_append, List.take_succ_cons, List.map_cons, List.cons.injEq] at h
      exact h.1
    simp only [kpl, kql, Prod.mk.injEq] at hf
    have hc : cntP f.pay = t.length := by rw [hf.2.1]; exact (num_head n t.length hn (by have := ht.1; omega)).2.2
    rw [oneK_cons, hc, if_neg]
    rintro ⟨-, hh, -⟩
    simp at hlen
    omega
/-- all frames of transactions from number n on -/
def allF : Nat → List (List Item) → List FK
  | _, [] => []
  | n, t :: T => trF n t ++ allF (n + 1) T
/-- how many are whole within so many bytes -/
def cntB : Nat → List (List Item) → Nat → Nat
  | _, [], _ => 0
  | n, t :: T, c => if (cat (trF n t)).length ≤ c then cntB (n + 1) T (c - (cat (trF n t)).length) + 1 else 0
theorem cntB_le : ∀ (T : List (List Item)) (n c : Nat), cntB n T c ≤ T.length
  | [], _, _ => Nat.le_refl _
  | t :: T, n, c => by
    unfold cntB
    split
    · have := cntB_le T (n + 1) (c - (cat (trF n t)).length)
      simp only [List.length_cons]
      omega
    · omega
def numd : Nat → List (List Item) → List (Nat × List Item)
  | _, [] => []
  | n, t :: T => (n, t) :: numd (n + 1) T
theorem numd_get : ∀ (T : List (List Item)) (n i : Nat) (h : i < T.length), (numd n T)[i]? = some (n + i, T[i])
  | t :: T, n, 0, _ => by simp [numd]
  | t :: T, n, i + 1, h => by
    have := numd_get T (n + 1) i (by simpa using h)
    simp only [numd, List.getElem?_cons_succ, this, List.getElem_cons_succ]
    congr 2
    omega
theorem numd_len : ∀ (T : List (List Item)) (n : Nat), (numd n T).length = T.length
  | [], _ => rfl
  | t :: T, n => by simp [numd, numd_len T (n + 1)]
theorem replay_all : ∀ (T : List (List Item)) (n c k : Nat) (fs : List Fr1), n + T.length < 18446744073709551616 → (∀ t ∈ T, trOk t) → fs.map kpl = ((allF n T).take (whole (allF n T) c)).map kql → fs.length ≤ k → replayN k n fs = (numd n (T.take (cntB n T c)), ((cat (allF n (T.take (cntB n T c)))).length : Int))
  | [], n, c, k, fs, _, _, h, _ => by
    have : fs = [] := by
      have := congrArg List.length h
      simp [allF] at this
      exact this
    subst this
    rw [replayN_none rfl]
    simp [cntB, numd, allF, cat]
  | t :: T, n, c, k, fs, hn, hok, h, hk => by
    have ht := hok t (List.mem_cons_self ..)
    have hn' : n < 18446744073709551616 := by omega
    by_cases hc : (cat (trF n t)).length ≤ c
    · have hw : whole (allF n (t :: T)) c = (trF n t).length + whole (allF (n + 1) T) (c - (cat (trF n t)).length) := whole_more _ _ _ hc
      have h2 : fs.map kpl = (trF n t ++ (allF (n + 1) T).take (whole (allF (n + 1) T) (c - (cat (trF n t)).length))).map kql := by
        rw [h, hw]
        show ((trF n t ++ allF (n + 1) T).take _).map kql = _
        rw [List.take_length_add_append]
      obtain ⟨h3, h4, h5, h6⟩ := oneK_tr hn' ht h2
      have hfl : t.length + 2 ≤ fs.length := (oneK_len h3).1
      obtain ⟨k', rfl⟩ : ∃ k', k = k' + 1 := ⟨k - 1, by omega⟩
      have ih := replay_all T (n + 1) (c - (cat (trF n t)).length) k' (fs.drop (t.length + 2)) (by simp only [List.length_cons] at hn; omega) (fun x hx => hok x (List.mem_cons_of_mem _ hx)) h6 (by rw [List.length_drop]; omega)
      rw [replayN_some h3, ih, h4, h5]
      have hcb : cntB n (t :: T) c = cntB (n + 1) T (c - (cat (trF n t)).length) + 1 := by show (if _ then _ else _) = _; rw [if_pos hc]
      rw [hcb, List.take_succ_cons]
      simp only [numd, allF, cat_append, List.length_append]
      rw [Int.natCast_add]
    · have hl := whole_less (trF n t) (allF (n + 1) T) c (by omega)
      rw [trF_len] at hl
      have hone := oneK_cut (R := allF (n + 1) T) hn' ht (m := whole (allF n (t :: T)) c) hl h
      rw [replayN_none hone]
      have hcb : cntB n (t :: T) c = 0 := by show (if _ then _ else _) = _; rw [if_neg hc]
      rw [hcb]
      simp [numd, allF, cat]
theorem allF_ok : ∀ (T : List (List Item)) (n : Nat), (∀ t ∈ T, trOk t) → catOk (allF n T)
  | [], _, _ => fun x hx => absurd hx (List.not_mem_nil)
  | t :: T, n, h => fun x hx => by
    rcases List.mem_append.1 hx with hx | hx
    · exact trF_ok (h t (List.mem_cons_self ..)) x hx
    · exact allF_ok T (n + 1) (fun y hy => h y (List.mem_cons_of_mem _ hy)) x hx
/-- transactions one behind the other, cut off -/
theorem rep_cut (T : List (List Item)) (hT : ∀ t ∈ T, trOk t) (hn : T.length < 1000000) (c : Nat) (hc : c ≤ (cat (allF 1 T)).length) : replayF (rowR ((cat (allF 1 T)).take c)).1 = (numd 1 (T.take (cntB 1 T c)), ((cat (allF 1 (T.take (cntB 1 T c)))).length : Int)) := by
  have h := row_catL ((cat (allF 1 T)).take c) (allF 1 T) c ((cat (allF 1 T)).take c).length 0 (allF_ok T 1 hT) hc (Nat.zero_le _) (by omega) (by simp)
  exact replay_all T 1 c _ _ (by omega) hT h (Nat.le_refl _)
theorem allF_snoc : ∀ (T : List (List Item)) (n : Nat) (t : List Item), allF n (T ++ [t]) = allF n T ++ trF (n + T.length) t
  | [], n, t => by simp [allF]
  | a :: T, n, t => by
    show trF n a ++ allF (n + 1) (T ++ [t]) = _
    rw [allF_snoc T (n + 1) t]
    show _ = trF n a ++ allF (n + 1) T ++ _
    rw [List.append_assoc, List.length_cons, show n + 1 + T.length = n + (T.length + 1) from by omega]
/-- which are whole -/
theorem ends_cnt : ∀ (T : List (List Item)) (n c i : Nat), i < T.length → ((cat (allF n (T.take (i + 1)))).length ≤ c ↔ i < cntB n T c)
  | t :: T, n, c, i, h => by
    rw [List.take_succ_cons]
    show ((cat (trF n t ++ allF (n + 1) (T.take i))).length ≤ c ↔ _)
    rw [cat_append, List.length_append]
    by_cases hc : (cat (trF n t)).length ≤ c
    · have hcb : cntB n (t :: T) c = cntB (n + 1) T (c - (cat (trF n t)).length) + 1 := by show (if _ then _ else _) = _; rw [if_pos hc]
      rw [hcb]
      cases i with
      | zero =>
        have e : (cat (allF (n + 1) (T.take 0))).length = 0 := by simp [allF, cat]
        omega
      | succ i =>
        have := ends_cnt T (n + 1) (c - (cat (trF n t)).length) i (by simpa using h)
        omega
    · have hcb : cntB n (t :: T) c = 0 := by show (if _ then _ else _) = _; rw [if_neg hc]
      rw [hcb]
      omega
end Txl
end Go.Proofs.Ytchjncnolmiejaa

/- Several texts in one: FrameRow, FrameScan, FrameRefRead. -/
import Derived.Test.YtchjncnolmiejaaGreatK09
import Derived.Test.YtchjncnolmiejaaGreatFrameRowPlain
import Derived.Test.YtchjncnolmiejaaGreatK04
/- Lists of frames in memory; frame.Row. -/
namespace Go.Proofs.YtchjncnolmiejaaGreat
open Go.RowKit
namespace Frm
open Oct

def frC (x : Fr1 × Value) : List Value := [.int .i64 x.1.at', .int .i64 x.1.len, .int .i64 x.1.kind, x.2]
theorem frC_len (x : Fr1 × Value) : (frC x).length = 4 := rfl
def isSl : Value → Prop
 | .slice _ _ _ => True
 | _ => False

/-- a slice of frames of the call's own, their payloads new -/
structure FramesAt (w : World) (base : Nat) (v : Value) (l : List (Fr1 × Value)) : Prop where
 own : w.ownsRow base 147 4 v l.length (l.flatMap frC)
 pay : ∀ x ∈ l, Piece w base 5 x.2 (x.1.pay.map u8v)

section
variable {w w' : World} {base : Nat} {v : Value} {l : List (Fr1 × Value)}
theorem FramesAt.nil (w : World) (base : Nat) : FramesAt w base (.slice none 0 0) [] := ⟨World.ownsRow_nil w base _ 4, by simp⟩
theorem ownsRow_keeps {e : TypeId} {C n : Nat} {xs : List Value} (h : w.ownsRow base e C v n xs) (k : Keeps w w') : w'.ownsRow base e C v n xs := by
 refine ⟨h.1, ?_⟩
 rcases h.2 with hn | ⟨g, cap, cur, rfl, hb, hgg, rest⟩
 ·exact .inl hn
 ·exact .inr ⟨g, cap, cur, rfl, hb, by rw [k.block (Array.getElem?_eq_some_iff.1 hgg).1]; exact hgg, rest⟩
theorem FramesAt.keeps (h : FramesAt w base v l) (k : Keeps w w') : FramesAt w' base v l := ⟨ownsRow_keeps h.own k, fun x hx => (h.pay x hx).keeps k⟩
theorem ownsRow_ty {e e' : TypeId} {C n : Nat} {xs : List Value} (h : w.ownsRow base e C v n xs) (hne : e ≠ e') : ∀ x, v.ownBlock = some x → ∀ cs fr, w.heap[x]? ≠ some (.cells cs e' fr) := by
 intro x hx cs fr hc
 rcases h.2 with ⟨rfl, _⟩ | ⟨g, cap, cur, rfl, hb, hgg, rest⟩
 ·simp [Value.ownBlock] at hx
 ·simp [Value.ownBlock] at hx
  subst hx
  rw [hgg] at hc
  simp only [Option.some.injEq, Obj.cells.injEq] at hc
  exact hne hc.2.1
theorem ownsRow_base {e : TypeId} {C n : Nat} {xs : List Value} (h : w.ownsRow base e C v n xs) : ∀ x, v.ownBlock = some x → base ≤ x := by
 intro x hx
 rcases h.2 with ⟨rfl, _⟩ | ⟨g, cap, cur, rfl, hb, hgg, rest⟩
 ·simp [Value.ownBlock] at hx
 ·simp [Value.ownBlock] at hx
  omega
theorem ownsRow_form {e : TypeId} {C n : Nat} {xs : List Value} (h : w.ownsRow base e C v n xs) : ∃ p cap, v = .slice p n cap ∧ n ≤ cap ∧ cap ≤ 9223372036854775807 := by
 rcases h.2 with ⟨rfl, rfl⟩ | ⟨g, cap, cur, rfl, hb, hgg, h1, h2, rest⟩
 ·exact ⟨none, 0, rfl, Nat.le_refl _, by omega⟩
 ·exact ⟨_, cap, rfl, h1, by simpa [maxLen] using h2⟩
theorem ownsRow_lt {e : TypeId} {C n : Nat} {xs : List Value} (h : w.ownsRow base e C v n xs) : ∀ x, v.ownBlock = some x → x < w.heap.size := by
 intro x hx
 rcases h.2 with ⟨rfl, _⟩ | ⟨g, cap, cur, rfl, hb, hgg, rest⟩
 ·simp [Value.ownBlock] at hx
 ·simp [Value.ownBlock] at hx
  subst hx
  exact (Array.getElem?_eq_some_iff.1 hgg).1
/-- behind an append of one frame -/
theorem FramesAt.snoc {v' : Value} {f : Fr1} {pv : Value} (h : FramesAt w base v l) (hp : Piece w base 5 pv (f.pay.map u8v)) (ho : w'.ownsRow base 147 4 v' (l.length + 1) (l.flatMap frC ++ frC (f, pv))) (hg : w.grownBy w' v.ownBlock) : FramesAt w' base v' (l ++ [(f, pv)]) := by
 have hM : Mods (fun x => v.ownBlock = some x) w w' := (Mods.refl _ w).grown hg (fun k hk _ => hk)
 have hty := ownsRow_ty (e' := 5) h.own (by decide)
 refine ⟨by simpa using ho, ?_⟩
 intro x hx
 rcases List.mem_append.1 hx with hx | hx
 ·exact (h.pay x hx).modsT hM hty
 ·simp at hx
  subst hx
  exact hp.modsT hM hty
end

theorem frok : ElemOkS Tryz.prog 141 147 4 48 := elemOkS (z := .agg #[.int .i64 0, .int .i64 0, .int .i64 0, .slice none 0 0]) Tryz.underlying141 (by kernel_rfl) rfl
theorem rowS_lit {w : World} {b C : Nat} {cs : Array Value} {e : TypeId} {l : List Value} (hb : b = w.heap.size) (hl : cs.toList = l) (hC : l.length = C) : RowS (w.alloc (.cells cs e)) C (.slice (some ⟨b, 0, none⟩) 1 1) 1 l := by
 subst hb hl
 refine ⟨by simpa using hC, .inr ⟨w.heap.size, 0, 1, rfl, Nat.le_refl _, by simp [maxLen], fun i x hx => ?_⟩⟩
 rw [Nat.zero_add, cell_alloc_new]
 simpa using hx

/-- frames, a number and an error -/
def RowDid (W : World) (fs : List Fr1) (u : Nat) (n : Int) (e : Ending) (w' : World) : Prop :=
 ∃ v l, e = .returned (.tuple #[v, .int .i64 (u : Int), .int .i64 n]) ∧ FramesAt w' W.heap.size v l ∧ l.map (·.1) = fs ∧ Keeps W w'

theorem piece_sl {w : World} {base : Nat} {e : TypeId} {v : Value} {l : List Value} (h : Piece w base e v l) : ∃ p n cap, v = .slice p n cap := by
 obtain ⟨p, cap, rfl, -⟩ := h.form
 exact ⟨_, _, _, rfl⟩

set_option maxHeartbeats 1000000 in
theorem row_any (v : Value) (l : List UInt8) (w : World) (hr : Row w v (l.map u8v)) (hl : l.length ≤ 1099511627776) : Calls Tryz.prog 81 #[v] w (RowDid w (rowR l).1 (rowR l).2.1 (rowR l).2.2) := by
 obtain ⟨p, cap, rfl, hc1, hc2⟩ := hr.formB
 have HR := Lib.hid hr
 clear hr
 go_enter Tryz.func81, Tryz.ntmps81
 go_wp2_with fail
 go_loopg [2, 3] l.length (fun gk vo uo wr => ∃ (u : Nat) (fl : List (Fr1 × Value)), uo = .int .i64 (u : Int) ∧ FramesAt wr w.heap.size vo fl ∧ Keeps w wr ∧ u ≤ l.length ∧ l.length ≤ u + gk ∧ fl.length ≤ u ∧ (rowR l).1 = fl.map (·.1) ++ (rowN l gk u).1 ∧ (rowR l).2 = (rowN l gk u).2)
 case atStart => exact ⟨0, [], rfl, FramesAt.nil _ _, Keeps.refl _, Nat.zero_le _, by omega, by simp, by simp [rowR], rfl⟩
 case round =>
  obtain ⟨u, fl, rfl, hfl, hK, hu, hgk, hfu, he1, he2⟩ := hrel
  obtain ⟨po, capo, rfl, hpo1, hpo2⟩ := ownsRow_form hfl.own
  have HF := Lib.hid hfl
  have HE := Lib.hid (And.intro he1 he2)
  have HK := Lib.hid hK
  have hsz := hK.size
  clear hfl he1 he2 hK
  by_cases hlt : u < l.length
  ·obtain ⟨k', rfl⟩ : ∃ k', gk = k' + 1 := ⟨gk - 1, by omega⟩
   have HA := Lib.hid (at_any (.slice p l.length cap) l u wr (HR.out.keeps HK.out) (by omega))
   by_cases he : atE l u = 0
   ·have hok := Lib.hid (rowN_ok (k := k') hlt he)
    obtain ⟨hl10, hlen, hl0⟩ := atE_len he
    rw [he] at HA
    clear he
    generalize atF l u = f at *
    obtain ⟨m, hm⟩ := Int.eq_ofNat_of_zero_le hl0
    have HM := Lib.hid hm
    go_wp2_with fail
    refine HA.out.mono ?_
    rintro e w1 ⟨pv, rfl, hpv, hK1⟩
    obtain ⟨pp, np, cp, rfl⟩ := piece_sl hpv
    have HP1 := Lib.hid (hpv.lower hsz)
    have HF1 := Lib.hid (HF.out.keeps hK1)
    have HK1 := Lib.hid (HK.out.trans hK1)
    have hsz1 := HK1.out.size
    clear hpv hK1 HF HK
    obtain ⟨fa, fle, fk, fp⟩ := f
    unfold frV
    simp only at hm hl10 hlen hl0
    subst hm
    clear HM
    go_upto_region 5 with fail
    generalize hWa : World.alloc w1 _ = wa
    have hFb : Blk wa w1.heap.size 147 #[.int .i64 fa, .int .i64 (m : Int), .int .i64 fk, .slice pp np cp] := by rw [← hWa]; exact Blk.new _ _ _ rfl
    have hKa : Keeps w1 wa := by rw [← hWa]; exact (Keeps.refl _).alloc _
    have HFa := Lib.hid (HF1.out.keeps hKa)
    have HPa := Lib.hid (HP1.out.keeps hKa)
    have HKa := Lib.hid (HK1.out.trans hKa)
    have hsza := HKa.out.size
    have hc0 : wa.cell? ⟨w1.heap.size, 0, none⟩ = some (.int .i64 fa) := by rw [hFb.cell]; rfl
    have hc1' : wa.cell? ⟨w1.heap.size, 1, none⟩ = some (.int .i64 (m : Int)) := by rw [hFb.cell]; rfl
    have hc2' : wa.cell? ⟨w1.heap.size, 2, none⟩ = some (.int .i64 fk) := by rw [hFb.cell]; rfl
    have hc3 : wa.cell? ⟨w1.heap.size, 3, none⟩ = some (.slice pp np cp) := by rw [hFb.cell]; rfl
    have HFb := Lib.hid hFb
    have hne : Value.ownBlock (.slice po fl.length capo) ≠ some w1.heap.size := fun h => by
     exact absurd (ownsRow_lt HF1.out.own _ h) (by omega)
    have HNe := Lib.hid hne
    clear hWa hFb hKa HF1 HP1 HK1 hne
    go_wp2_with (at_builtin; refine wpList_apps (base := w.heap.size) frok (by decide) rfl _ _ rfl (.slice po fl.length capo) (.slice (some ⟨wa.heap.size, 0, none⟩) 1 1) fl.length 1 (fl.flatMap frC) [.int .i64 fa, .int .i64 (m : Int), .int .i64 fk, .slice pp np cp] rfl rfl (ownsRow_keeps HFa.out.own ((Keeps.refl _).alloc _)) (rowS_lit rfl rfl rfl) (by simp [Value.oneCell']) (by omega) (by decide) (by simp; omega) ?_; intro v' w2 ho2 hg2 hf2; have hm2 : w2.cell? ⟨w1.heap.size, 1, none⟩ = some (.int .i64 (m : Int)) := by { have hb2 := (HFb.out.alloc _).grown hg2 HNe.out; rw [hb2.cell]; rfl })
    go_roundg k'
    case rel =>
     refine ⟨u + m, fl ++ [(⟨fa, m, fk, fp⟩, .slice pp np cp)], by simp, (HFa.out.keeps ((Keeps.refl _).alloc _)).snoc (f := ⟨fa, m, fk, fp⟩) (pv := .slice pp np cp) (HPa.out.keeps ((Keeps.refl _).alloc _)) ho2 hg2, (HKa.out.alloc _).grown hg2 (ownsRow_base HFa.out.own), by omega, by omega, by simp; omega, ?_, ?_⟩
     ·rw [HE.out.1, hok.out]; simp
     ·rw [HE.out.2, hok.out]; simp
    case measure => omega
   ·have herr := rowN_err (k := k') hlt he
    have hne : (atE l u != 0) = true := by simp [he]
    have HX : Hid (∀ w', Keeps wr w' → RowDid w (rowR l).1 (rowR l).2.1 (rowR l).2.2 (.returned (.tuple #[.slice po fl.length capo, .int .i64 (u : Int), .int .i64 (atE l u)])) w') := Lib.hid (fun w' k => by
     refine ⟨_, fl, ?_, HF.out.keeps k, ?_, HK.out.trans k⟩
     ·rw [HE.out.2, herr]
     ·rw [HE.out.1, herr]; simp)
    clear herr he
    go_wp2_with fail
    refine HA.out.mono ?_
    rintro e w1 ⟨pv, rfl, hpv, hK1⟩
    obtain ⟨pp, np, cp, rfl⟩ := piece_sl hpv
    clear hpv
    generalize atE l u = er at *
    unfold frV
    go_wp2_with fail
    go_ret3
    exact HX.out _ (hK1.alloc _)
  ·have HX : Hid (RowDid w (rowR l).1 (rowR l).2.1 (rowR l).2.2 (.returned (.tuple #[.slice po fl.length capo, .int .i64 (u : Int), .int .i64 0])) wr) := Lib.hid (by
    refine ⟨_, fl, ?_, HF.out, ?_, HK.out⟩
    ·rw [HE.out.2, rowN_end hlt]
    ·rw [HE.out.1, rowN_end hlt]; simp)
   go_wp2_with fail
   go_ret3
   exact HX.out
end Frm
end Go.Proofs.YtchjncnolmiejaaGreat

/- frame.Scan. -/
namespace Go.Proofs.YtchjncnolmiejaaGreat
open Go.RowKit
namespace Frm
open Oct

def gapC (g : Gap1) : List Value := [.int .i64 g.fro, .int .i64 g.to]
section
variable {w w' : World} {base : Nat} {v : Value}
theorem ownsRow_mods {e : TypeId} {C n : Nat} {xs : List Value} {S : Nat → Prop} (h : w.ownsRow base e C v n xs) (k : Mods S w w') (hn : ∀ x, v.ownBlock = some x → ¬ S x) : w'.ownsRow base e C v n xs := by
 refine ⟨h.1, ?_⟩
 rcases h.2 with h0 | ⟨g, cap, cur, rfl, hb, hgg, rest⟩
 ·exact .inl h0
 ·exact .inr ⟨g, cap, cur, rfl, hb, k.heap hgg (hn g rfl), rest⟩
theorem FramesAt.mods {l : List (Fr1 × Value)} {S : Nat → Prop} (h : FramesAt w base v l) (k : Mods S w w') (hn : ∀ x, S x → ∀ cs fr, w.heap[x]? ≠ some (.cells cs 5 fr)) (hn' : ∀ x, S x → ∀ cs fr, w.heap[x]? ≠ some (.cells cs 147 fr)) : FramesAt w' base v l := by
 refine ⟨ownsRow_mods h.own k (fun x hx hs => ?_), fun x hx => (h.pay x hx).modsT k hn⟩
 rcases h.own.2 with ⟨rfl, _⟩ | ⟨g, cap, cur, rfl, hb, hgg, rest⟩
 ·simp [Value.ownBlock] at hx
 ·simp [Value.ownBlock] at hx
  subst hx
  exact hn' g hs _ _ hgg
end

theorem alloc_size (w : World) (o : Obj) : (w.alloc o).heap.size = w.heap.size + 1 := by show (w.heap.push o).size = _; simp

theorem ownsRow_ne {w : World} {base C n g : Nat} {e t : TypeId} {xs : List Value} {v : Value} {cs : Array Value} (h : w.ownsRow base e C v n xs) (hb : Blk w g t cs) (hn : e ≠ t) : v.ownBlock ≠ some g := fun hx => ownsRow_ty h hn g hx _ _ hb

def glen (gl : List Gap1) (g u : Nat) : List Gap1 := if g < u then gl ++ [⟨g, u⟩] else gl
end Frm
end Go.Proofs.YtchjncnolmiejaaGreat

/- The reference's read of one veiled byte. -/
namespace Go.Proofs.YtchjncnolmiejaaGreat
open Go.RowKit
namespace Frm
open Oct

def rpV (a : Nat) (x : Int × UInt8 × Nat) : Value := .agg #[.int .u8 (rpC x), .int .i64 (rpN a x), .int .i64 x.1]
theorem rpV_err {a : Nat} {l : List UInt8} {n : Int} (h : (rd l).1 = n) (hn : n ≠ 0) : rpV a (rd l) = .agg #[.int .u8 0, .int .i64 0, .int .i64 n] := by
 unfold rpV rpC rpN
 rw [if_neg (by rw [h]; exact hn), if_neg (by rw [h]; exact hn), h]
theorem rpV_ok {a s : Nat} {l : List UInt8} {c : UInt8} (h : rd l = (0, c, s)) : rpV a (rd l) = .agg #[.int .u8 (c.toNat : Int), .int .i64 ((a : Int) + s), .int .i64 0] := by
 rw [h]; rfl

set_option maxRecDepth 100000 in
set_option maxHeartbeats 2000000 in
theorem rread_any (v : Value) (l : List UInt8) (a : Nat) (w : World) (hr : Row w v (l.map u8v)) (hl : l.length ≤ 70368744177664) (ha : a ≤ l.length) : Calls Tryz.prog 134 #[v, .int .i64 (a : Int)] w fun e w' => e = .returned (rpV a (rd (l.drop a))) ∧ Keeps w w' := by
 by_cases h1 : a = l.length
 ·have HX := Lib.hid (rpV_err (a := a) (l := l.drop a) (n := 2) (by rw [h1, List.drop_length]; rfl) (by decide))
  obtain ⟨p, cap, rfl, hc1, hc2⟩ := hr.formB
  have hd : (l.length : Int) ≤ a := by omega
  clear h1
  go_enter Tryz.func134, Tryz.ntmps134
  go_wp2_with fail
  exact bodyPost_ret (v := .agg #[.int .u8 0, .int .i64 0, .int .i64 2]) (by simp [results, Tryz.results134, go_sem]) rfl ⟨by rw [HX.out]; try rfl, by repeat (first | assumption | exact Keeps.refl _ | refine Keeps.alloc ?_ _ | refine Keeps.setCell ?_ (by simp; try omega) _ | refine Keeps.drewN ?_ _ | refine Keeps.drew ?_)⟩
 have hlt : a < l.length := by omega
 obtain ⟨bb, off, cap, rfl, hc1, hc2, HC⟩ := hr.bytesAt (by omega)
 have hcell : w.cell? ⟨bb, off + a, none⟩ = some (.int .u8 (l[a].toNat : Int)) := HC.out a _ (by simp [hlt])
 have hbl := lt_of_cell hcell
 have hge : ¬ (l.length : Int) ≤ a := by omega
 have HD := Lib.hid (drop_cons' hlt)
 have hxl := l[a].toNat_lt
 clear h1 hr
 by_cases h80 : l[a] = 80
 ·have HX := Lib.hid (rpV_err (a := a) (l := l.drop a) (n := 3) (by rw [HD.out, h80]; rfl) (by decide))
  have hx0 : ((l[a].toNat : Int) == 80) = true := by rw [h80]; rfl
  clear h80 HD HC
  generalize l[a] = x at *
  go_enter Tryz.func134, Tryz.ntmps134
  go_wp2_with fail
  exact bodyPost_ret (v := .agg #[.int .u8 0, .int .i64 0, .int .i64 3]) (by simp [results, Tryz.results134, go_sem]) rfl ⟨by rw [HX.out]; try rfl, by repeat (first | assumption | exact Keeps.refl _ | refine Keeps.alloc ?_ _ | refine Keeps.setCell ?_ (by simp; try omega) _ | refine Keeps.drewN ?_ _ | refine Keeps.drew ?_)⟩
 have hx0 : ((l[a].toNat : Int) == 80) = false := beq80 h80
 by_cases h81 : l[a] ≠ 81
 ·have HX := Lib.hid (rpV_ok (a := a) (l := l.drop a) (c := l[a]) (s := 1) (by rw [HD.out]; exact rd_plain h80 h81))
  have hx1 : ((l[a].toNat : Int) != 81) = true := by rw [bne_iff_ne]; intro h; exact h81 (UInt8.toNat_inj.1 (by simp; omega))
  clear h80 h81 HD HC
  generalize l[a] = x at *
  go_enter Tryz.func134, Tryz.ntmps134
  go_wp2_with fail
  exact bodyPost_ret (v := .agg #[.int .u8 (x.toNat : Int), .int .i64 ((a : Int) + 1), .int .i64 0]) (by simp [results, Tryz.results134, go_sem]) rfl ⟨by rw [HX.out]; try rfl, by repeat (first | assumption | exact Keeps.refl _ | refine Keeps.alloc ?_ _ | refine Keeps.setCell ?_ (by simp; try omega) _ | refine Keeps.drewN ?_ _ | refine Keeps.drew ?_)⟩
 have h81 : l[a] = 81 := Classical.not_not.1 h81
 have hx1 : ((l[a].toNat : Int) != 81) = false := by rw [h81]; rfl
 by_cases h2 : a + 1 = l.length
 ·have HX := Lib.hid (rpV_err (a := a) (l := l.drop a) (n := 2) (by rw [HD.out, h81, h2, List.drop_length]; rfl) (by decide))
  have hd2 : (l.length : Int) ≤ (a : Int) + 1 := by omega
  clear h80 h81 HD HC h2
  generalize l[a] = x at *
  go_enter Tryz.func134, Tryz.ntmps134
  go_wp2_with fail
  exact bodyPost_ret (v := .agg #[.int .u8 0, .int .i64 0, .int .i64 2]) (by simp [results, Tryz.results134, go_sem]) rfl ⟨by rw [HX.out]; try rfl, by repeat (first | assumption | exact Keeps.refl _ | refine Keeps.alloc ?_ _ | refine Keeps.setCell ?_ (by simp; try omega) _ | refine Keeps.drewN ?_ _ | refine Keeps.drew ?_)⟩
 have hlt2 : a + 1 < l.length := by omega
 have hge2 : ¬ (l.length : Int) ≤ (a : Int) + 1 := by omega
 have hcell2 : w.cell? ⟨bb, off + (a + 1), none⟩ = some (.int .u8 (l[a + 1].toNat : Int)) := HC.out (a + 1) _ (by simp [hlt2])
 have HD2 := Lib.hid (drop_cons' hlt2)
 have hyl := l[a + 1].toNat_lt
 have hi2 : ((a : Int) + 1).toNat = a + 1 := by omega
 clear h2
 by_cases hy0 : l[a + 1] = 0
 ·have HX := Lib.hid (rpV_ok (a := a) (l := l.drop a) (c := 80) (s := 2) (by rw [HD.out, h81, HD2.out, hy0]; rfl))
  have hy : ((l[a + 1].toNat : Int) == 0) = true := by rw [hy0]; rfl
  clear h80 h81 HD HC HD2 hy0
  generalize l[a] = x at *
  generalize l[a + 1] = y at *
  go_enter Tryz.func134, Tryz.ntmps134
  go_wp2_with fail
  exact bodyPost_ret (v := .agg #[.int .u8 80, .int .i64 ((a : Int) + 2), .int .i64 0]) (by simp [results, Tryz.results134, go_sem]) rfl ⟨by rw [HX.out]; try rfl, by repeat (first | assumption | exact Keeps.refl _ | refine Keeps.alloc ?_ _ | refine Keeps.setCell ?_ (by simp; try omega) _ | refine Keeps.drewN ?_ _ | refine Keeps.drew ?_)⟩
 have hy : ((l[a + 1].toNat : Int) == 0) = false := by
  rw [beq_eq_false_iff_ne]
  intro h
  exact hy0 (UInt8.toNat_inj.1 (by simp; omega))
 by_cases hy1 : l[a + 1] = 1
 ·have HX := Lib.hid (rpV_ok (a := a) (l := l.drop a) (c := 81) (s := 2) (by rw [HD.out, h81, HD2.out, hy1]; rfl))
  have hyy : ((l[a + 1].toNat : Int) == 1) = true := by rw [hy1]; rfl
  clear h80 h81 HD HC HD2 hy0 hy1
  generalize l[a] = x at *
  generalize l[a + 1] = y at *
  go_enter Tryz.func134, Tryz.ntmps134
  go_wp2_with fail
  exact bodyPost_ret (v := .agg #[.int .u8 81, .int .i64 ((a : Int) + 2), .int .i64 0]) (by simp [results, Tryz.results134, go_sem]) rfl ⟨by rw [HX.out]; try rfl, by repeat (first | assumption | exact Keeps.refl _ | refine Keeps.alloc ?_ _ | refine Keeps.setCell ?_ (by simp; try omega) _ | refine Keeps.drewN ?_ _ | refine Keeps.drew ?_)⟩
 have hyy : ((l[a + 1].toNat : Int) == 1) = false := by
  rw [beq_eq_false_iff_ne]
  intro h
  exact hy1 (UInt8.toNat_inj.1 (by simp; omega))
 have HX := Lib.hid (rpV_err (a := a) (l := l.drop a) (n := 3) (by
  rw [HD.out, h81, HD2.out]
  refine rd_81big ?_
  have h0 : l[a + 1].toNat ≠ 0 := fun h => hy0 (UInt8.toNat_inj.1 h)
  have h1 : l[a + 1].toNat ≠ 1 := fun h => hy1 (UInt8.toNat_inj.1 h)
  omega) (by decide))
 clear h80 h81 HD HC HD2 hy0 hy1
 generalize l[a] = x at *
 generalize l[a + 1] = y at *
 go_enter Tryz.func134, Tryz.ntmps134
 go_wp2_with fail
 exact bodyPost_ret (v := .agg #[.int .u8 0, .int .i64 0, .int .i64 3]) (by simp [results, Tryz.results134, go_sem]) rfl ⟨by rw [HX.out]; try rfl, by repeat (first | assumption | exact Keeps.refl _ | refine Keeps.alloc ?_ _ | refine Keeps.setCell ?_ (by simp; try omega) _ | refine Keeps.drewN ?_ _ | refine Keeps.drew ?_)⟩
end Frm
end Go.Proofs.YtchjncnolmiejaaGreat

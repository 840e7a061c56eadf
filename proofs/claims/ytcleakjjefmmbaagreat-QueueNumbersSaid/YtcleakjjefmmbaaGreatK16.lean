/- Several texts in one: FrameRow, FrameScan. -/
import Derived.Test.YtcleakjjefmmbaaGreatFrameAt
import Derived.Test.YtcleakjjefmmbaaGreatK15
/- Lists of frames in memory; frame.Row. -/
namespace Go.Proofs.YtcleakjjefmmbaaGreat
open Go.RowKit
namespace Frm
open Oct

def frC (x : Fr1 × Value) : List Value := [.int .i64 x.1.at', .int .i64 x.1.len, .int .i64 x.1.kind, x.2]
theorem frC_len (x : Fr1 × Value) : (frC x).length = 4 := rfl
/-- a slice of frames of the call's own, their payloads new -/
structure FramesAt (w : World) (base : Nat) (v : Value) (l : List (Fr1 × Value)) : Prop where
 own : w.ownsRow base 178 4 v l.length (l.flatMap frC)
 pay : ∀ x ∈ l, Piece w base 5 x.2 (x.1.pay.map u8v)

section
variable {w w' : World} {base : Nat} {v : Value} {l : List (Fr1 × Value)}
theorem FramesAt.nil (w : World) (base : Nat) : FramesAt w base (.slice none 0 0) [] := ⟨World.ownsRow_nil w base _ 4, by simp⟩
theorem ownsRow_keeps {e : TypeId} {C n : Nat} {xs : List Value} (h : w.ownsRow base e C v n xs) (k : Keeps w w') : w'.ownsRow base e C v n xs := by
 refine ⟨h.1, ?_⟩
 rcases h.2 with hn | ⟨g, cap, cur, rfl, hb, hgg, rest⟩
 ·exact .inl hn
 ·exact .inr ⟨g, cap, cur, rfl, hb, by rw [k.block (Array.getElem?_eq_some_iff.1 hgg).1]; exact hgg, rest⟩
theorem FramesAt.keeps (h : FramesAt w base v l) (k : Keeps w w') : FramesAt w' base v l := ⟨ownsRow_keeps h.own k, fun x hx => (h.pay x hx).keeps k⟩
theorem ownsRow_ty {e e' : TypeId} {C n : Nat} {xs : List Value} (h : w.ownsRow base e C v n xs) (hne : e ≠ e') : ∀ x, v.ownBlock = some x → ∀ cs fr, w.heap[x]? ≠ some (.cells cs e' fr) := by
 intro x hx cs fr hc
 rcases h.2 with ⟨rfl, _⟩ | ⟨g, cap, cur, rfl, hb, hgg, rest⟩
 ·simp [Value.ownBlock] at hx
 ·simp [Value.ownBlock] at hx
  subst hx
  rw [hgg] at hc
  simp only [Option.some.injEq, Obj.cells.injEq] at hc
  exact hne hc.2.1
theorem ownsRow_base {e : TypeId} {C n : Nat} {xs : List Value} (h : w.ownsRow base e C v n xs) : ∀ x, v.ownBlock = some x → base ≤ x := by
 intro x hx
 rcases h.2 with ⟨rfl, _⟩ | ⟨g, cap, cur, rfl, hb, hgg, rest⟩
 ·simp [Value.ownBlock] at hx
 ·simp [Value.ownBlock] at hx
  omega
theorem ownsRow_form {e : TypeId} {C n : Nat} {xs : List Value} (h : w.ownsRow base e C v n xs) : ∃ p cap, v = .slice p n cap ∧ n ≤ cap ∧ cap ≤ 9223372036854775807 := by
 rcases h.2 with ⟨rfl, rfl⟩ | ⟨g, cap, cur, rfl, hb, hgg, h1, h2, rest⟩
 ·exact ⟨none, 0, rfl, Nat.le_refl _, by omega⟩
 ·exact ⟨_, cap, rfl, h1, by simpa [maxLen] using h2⟩
theorem ownsRow_lt {e : TypeId} {C n : Nat} {xs : List Value} (h : w.ownsRow base e C v n xs) : ∀ x, v.ownBlock = some x → x < w.heap.size := by
 intro x hx
 rcases h.2 with ⟨rfl, _⟩ | ⟨g, cap, cur, rfl, hb, hgg, rest⟩
 ·simp [Value.ownBlock] at hx
 ·simp [Value.ownBlock] at hx
  subst hx
  exact (Array.getElem?_eq_some_iff.1 hgg).1
/-- behind an append of one frame -/
theorem FramesAt.snoc {v' : Value} {f : Fr1} {pv : Value} (h : FramesAt w base v l) (hp : Piece w base 5 pv (f.pay.map u8v)) (ho : w'.ownsRow base 178 4 v' (l.length + 1) (l.flatMap frC ++ frC (f, pv))) (hg : w.grownBy w' v.ownBlock) : FramesAt w' base v' (l ++ [(f, pv)]) := by
 have hM : Mods (fun x => v.ownBlock = some x) w w' := (Mods.refl _ w).grown hg (fun k hk _ => hk)
 have hty := ownsRow_ty (e' := 5) h.own (by decide)
 refine ⟨by simpa using ho, ?_⟩
 intro x hx
 rcases List.mem_append.1 hx with hx | hx
 ·exact (h.pay x hx).modsT hM hty
 ·simp at hx
  subst hx
  exact hp.modsT hM hty
end

theorem frok : ElemOkS Tryz.prog 173 178 4 48 := elemOkS (z := .agg #[.int .i64 0, .int .i64 0, .int .i64 0, .slice none 0 0]) Tryz.underlying173 (by kernel_rfl) rfl
theorem rowS_lit {w : World} {b C : Nat} {cs : Array Value} {e : TypeId} {l : List Value} (hb : b = w.heap.size) (hl : cs.toList = l) (hC : l.length = C) : RowS (w.alloc (.cells cs e)) C (.slice (some ⟨b, 0, none⟩) 1 1) 1 l := by
 subst hb hl
 refine ⟨by simpa using hC, .inr ⟨w.heap.size, 0, 1, rfl, Nat.le_refl _, by simp [maxLen], fun i x hx => ?_⟩⟩
 rw [Nat.zero_add, cell_alloc_new]
 simpa using hx

/-- frames, a number and an error -/
def RowDid (W : World) (fs : List Fr1) (u : Nat) (n : Int) (e : Ending) (w' : World) : Prop :=
 ∃ v l, e = .returned (.tuple #[v, .int .i64 (u : Int), .int .i64 n]) ∧ FramesAt w' W.heap.size v l ∧ l.map (·.1) = fs ∧ Keeps W w'

theorem piece_sl {w : World} {base : Nat} {e : TypeId} {v : Value} {l : List Value} (h : Piece w base e v l) : ∃ p n cap, v = .slice p n cap := by
 obtain ⟨p, cap, rfl, -⟩ := h.form
 exact ⟨_, _, _, rfl⟩

set_option maxHeartbeats 1000000 in
theorem row_any (v : Value) (l : List UInt8) (w : World) (hr : Row w v (l.map u8v)) (hl : l.length ≤ 1099511627776) : Calls Tryz.prog 158 #[v] w (RowDid w (rowR l).1 (rowR l).2.1 (rowR l).2.2) := by
 obtain ⟨p, cap, rfl, hc1, hc2⟩ := hr.formB
 have HR := Lib.hid hr
 clear hr
 go_enter Tryz.func158, Tryz.ntmps158
 go_wp2_with fail
 go_loopg [2, 3] l.length (fun gk vo uo wr => ∃ (u : Nat) (fl : List (Fr1 × Value)), uo = .int .i64 (u : Int) ∧ FramesAt wr w.heap.size vo fl ∧ Keeps w wr ∧ u ≤ l.length ∧ l.length ≤ u + gk ∧ fl.length ≤ u ∧ (rowR l).1 = fl.map (·.1) ++ (rowN l gk u).1 ∧ (rowR l).2 = (rowN l gk u).2)
 case atStart => exact ⟨0, [], rfl, FramesAt.nil _ _, Keeps.refl _, Nat.zero_le _, by omega, by simp, by simp [rowR], rfl⟩
 case round =>
  obtain ⟨u, fl, rfl, hfl, hK, hu, hgk, hfu, he1, he2⟩ := hrel
  obtain ⟨po, capo, rfl, hpo1, hpo2⟩ := ownsRow_form hfl.own
  have HF := Lib.hid hfl
  have HE := Lib.hid (And.intro he1 he2)
  have HK := Lib.hid hK
  have hsz := hK.size
  clear hfl he1 he2 hK
  by_cases hlt : u < l.length
  ·obtain ⟨k', rfl⟩ : ∃ k', gk = k' + 1 := ⟨gk - 1, by omega⟩
   have HA := Lib.hid (at_any (.slice p l.length cap) l u wr (HR.out.keeps HK.out) (by omega))
   by_cases he : atE l u = 0
   ·have hok := Lib.hid (rowN_ok (k := k') hlt he)
    obtain ⟨hl10, hlen, hl0⟩ := atE_len he
    rw [he] at HA
    clear he
    generalize atF l u = f at *
    obtain ⟨m, hm⟩ := Int.eq_ofNat_of_zero_le hl0
    have HM := Lib.hid hm
    go_wp2_with fail
    refine HA.out.mono ?_
    rintro e w1 ⟨pv, rfl, hpv, hK1⟩
    obtain ⟨pp, np, cp, rfl⟩ := piece_sl hpv
    have HP1 := Lib.hid (hpv.lower hsz)
    have HF1 := Lib.hid (HF.out.keeps hK1)
    have HK1 := Lib.hid (HK.out.trans hK1)
    have hsz1 := HK1.out.size
    clear hpv hK1 HF HK
    obtain ⟨fa, fle, fk, fp⟩ := f
    unfold frV
    simp only at hm hl10 hlen hl0
    subst hm
    clear HM
    go_upto_region 5 with fail
    generalize hWa : World.alloc w1 _ = wa
    have hFb : Blk wa w1.heap.size 178 #[.int .i64 fa, .int .i64 (m : Int), .int .i64 fk, .slice pp np cp] := by rw [← hWa]; exact Blk.new _ _ _ rfl
    have hKa : Keeps w1 wa := by rw [← hWa]; exact (Keeps.refl _).alloc _
    have HFa := Lib.hid (HF1.out.keeps hKa)
    have HPa := Lib.hid (HP1.out.keeps hKa)
    have HKa := Lib.hid (HK1.out.trans hKa)
    have hsza := HKa.out.size
    have hc0 : wa.cell? ⟨w1.heap.size, 0, none⟩ = some (.int .i64 fa) := by rw [hFb.cell]; rfl
    have hc1' : wa.cell? ⟨w1.heap.size, 1, none⟩ = some (.int .i64 (m : Int)) := by rw [hFb.cell]; rfl
    have hc2' : wa.cell? ⟨w1.heap.size, 2, none⟩ = some (.int .i64 fk) := by rw [hFb.cell]; rfl
    have hc3 : wa.cell? ⟨w1.heap.size, 3, none⟩ = some (.slice pp np cp) := by rw [hFb.cell]; rfl
    have HFb := Lib.hid hFb
    have hne : Value.ownBlock (.slice po fl.length capo) ≠ some w1.heap.size := fun h => by
     exact absurd (ownsRow_lt HF1.out.own _ h) (by omega)
    have HNe := Lib.hid hne
    clear hWa hFb hKa HF1 HP1 HK1 hne
    go_wp2_with (at_builtin; refine wpList_apps (base := w.heap.size) frok (by decide) rfl _ _ rfl (.slice po fl.length capo) (.slice (some ⟨wa.heap.size, 0, none⟩) 1 1) fl.length 1 (fl.flatMap frC) [.int .i64 fa, .int .i64 (m : Int), .int .i64 fk, .slice pp np cp] rfl rfl (ownsRow_keeps HFa.out.own ((Keeps.refl _).alloc _)) (rowS_lit rfl rfl rfl) (by simp [Value.oneCell']) (by omega) (by decide) (by simp; omega) ?_; intro v' w2 ho2 hg2 hf2; have hm2 : w2.cell? ⟨w1.heap.size, 1, none⟩ = some (.int .i64 (m : Int)) := by { have hb2 := (HFb.out.alloc _).grown hg2 HNe.out; rw [hb2.cell]; rfl })
    go_roundg k'
    case rel =>
     refine ⟨u + m, fl ++ [(⟨fa, m, fk, fp⟩, .slice pp np cp)], by simp, (HFa.out.keeps ((Keeps.refl _).alloc _)).snoc (f := ⟨fa, m, fk, fp⟩) (pv := .slice pp np cp) (HPa.out.keeps ((Keeps.refl _).alloc _)) ho2 hg2, (HKa.out.alloc _).grown hg2 (ownsRow_base HFa.out.own), by omega, by omega, by simp; omega, ?_, ?_⟩
     ·rw [HE.out.1, hok.out]; simp
     ·rw [HE.out.2, hok.out]; simp
    case measure => omega
   ·have herr := rowN_err (k := k') hlt he
    have hne : (atE l u != 0) = true := by simp [he]
    have HX : Hid (∀ w', Keeps wr w' → RowDid w (rowR l).1 (rowR l).2.1 (rowR l).2.2 (.returned (.tuple #[.slice po fl.length capo, .int .i64 (u : Int), .int .i64 (atE l u)])) w') := Lib.hid (fun w' k => by
     refine ⟨_, fl, ?_, HF.out.keeps k, ?_, HK.out.trans k⟩
     ·rw [HE.out.2, herr]
     ·rw [HE.out.1, herr]; simp)
    clear herr he
    go_wp2_with fail
    refine HA.out.mono ?_
    rintro e w1 ⟨pv, rfl, hpv, hK1⟩
    obtain ⟨pp, np, cp, rfl⟩ := piece_sl hpv
    clear hpv
    generalize atE l u = er at *
    unfold frV
    go_wp2_with fail
    go_ret3
    exact HX.out _ (hK1.alloc _)
  ·have HX : Hid (RowDid w (rowR l).1 (rowR l).2.1 (rowR l).2.2 (.returned (.tuple #[.slice po fl.length capo, .int .i64 (u : Int), .int .i64 0])) wr) := Lib.hid (by
    refine ⟨_, fl, ?_, HF.out, ?_, HK.out⟩
    ·rw [HE.out.2, rowN_end hlt]
    ·rw [HE.out.1, rowN_end hlt]; simp)
   go_wp2_with fail
   go_ret3
   exact HX.out
end Frm
end Go.Proofs.YtcleakjjefmmbaaGreat

/- frame.Scan. -/
namespace Go.Proofs.YtcleakjjefmmbaaGreat
open Go.RowKit
namespace Frm
open Oct

section
variable {w w' : World} {base : Nat} {v : Value}
theorem ownsRow_mods {e : TypeId} {C n : Nat} {xs : List Value} {S : Nat → Prop} (h : w.ownsRow base e C v n xs) (k : Mods S w w') (hn : ∀ x, v.ownBlock = some x → ¬ S x) : w'.ownsRow base e C v n xs := by
 refine ⟨h.1, ?_⟩
 rcases h.2 with h0 | ⟨g, cap, cur, rfl, hb, hgg, rest⟩
 ·exact .inl h0
 ·exact .inr ⟨g, cap, cur, rfl, hb, k.heap hgg (hn g rfl), rest⟩
theorem FramesAt.mods {l : List (Fr1 × Value)} {S : Nat → Prop} (h : FramesAt w base v l) (k : Mods S w w') (hn : ∀ x, S x → ∀ cs fr, w.heap[x]? ≠ some (.cells cs 5 fr)) (hn' : ∀ x, S x → ∀ cs fr, w.heap[x]? ≠ some (.cells cs 178 fr)) : FramesAt w' base v l := by
 refine ⟨ownsRow_mods h.own k (fun x hx hs => ?_), fun x hx => (h.pay x hx).modsT k hn⟩
 rcases h.own.2 with ⟨rfl, _⟩ | ⟨g, cap, cur, rfl, hb, hgg, rest⟩
 ·simp [Value.ownBlock] at hx
 ·simp [Value.ownBlock] at hx
  subst hx
  exact hn' g hs _ _ hgg
end

theorem alloc_size (w : World) (o : Obj) : (w.alloc o).heap.size = w.heap.size + 1 := by show (w.heap.push o).size = _; simp

theorem ownsRow_ne {w : World} {base C n g : Nat} {e t : TypeId} {xs : List Value} {v : Value} {cs : Array Value} (h : w.ownsRow base e C v n xs) (hb : Blk w g t cs) (hn : e ≠ t) : v.ownBlock ≠ some g := fun hx => ownsRow_ty h hn g hx _ _ hb

end Frm
end Go.Proofs.YtcleakjjefmmbaaGreat

/- Several texts in one: OctetRaw, OctetText. -/
import Derived.Test.YtcleakjjefmmbaaGreatK02
import Derived.StillTailTactics
/- The source's Raw and Text. -/
namespace Go.Proofs.YtcleakjjefmmbaaGreat
open Go.RowKit
namespace Oct

def rE (n a : Nat) (er k : Int) : Int := if er ≠ 0 then er else if k < 0 then 1 else if (n : Int) - a < k then 2 else 0
def rA (n a : Nat) (er k : Int) : Nat := if rE n a er k = 0 then a + k.toNat else a
def rL (l : List UInt8) (a : Nat) (er k : Int) : List UInt8 := if rE l.length a er k = 0 then (l.drop a).take k.toNat else []

/-- the call gives bytes of its own, and changes the source's block alone -/
def RawDid (W : World) (g : Nat) (v : Value) (l : List UInt8) (a : Nat) (er : Int) (m : List UInt8) (e : Ending) (w' : World) : Prop :=
 ∃ b, e = .returned b ∧ Own w' W.heap.size 5 b (m.map u8v) ∧ SrcAt w' g v l a er ∧ Mods (· = g) W w'

set_option maxRecDepth 100000 in
set_option maxHeartbeats 1000000 in
theorem srcRaw_any (g : Nat) (v : Value) (l : List UInt8) (a : Nat) (er k : Int) (w : World) (h : SrcAt w g v l a er) :
  Calls Tryz.prog 249 #[.pointer (some ⟨g, 0, none⟩), .int .i64 k] w (RawDid w g v l (rA l.length a er k) (rE l.length a er k) (rL l a er k)) := by
 by_cases he : er = 0
 ·subst he
  have hle := h.le
  have hlen := h.len
  by_cases h0 : k < 0
  ·have hE : rE l.length a 0 k = 1 := by simp [rE, h0]
   have H : Hid (rE l.length a 0 k = 1 ∧ rA l.length a 0 k = a ∧ rL l a 0 k = []) := Lib.hid ⟨hE, by simp [rA, hE], by simp [rL, hE]⟩
   have HF := Lib.hid (fail_any g v l a 0 true 1 w h)
   rw [show failB true 1 0 = true from rfl, show failE true 1 0 = 1 from rfl] at HF
   clear h hE
   go_enter Tryz.func249, Tryz.ntmps249
   go_wp2_with fail
   refine HF.out.mono ?_
   rintro e w1 ⟨rfl, hS1, hM1⟩
   go_wp2_with fail
   go_ret
   exact ⟨_, rfl, by rw [H.out.2.2]; exact Own.nil _ _ _, by rw [H.out.1, H.out.2.1]; exact hS1, hM1⟩
  ·have hd0 : decide (k < 0) = false := by simp; omega
   have HF := Lib.hid (fail_any g v l a 0 false 1 w h)
   rw [show failB false 1 0 = false from rfl, show failE false 1 0 = 0 from rfl] at HF
   by_cases hlt : (l.length : Int) - a < k
   ·have hE : rE l.length a 0 k = 2 := by simp [rE, h0, hlt]
    have H : Hid (rE l.length a 0 k = 2 ∧ rA l.length a 0 k = a ∧ rL l a 0 k = []) := Lib.hid ⟨hE, by simp [rA, hE], by simp [rL, hE]⟩
    clear h hE
    go_enter Tryz.func249, Tryz.ntmps249
    go_wp2_with fail
    refine HF.out.mono ?_
    rintro e w1 ⟨rfl, hS1, hM1⟩
    have HL := Lib.hid (left_any g v l a 0 w1 hS1)
    go_wp2_with fail
    refine HL.out.mono ?_
    rintro e w2 ⟨rfl, hK2⟩
    have HF2 := Lib.hid (fail_any g v l a 0 true 2 w2 (hS1.keeps hK2))
    rw [show failB true 2 0 = true from rfl, show failE true 2 0 = 2 from rfl] at HF2
    clear hS1 HL
    go_wp2_with fail
    refine HF2.out.mono ?_
    rintro e w3 ⟨rfl, hS3, hM3⟩
    go_wp2_with fail
    go_ret
    exact ⟨_, rfl, by rw [H.out.2.2]; exact Own.nil _ _ _, by rw [H.out.1, H.out.2.1]; exact hS3, (hM1.then hK2).trans hM3 fun _ h _ => h⟩
   ·have hE : rE l.length a 0 k = 0 := by simp [rE, h0, hlt]
    obtain ⟨n, rfl⟩ := Int.eq_ofNat_of_zero_le (show 0 ≤ k by omega)
    have H : Hid (rE l.length a 0 n = 0 ∧ rA l.length a 0 n = a + n ∧ rL l a 0 n = (l.drop a).take n) := Lib.hid ⟨hE, by simp [rA, hE], by simp [rL, hE]⟩
    have hd : decide ((l.length : Int) - a < (n : Int)) = false := by simp; omega
    clear h hE
    go_enter Tryz.func249, Tryz.ntmps249
    go_wp2_with fail
    refine HF.out.mono ?_
    rintro e w1 ⟨rfl, hS1, hM1⟩
    have HL := Lib.hid (left_any g v l a 0 w1 hS1)
    go_wp2_with fail
    refine HL.out.mono ?_
    rintro e w2 ⟨rfl, hK2⟩
    have HF2 := Lib.hid (fail_any g v l a 0 false 2 w2 (hS1.keeps hK2))
    rw [show failB false 2 0 = false from rfl, show failE false 2 0 = 0 from rfl] at HF2
    clear hS1 HL
    go_wp2_with fail
    refine HF2.out.mono ?_
    rintro e w3 ⟨rfl, hS3, hM3⟩
    obtain ⟨hc0, hc1, hc2⟩ := hS3.cells
    obtain ⟨hf0, hf1, hf2⟩ := hS3.free
    obtain ⟨p, cap, rfl, hcap1, hcap2⟩ := hS3.own.row.formB
    have HRow := Lib.hid hS3.own.row
    have HS3 := Lib.hid hS3
    clear hS3
    have hM03 := Lib.hid ((hM1.then hK2).trans hM3 fun _ h _ => h)
    clear hM1 hK2 hM3
    have EA := Lib.hid (show ∀ w, (Instr.slice 53 (.slice p l.length cap) (some (.int .i64 (a : Int))) (some (.int .i64 ((a : Int) + (n : Int)))) none).run Tryz.prog w = .ok (cutv p a (a + n) cap) w from fun w => by
     rw [show ((a : Int) + (n : Int)) = ((a + n : Nat) : Int) from by omega]
     exact run_cut_lh w Tryz.underlying53 s5 p l.length cap a (a + n) (by omega) (by omega))
    go_wp2_with fail
    have ea := EA.out
    generalize hW : World.setCell w3 _ _ = w4
    have hS4 : SrcAt w4 g (.slice p l.length cap) l (a + n) 0 := by rw [← hW]; simpa using HS3.out.setA (a + n) (by omega)
    have HM4 : Hid (Mods (· = g) w w4) := Lib.hid (by rw [← hW]; exact Mods.setCell (p := ⟨g, 1, none⟩) hM03.out (fun _ => rfl) _)
    clear hW HS3 HRow hM03 hc0 hc1 hc2 hf0 hf1 hf2
    obtain ⟨hc0, hc1, hc2⟩ := hS4.cells
    have HS4 := Lib.hid hS4
    clear hS4
    rw [show (((a + n : Nat)) : Int) = (a : Int) + n from by omega] at hc1
    have hwa : IntKind.i64.wrap (a : Int) = a := IntWalk.i64_in _ (by omega)
    go_still_tail 15, (by kernel_rfl)
    change wpList _ _ _ _ _ (World.drew _)
    clear hwa ea
    have HCl := Lib.hid (clone_any (cutv p a (a + n) cap) ((l.drop a).take n) w4.drew (by
     have := (HS4.out.keeps ((Keeps.refl _).drew)).own.row.cut (lo := a) (hi := a + n) (by omega) (by simp; omega)
     rw [show a + n - a = n from by omega] at this
     simpa [List.map_take, List.map_drop] using this) (by simp; omega))
    go_wp2_with fail
    refine HCl.out.mono ?_
    rintro e w5 ⟨b, rfl, hown5, hK5⟩
    go_wp2_with fail
    go_ret
    have hM5 := (HM4.out.drew).then hK5
    exact ⟨_, rfl, by rw [H.out.2.2]; exact hown5.lower HM4.out.drew.size, by rw [H.out.1, H.out.2.1]; exact (HS4.out.keeps ((Keeps.refl _).drew)).keeps hK5, hM5⟩
 ·have hE : rE l.length a er k = er := by simp [rE, he]
  have H : Hid (rE l.length a er k = er ∧ rA l.length a er k = a ∧ rL l a er k = []) := Lib.hid ⟨hE, by simp [rA, hE, he], by simp [rL, hE, he]⟩
  have HF := Lib.hid (fail_any g v l a er (decide (k < 0)) 1 w h)
  rw [show failB (decide (k < 0)) 1 er = true from by simp [failB, he], show failE (decide (k < 0)) 1 er = er from by simp [failE, he]] at HF
  clear h hE he
  go_enter Tryz.func249, Tryz.ntmps249
  go_wp2_with fail
  refine HF.out.mono ?_
  rintro e w1 ⟨rfl, hS1, hM1⟩
  go_wp2_with fail
  go_ret
  exact ⟨_, rfl, by rw [H.out.2.2]; exact Own.nil _ _ _, by rw [H.out.1, H.out.2.1]; exact hS1, hM1⟩
end Oct
end Go.Proofs.YtcleakjjefmmbaaGreat

/- The source's Text. -/
namespace Go.Proofs.YtcleakjjefmmbaaGreat
open Go.RowKit
namespace Oct

def tE (l : List UInt8) (a : Nat) (er most : Int) : Int :=
 if uE l.length a er 4 ≠ 0 then uE l.length a er 4 else if most < 0 ∨ most < (getV l a 4 : Int) then 4 else if (l.length : Int) - a - 4 < (getV l a 4 : Int) then 2 else 0
def tA (l : List UInt8) (a : Nat) (er most : Int) : Nat := if tE l a er most = 0 then a + 4 + getV l a 4 else a
def tL (l : List UInt8) (a : Nat) (er most : Int) : List UInt8 := if tE l a er most = 0 then (l.drop (a + 4)).take (getV l a 4) else []

theorem getV4_lt {l : List UInt8} {a : Int} : getV l a 4 < 4294967296 := by
 unfold getV
 split
 ·have := valOf_lt' (l := (l.drop a.toNat).take (4 : Int).toNat) (j := 4) (by rw [List.length_take]; exact Nat.min_le_left _ _)
  simpa using this
 ·omega

set_option maxRecDepth 100000 in
set_option maxHeartbeats 1000000 in
theorem srcText_any (g : Nat) (v : Value) (l : List UInt8) (a : Nat) (er most : Int) (w : World) (h : SrcAt w g v l a er) (hm1 : -9223372036854775808 ≤ most) (hm2 : most ≤ 9223372036854775807) :
  Calls Tryz.prog 203 #[.pointer (some ⟨g, 0, none⟩), .int .i64 most] w (SrcDid w g v l (tA l a er most) (tE l a er most) (.returned (.string (bstr (tL l a er most))))) := by
 have HU := Lib.hid (srcU_any g v l a er 4 w h)
 obtain ⟨hc0, hc1, hc2⟩ := h.cells
 have hle := h.le
 have hlen := h.len
 by_cases hu : uE l.length a er 4 = 0
 ·have hub : uA l.length a er 4 = a + 4 ∧ uV l a er 4 = getV l a 4 := ⟨by simp [uA, hu], by simp [uV, hu]⟩
  have h4 : (4 : Int) ≤ l.length - a := by
   unfold uE at hu
   split at hu
   ·omega
   ·split at hu
    ·omega
    ·split at hu <;> omega
  have hN := getV4_lt (l := l) (a := (a : Int))
  rw [hu, hub.1, hub.2] at HU
  by_cases hbig : most < 0 ∨ most < (getV l a 4 : Int)
  ·have hE : tE l a er most = 4 := by simp [tE, hu, hbig]
   have H : Hid (tE l a er most = 4 ∧ tA l a er most = a ∧ tL l a er most = []) := Lib.hid ⟨hE, by simp [tA, hE], by simp [tL, hE]⟩
   clear h hE hub hu
   generalize getV l a 4 = N at *
   by_cases hneg : most < 0
   all_goals
    first | (have hbig' : most < (N : Int) := by omega) | skip
    clear hbig
    go_enter Tryz.func203, Tryz.ntmps203
    go_wp2_with fail
    refine HU.out.mono ?_
    rintro e w1 ⟨rfl, hS1, hM1⟩
    have HF := Lib.hid (fail_any g v l (a + 4) 0 true 4 w1 hS1)
    rw [show failB true 4 0 = true from rfl, show failE true 4 0 = 4 from rfl] at HF
    clear hS1 hc0 hc1 hc2
    go_wp2_with fail
    refine HF.out.mono ?_
    rintro e w2 ⟨rfl, hS2, hM2⟩
    obtain ⟨hc0, hc1, hc2⟩ := hS2.cells
    obtain ⟨hf0, hf1, hf2⟩ := hS2.free
    have HS2 := Lib.hid hS2
    clear hS2
    go_wp2_with fail
    go_ret
    refine ⟨by rw [H.out.2.2]; rfl, by rw [H.out.1, H.out.2.1]; exact HS2.out.setA a hle, ?_⟩
    exact Mods.setCell (p := ⟨g, 1, none⟩) (hM1.trans hM2 fun _ h _ => h) (fun _ => rfl) _
  ·have hpos : 0 ≤ most := by omega
   have hN2 : (getV l a 4 : Int) ≤ most := by omega
   by_cases hshort : (l.length : Int) - a - 4 < (getV l a 4 : Int)
   ·have hE : tE l a er most = 2 := by simp [tE, hu, hbig, hshort]
    have H : Hid (tE l a er most = 2 ∧ tA l a er most = a ∧ tL l a er most = []) := Lib.hid ⟨hE, by simp [tA, hE], by simp [tL, hE]⟩
    clear h hE hub hu hbig
    generalize getV l a 4 = N at *
    have hd1 : decide (most < 0) = false := by simp; omega
    have hd2 : decide (most < (N : Int)) = false := by simp; omega
    have hd3 : (l.length : Int) - (a + 4) < N := by omega
    clear hshort
    go_enter Tryz.func203, Tryz.ntmps203
    go_wp2_with fail
    refine HU.out.mono ?_
    rintro e w1 ⟨rfl, hS1, hM1⟩
    have HF := Lib.hid (fail_any g v l (a + 4) 0 false 4 w1 hS1)
    rw [show failB false 4 0 = false from rfl, show failE false 4 0 = 0 from rfl] at HF
    clear hS1 hc0 hc1 hc2
    go_wp2_with fail
    refine HF.out.mono ?_
    rintro e w2 ⟨rfl, hS2, hM2⟩
    have HL := Lib.hid (left_any g v l (a + 4) 0 w2 hS2)
    rw [show ((a + 4 : Nat) : Int) = (a : Int) + 4 from rfl] at HL
    go_wp2_with fail
    refine HL.out.mono ?_
    rintro e w3 ⟨rfl, hK3⟩
    have HF2 := Lib.hid (fail_any g v l (a + 4) 0 true 2 w3 (hS2.keeps hK3))
    rw [show failB true 2 0 = true from rfl, show failE true 2 0 = 2 from rfl] at HF2
    clear hS2 HL
    go_wp2_with fail
    refine HF2.out.mono ?_
    rintro e w4 ⟨rfl, hS4, hM4⟩
    obtain ⟨hc0, hc1, hc2⟩ := hS4.cells
    obtain ⟨hf0, hf1, hf2⟩ := hS4.free
    have HS4 := Lib.hid hS4
    clear hS4
    go_wp2_with fail
    go_ret
    refine ⟨by rw [H.out.2.2]; rfl, by rw [H.out.1, H.out.2.1]; exact HS4.out.setA a hle, ?_⟩
    exact Mods.setCell (p := ⟨g, 1, none⟩) (((hM1.trans hM2 fun _ h _ => h).then hK3).trans hM4 fun _ h _ => h) (fun _ => rfl) _
   ·have hE : tE l a er most = 0 := by simp [tE, hu, hbig, hshort]
    have H : Hid (tE l a er most = 0 ∧ tA l a er most = a + 4 + getV l a 4 ∧ tL l a er most = (l.drop (a + 4)).take (getV l a 4)) := Lib.hid ⟨hE, by simp [tA, hE], by simp [tL, hE]⟩
    clear h hE hub hu hbig
    generalize getV l a 4 = N at *
    have hd1 : decide (most < 0) = false := by simp; omega
    have hd2 : decide (most < (N : Int)) = false := by simp; omega
    have hd3 : decide ((l.length : Int) - (a + 4) < N) = false := by simp; omega
    have HR : Hid (rE l.length (a + 4) 0 N = 0 ∧ rA l.length (a + 4) 0 N = a + 4 + N ∧ rL l (a + 4) 0 N = (l.drop (a + 4)).take N) := Lib.hid (by
     have h0 : rE l.length (a + 4) 0 N = 0 := by simp [rE]; omega
     exact ⟨h0, by simp [rA, h0], by simp [rL, h0]⟩)
    clear hshort
    go_enter Tryz.func203, Tryz.ntmps203
    go_wp2_with fail
    refine HU.out.mono ?_
    rintro e w1 ⟨rfl, hS1, hM1⟩
    have HF := Lib.hid (fail_any g v l (a + 4) 0 false 4 w1 hS1)
    rw [show failB false 4 0 = false from rfl, show failE false 4 0 = 0 from rfl] at HF
    clear hS1 hc0 hc1 hc2
    go_wp2_with fail
    refine HF.out.mono ?_
    rintro e w2 ⟨rfl, hS2, hM2⟩
    have HL := Lib.hid (left_any g v l (a + 4) 0 w2 hS2)
    rw [show ((a + 4 : Nat) : Int) = (a : Int) + 4 from rfl] at HL
    go_wp2_with fail
    refine HL.out.mono ?_
    rintro e w3 ⟨rfl, hK3⟩
    have HF2 := Lib.hid (fail_any g v l (a + 4) 0 false 2 w3 (hS2.keeps hK3))
    rw [show failB false 2 0 = false from rfl, show failE false 2 0 = 0 from rfl] at HF2
    clear hS2 HL
    go_wp2_with fail
    refine HF2.out.mono ?_
    rintro e w4 ⟨rfl, hS4, hM4⟩
    have HRaw := Lib.hid (srcRaw_any g v l (a + 4) 0 N w4 hS4)
    rw [HR.out.1, HR.out.2.1, HR.out.2.2] at HRaw
    clear hS4
    go_wp2_with fail
    refine HRaw.out.mono ?_
    rintro e w5 ⟨b, rfl, hown5, hS5, hM5⟩
    have hst := hown5.row.str (P := Tryz.prog) Tryz.underlying53 Tryz.underlying5 str9
    clear hown5
    go_wp2_with fail
    go_ret
    refine ⟨by rw [H.out.2.2]; rfl, by rw [H.out.1, H.out.2.1]; exact hS5, ?_⟩
    exact (((hM1.trans hM2 fun _ h _ => h).then hK3).trans hM4 fun _ h _ => h).trans hM5 fun _ h _ => h
 ·have hE : tE l a er most = uE l.length a er 4 := by simp [tE, hu]
  have H : Hid (tE l a er most = uE l.length a er 4 ∧ tA l a er most = a ∧ tL l a er most = []) := Lib.hid ⟨hE, by simp [tA, hE, hu], by simp [tL, hE, hu]⟩
  have hub : uA l.length a er 4 = a ∧ uV l a er 4 = 0 := ⟨by simp [uA, hu], by simp [uV, hu]⟩
  rw [hub.1, hub.2] at HU
  clear h hE hub
  generalize uE l.length a er 4 = e1 at *
  have HB : Hid (∀ b ne, failB b ne e1 = true ∧ failE b ne e1 = e1) := Lib.hid fun b ne => ⟨by simp [failB, hu], by simp [failE, hu]⟩
  clear hu
  have hcases : most < 0 ∨ 0 ≤ most := by omega
  rcases hcases with hneg | hpos
  ·go_enter Tryz.func203, Tryz.ntmps203
   go_wp2_with fail
   refine HU.out.mono ?_
   rintro e w1 ⟨rfl, hS1, hM1⟩
   have HF := Lib.hid (fail_any g v l a e1 true 4 w1 hS1)
   rw [(HB.out true 4).1, (HB.out true 4).2] at HF
   clear hS1 hc0 hc1 hc2
   go_wp2_with fail
   refine HF.out.mono ?_
   rintro e w2 ⟨rfl, hS2, hM2⟩
   obtain ⟨hc0, hc1, hc2⟩ := hS2.cells
   obtain ⟨hf0, hf1, hf2⟩ := hS2.free
   have HS2 := Lib.hid hS2
   clear hS2
   go_wp2_with fail
   go_ret
   refine ⟨by rw [H.out.2.2]; rfl, by rw [H.out.1, H.out.2.1]; exact HS2.out.setA a hle, ?_⟩
   exact Mods.setCell (p := ⟨g, 1, none⟩) (hM1.trans hM2 fun _ h _ => h) (fun _ => rfl) _
  ·have hd1 : decide (most < 0) = false := by simp; omega
   go_enter Tryz.func203, Tryz.ntmps203
   go_wp2_with fail
   refine HU.out.mono ?_
   rintro e w1 ⟨rfl, hS1, hM1⟩
   have HF := Lib.hid (fail_any g v l a e1 false 4 w1 hS1)
   rw [(HB.out false 4).1, (HB.out false 4).2] at HF
   clear hS1 hc0 hc1 hc2
   go_wp2_with fail
   refine HF.out.mono ?_
   rintro e w2 ⟨rfl, hS2, hM2⟩
   obtain ⟨hc0, hc1, hc2⟩ := hS2.cells
   obtain ⟨hf0, hf1, hf2⟩ := hS2.free
   have HS2 := Lib.hid hS2
   clear hS2
   go_wp2_with fail
   go_ret
   refine ⟨by rw [H.out.2.2]; rfl, by rw [H.out.1, H.out.2.1]; exact HS2.out.setA a hle, ?_⟩
   exact Mods.setCell (p := ⟨g, 1, none⟩) (hM1.trans hM2 fun _ h _ => h) (fun _ => rfl) _
end Oct
end Go.Proofs.YtcleakjjefmmbaaGreat

/- Several texts in one: FrameWrap, FrameRead. -/
import Derived.Test.YtcleakjjefmmbaaGreatK00
import Derived.Test.YtcleakjjefmmbaaGreatK11
import Derived.Test.YtcleakjjefmmbaaGreatK06
import Derived.Deep.DeepCutAuto
import Derived.Deep.LoopGhost
/- frame.Veil and Wrap, and the reference's, compute the plain ones. -/
namespace Go.Proofs.YtcleakjjefmmbaaGreat
open Go.RowKit
namespace Frm
open Oct

theorem str_at' {w : World} {v : Value} {l : List UInt8} (h : Row w v (l.map u8v)) : (convert 53 9 v).run Tryz.prog w = .ok (.string (bstr l)) w := h.str Tryz.underlying53 Tryz.underlying5 str9
theorem veil_take {l : List UInt8} {j : Nat} (h : j < l.length) : veil (l.take (j + 1)) = veil (l.take j) ++ veilB l[j] := by
 rw [List.take_succ_eq_append_getElem h, veil_append]
 simp [veil]
theorem veilB_eq {c : UInt8} (h : c = 80 ∨ c = 81) : (veilB c).map u8v = [.int .u8 81, .int .u8 ((c.toNat : Int) - 80)] := by
 rcases h with rfl | rfl <;> rfl
theorem veilB_ne {c : UInt8} (h : ¬ (c = 80 ∨ c = 81)) : (veilB c).map u8v = [.int .u8 (c.toNat : Int)] := by
 unfold veilB; rw [if_neg h]; rfl
theorem row_two {w : World} {b : Nat} {x y : Value} {e : TypeId} (hb : b = w.heap.size) : Row (w.alloc (.cells #[x, y] e)) (.slice (some ⟨b, 0, none⟩) 2 2) [x, y] := row_alloc hb rfl rfl (by decide)

set_option maxHeartbeats 1000000 in
theorem veil_any (v : Value) (l : List UInt8) (w : World) (hr : Row w v (l.map u8v)) (hl : l.length ≤ 17592186044416) : Calls Tryz.prog 185 #[v] w (RetS w (veil l)) := by
 have hcells : 0 < l.length → ∃ b off cap, v = .slice (some ⟨b, off, none⟩) l.length cap ∧ Hid (∀ i x, l[i]? = some x → w.cell? ⟨b, off + i, none⟩ = some (.int .u8 (x.toNat : Int))) := fun h => by
  obtain ⟨b, off, cap, rfl, -, -, hh⟩ := hr.bytesAt h
  exact ⟨b, off, cap, rfl, hh⟩
 obtain ⟨p, cap, rfl, hc1, hc2⟩ := hr.formB
 have HCells := Lib.hid hcells
 clear hr hcells
 go_enter Tryz.func185, Tryz.ntmps185
 go_wp2
 go_loopw [3, 8] (fun o i wr => ∃ j : Nat, j ≤ l.length ∧ i = .int .i64 j ∧ Own wr w.heap.size 5 o ((veil (l.take j)).map u8v) ∧ Keeps w wr) (fun _ i _ => l.length - (intOf i).toNat)
 case atStart => exact ⟨0, Nat.zero_le _, rfl, by simpa [veil] using Own.nil _ _ _, Keeps.refl _⟩
 case round =>
  obtain ⟨j, hj, rfl, hown, hK⟩ := hrel
  by_cases hlt : j < l.length
  ·obtain ⟨b, off, cap', hv, HC⟩ := HCells.out (by omega)
   simp only [Value.slice.injEq] at hv
   obtain ⟨rfl, -, rfl⟩ := hv
   have hcell : wr.cell? ⟨b, off + j, none⟩ = some (.int .u8 (l[j].toNat : Int)) := keep1 hK (HC.out j _ (by simp [hlt]))
   have HT := Lib.hid (veil_take hlt)
   have hlen : (veil (l.take j)).length ≤ 35184372088832 := by have := (veil_len (l.take j)).2; have h2 := List.length_take_le j l; omega
   generalize l[j] = c at *
   have HO := Lib.hid hown
   have hsz := hK.size
   have hcl := c.toNat_lt
   clear hown
   by_cases hs : c = 80 ∨ c = 81
   ·have HV := Lib.hid (veilB_eq hs)
    have hcc : ((c.toNat : Int) == 80) = true ∨ (((c.toNat : Int) == 80) = false ∧ ((c.toNat : Int) == 81) = true) := by
     rcases hs with h | h
     ·left; subst h; rfl
     ·right; subst h; exact ⟨rfl, rfl⟩
    have hb80 : 80 ≤ (c.toNat : Int) := by rcases hs with h | h <;> subst h <;> decide
    clear hs
    rcases hcc with e0 | ⟨e0, e1⟩
    all_goals
     go_wp2_with (at_builtin; refine wpList_app1 (base := w.heap.size) u8ok rfl _ _ rfl u3 (.slice (some ⟨wr.heap.size, 0, none⟩) 2 2) ((veil (l.take j)).map u8v) [.int .u8 81, .int .u8 ((c.toNat : Int) - 80)] rfl rfl (HO.out.alloc _) (row_two rfl) (by simp [Value.oneCell']) (by simp; omega) (by omega) (by simp; omega) ?_; intro v' w2 ho2 hg2 hf2)
     go_roundw
     case rel => exact ⟨j + 1, by omega, by go_num, by rw [HT.out, List.map_append, HV.out]; exact ho2, (hK.alloc _).grown hg2 HO.out.base⟩
     case measure => simp [intOf] <;> omega
   ·have HV := Lib.hid (veilB_ne hs)
    have e0 : ((c.toNat : Int) == 80) = false := by
     have h1 : ¬ c = 80 := fun h => hs (.inl h)
     have h2 : c.toNat ≠ 80 := fun h => h1 (UInt8.toNat_inj.1 h)
     rw [beq_eq_false_iff_ne]; omega
    have e1 : ((c.toNat : Int) == 81) = false := by
     have h1 : ¬ c = 81 := fun h => hs (.inr h)
     have h2 : c.toNat ≠ 81 := fun h => h1 (UInt8.toNat_inj.1 h)
     rw [beq_eq_false_iff_ne]; omega
    clear hs
    go_wp2_with (at_builtin; refine wpList_app1 (base := w.heap.size) u8ok rfl _ _ rfl u3 (.slice (some ⟨wr.heap.size, 0, none⟩) 1 1) ((veil (l.take j)).map u8v) [.int .u8 (c.toNat : Int)] rfl rfl (HO.out.alloc _) (row_one rfl) (by simp [Value.oneCell']) (by simp; omega) (by omega) (by simp; omega) ?_; intro v' w2 ho2 hg2 hf2)
    go_roundw
    case rel => exact ⟨j + 1, by omega, by go_num, by rw [HT.out, List.map_append, HV.out]; exact ho2, (hK.alloc _).grown hg2 HO.out.base⟩
    case measure => simp [intOf] <;> omega
  ·obtain rfl : j = l.length := by omega
   rw [List.take_length] at hown
   have HO := Lib.hid hown
   clear hown
   go_wp2
   go_ret
   exact ⟨_, rfl, HO.out, hK⟩

theorem sum_any (v1 v2 : Value) (a p : List UInt8) (w : World) (h1 : Row w v1 (a.map u8v)) (h2 : Row w v2 (p.map u8v)) : Calls Tryz.prog 182 #[v1, v2] w fun e w' => e = .returned (.int .u32 (Crc.more 0 (a ++ p) : Nat)) ∧ Keeps w w' := by
 have HO := Lib.hid (Crc.of_any v1 a w h1)
 have HA := Lib.hid (Crc.more_append 0 a p)
 have hlt := Crc.more_lt 0 a
 have HM := Lib.hid (fun w' (k : Keeps w w') => Crc.more_any (Crc.more 0 a) hlt v2 p w' (h2.keeps k))
 rw [HA.out] at HM
 clear h1 h2
 generalize Crc.more 0 a = m at *
 go_enter Tryz.func182, Tryz.ntmps182
 go_wp2_with fail
 refine HO.out.mono ?_
 rintro e w1 ⟨rfl, hK1⟩
 go_wp2_with fail
 refine (HM.out _ hK1).mono ?_
 rintro e w2 ⟨rfl, hK2⟩
 go_wp2_with fail
 go_ret
 exact ⟨rfl, hK1.trans hK2⟩

/-- a sink of the call's own -/
structure Sole (W w : World) (g : Nat) (vs : Value) (a : List UInt8) : Prop where
 sink : SinkAt w g vs a
 base : ∀ x, Fr g vs x → W.heap.size ≤ x
 keeps : Keeps W w
theorem Sole.kept {W w w' : World} {g : Nat} {vs : Value} {a : List UInt8} (h : Sole W w g vs a) (k : Keeps w w') : Sole W w' g vs a := ⟨h.sink.keeps k, h.base, h.keeps.trans k⟩
theorem Sole.did {W w w' : World} {g : Nat} {vs vs' : Value} {a m : List UInt8} (h : Sole W w g vs a) (hs : SinkAt w' g vs' m) (hm : Mods (Fr g vs) w w') (hf : Fresh w vs vs') : Sole W w' g vs' m := by
 refine ⟨hs, ?_, hm.keeps h.keeps h.base⟩
 rintro x (h1 | h1)
 ·exact h.base x (.inl h1)
 ·rcases hf x h1 with h2 | h2
  ·exact h.base x (.inr h2)
  ·have := h.keeps.size; omega
theorem Sole.new {W w : World} {g : Nat} (hs : SinkAt w g (.slice none 0 0) []) (hg : W.heap.size ≤ g) (hk : Keeps W w) : Sole W w g (.slice none 0 0) [] :=
 ⟨hs, by rintro x (rfl | h); omega; simp [Value.ownBlock] at h, hk⟩

/-- bytes of the call's own, and an error -/
def RetSI (W : World) (l : List UInt8) (n : Int) (e : Ending) (w' : World) : Prop :=
 ∃ v, e = .returned (.tuple #[v, .int .i64 n]) ∧ Own w' W.heap.size 5 v (l.map u8v) ∧ Keeps W w'

theorem putL1 {k : Nat} (h : k ≤ 255) : putL k 1 = be 1 k := by
 have : putB k 1 = true := by simp [putB, okk]; omega
 simp [putL, this]
theorem putL4 {k : Nat} (h : k < 4294967296) : putL k 4 = be 4 k := by
 have : putB k 4 = true := by simp [putB, okk]; omega
 simp [putL, this]

set_option maxHeartbeats 1000000 in
theorem wrap_any (kind : Int) (v : Value) (p : List UInt8) (w : World) (hr : Row w v (p.map u8v)) : Calls Tryz.prog 119 #[.int .i64 kind, v] w (RetSI w (wrapL kind p) (wrapE kind p.length)) := by
 obtain ⟨q, cap, rfl, hc1, hc2⟩ := hr.formB
 have HR := Lib.hid hr
 clear hr
 by_cases hk : kind < 0 ∨ 255 < kind
 ·have HE : Hid (RetSI w (wrapL kind p) (wrapE kind p.length) (.returned (.tuple #[.slice none 0 0, .int .i64 1])) w) := Lib.hid (by
   have h1 : wrapE kind p.length = 1 := by simp [wrapE, hk]
   rw [show wrapL kind p = [] from by simp [wrapL, h1], h1]
   exact ⟨_, rfl, Own.nil _ _ _, Keeps.refl _⟩)
  have hk' : kind < 0 ∨ (0 ≤ kind ∧ 255 < kind) := by omega
  clear hk
  rcases hk' with h | ⟨h, h'⟩
  all_goals
   go_enter Tryz.func119, Tryz.ntmps119
   go_wp2
   go_ret2
   exact HE.out
 ·obtain ⟨k, rfl⟩ := Int.eq_ofNat_of_zero_le (show 0 ≤ kind by omega)
  have hk5 : (k : Int) ≤ 255 := by omega
  by_cases hbig : 65536 < p.length
  ·have HE : Hid (RetSI w (wrapL k p) (wrapE k p.length) (.returned (.tuple #[.slice none 0 0, .int .i64 4])) w) := Lib.hid (by
    have h1 : wrapE k p.length = 4 := by simp [wrapE, hk, hbig]
    rw [show wrapL k p = [] from by simp [wrapL, h1], h1]
    exact ⟨_, rfl, Own.nil _ _ _, Keeps.refl _⟩)
   clear hk
   go_enter Tryz.func119, Tryz.ntmps119
   go_wp2
   go_ret2
   exact HE.out
  ·have hE : wrapE k p.length = 0 := by simp [wrapE, hk, hbig]
   have H : Hid (wrapE k p.length = 0 ∧ wrapL k p = 80 :: veil (body k p)) := Lib.hid ⟨hE, by simp [wrapL, hE]⟩
   have hS1 : [] ++ putL k 1 = be 1 k := by rw [putL1 (by omega)]; rfl
   have hS2 : be 1 k ++ putL p.length 4 = front k p.length := by rw [putL4 (by omega)]; rfl
   have hS3 : front k p.length ++ putL (sumN k p) 4 = front k p.length ++ be 4 (sumN k p) := by rw [putL4 (show sumN k p < 4294967296 from Crc.more_lt _ _)]
   have hS4 : front k p.length ++ be 4 (sumN k p) ++ p = body k p := by rw [List.append_assoc]; rfl
   have HS := Lib.hid (And.intro hS1 (And.intro hS2 (And.intro hS3 hS4)))
   have hfl := front_len k p.length
   have hbl := body_len k p
   have hsl : sumN k p < 4294967296 := Crc.more_lt _ _
   have hvl := (veil_len (body k p)).2
   have HL := Lib.hid (And.intro hfl hbl)
   clear hk hE hS1 hS2 hS3 hS4 hfl hbl
   go_enter Tryz.func119, Tryz.ntmps119
   go_wp2_with fail
   refine (newSink_any _).mono ?_
   rintro e w1 ⟨g, rfl, hg, hSk, hK1⟩
   have hs := Sole.new hSk hg hK1
   have HC := Lib.hid (sinkU_any g _ [] k (by omega) 1 w1 hSk (by simp))
   have HSo := Lib.hid hs
   clear hSk hs hK1
   go_wp2_with fail
   refine HC.out.mono ?_
   rintro e w2 ⟨v2, rfl, hS, hM, hF⟩
   have hs := HSo.out.did hS hM hF
   rw [HS.out.1] at hs
   have HC := Lib.hid (sinkU_any g _ _ p.length (by omega) 4 w2 hs.sink (by rw [be_length]; omega))
   have HSo := Lib.hid hs
   clear hS hM hF hs
   go_wp2_with fail
   refine HC.out.mono ?_
   rintro e w3 ⟨v3, rfl, hS, hM, hF⟩
   have hs := HSo.out.did hS hM hF
   rw [HS.out.2.1] at hs
   have HC := Lib.hid (sinkBytes_any g _ _ w3 hs.sink (by rw [HL.out.1]; omega))
   have HSo := Lib.hid hs
   clear hS hM hF hs
   go_wp2_with fail
   refine HC.out.mono ?_
   rintro e w4 ⟨b4, rfl, hown4, hK4⟩
   have hs := HSo.out.kept hK4
   have HC := Lib.hid (sum_any b4 (.slice q p.length cap) _ p w4 hown4.row (HR.out.keeps hs.keeps))
   have HSo := Lib.hid hs
   clear hs hown4 hK4
   go_wp2_with fail
   refine HC.out.mono ?_
   rintro e w5 ⟨rfl, hK5⟩
   have hs := HSo.out.kept hK5
   have HC := Lib.hid (sinkU_any g _ _ (sumN k p) (by omega) 4 w5 hs.sink (by rw [HL.out.1]; omega))
   have HSo := Lib.hid hs
   clear hs hK5
   have hsl' : Crc.more 0 (front k p.length ++ p) < 4294967296 := Crc.more_lt _ _
   change Hid (Calls Tryz.prog 181 #[.pointer (some ⟨g, 0, none⟩), .int .u64 ((Crc.more 0 (front k p.length ++ p) : Nat) : Int), .int .i64 4] w5 (SinkDid w5 g _ (front k p.length ++ putL (sumN k p) 4) (.returned (.bool (putB (sumN k p) 4))))) at HC
   go_wp2_with fail
   refine HC.out.mono ?_
   rintro e w6 ⟨v6, rfl, hS, hM, hF⟩
   have hs := HSo.out.did hS hM hF
   rw [HS.out.2.2.1] at hs
   have HC := Lib.hid (sinkRaw_any g _ _ (.slice q p.length cap) p w6 hs.sink (HR.out.keeps hs.keeps) (by rw [List.length_append, HL.out.1, be_length]; omega))
   rw [HS.out.2.2.2] at HC
   have HSo := Lib.hid hs
   clear hS hM hF hs
   go_wp2_with fail
   refine HC.out.mono ?_
   rintro e w7 ⟨v7, rfl, hS, hM, hF⟩
   have hs := HSo.out.did hS hM hF
   have HSo := Lib.hid hs
   clear hS hM hF hs HC
   go_wp2_with fail
   generalize hWa : World.alloc w7 _ = wa
   have hO1 : Own wa w.heap.size 5 (.slice (some ⟨w7.heap.size, 0, none⟩) 1 1) [.int .u8 80] := by rw [← hWa]; exact own_one rfl HSo.out.keeps.size
   have hKa : Keeps w7 wa := by rw [← hWa]; exact (Keeps.refl _).alloc _
   have hs := HSo.out.kept hKa
   have HC := Lib.hid (sinkBytes_any g _ _ wa hs.sink (by rw [HL.out.2]; omega))
   have HO1 := Lib.hid hO1
   have HKa := Lib.hid hs.keeps
   clear hWa hO1 hs hKa HSo
   refine HC.out.mono ?_
   rintro e w8 ⟨b8, rfl, hown8, hK8⟩
   have HC := Lib.hid (veil_any b8 _ w8 hown8.row (by rw [HL.out.2]; omega))
   clear hown8
   go_wp2_with fail
   refine HC.out.mono ?_
   rintro e w9 ⟨b9, rfl, hown9, hK9⟩
   have HO9 := Lib.hid hown9
   have HK89 := Lib.hid (hK8.trans hK9)
   have hsz := (HKa.out.trans HK89.out).size
   have hvl2 : (veil (body k p)).length ≤ 200000 := by have := HL.out.2; omega
   clear hown9 hK8 hK9
   go_wp2_with (at_builtin; refine wpList_app1 (base := w.heap.size) u8ok rfl _ _ rfl (.slice (some ⟨w7.heap.size, 0, none⟩) 1 1) b9 [.int .u8 80] ((veil (body k p)).map u8v) rfl rfl (HO1.out.keeps HK89.out) HO9.out.row (oneCell_map_u8 _) (by simp; omega) (by omega) hsz ?_; intro v' w2 ho2 hg2 hf2)
   go_ret2
   refine ⟨_, by rw [H.out.1]; rfl, by rw [H.out.2]; exact ho2, (HKa.out.trans HK89.out).grown hg2 (by intro x hx; exact HO1.out.base x hx)⟩
end Frm
end Go.Proofs.YtcleakjjefmmbaaGreat

/- The reader of veiled bytes. -/
namespace Go.Proofs.YtcleakjjefmmbaaGreat
open Go.RowKit
namespace Frm
open Oct

/-- a reader at g, of bytes b that lay in memory before W0 -/
structure RdIs (W0 w : World) (g : Nat) (b : Value) (l : List UInt8) (a : Nat) (ov : Value) (o : List UInt8) : Prop where
 blk : Blk w g 299 #[b, .int .i64 (a : Int), ov]
 own : Own w 0 5 ov (o.map u8v)
 base : ∀ x, Fr g ov x → W0.heap.size ≤ x
 keeps : Keeps W0 w
 le : a ≤ l.length

section
variable {W0 w w' : World} {g a : Nat} {b ov : Value} {l o : List UInt8}
theorem RdIs.kept (h : RdIs W0 w g b l a ov o) (k : Keeps w w') : RdIs W0 w' g b l a ov o := ⟨h.blk.keeps k, h.own.keeps k, h.base, h.keeps.trans k, h.le⟩
theorem RdIs.ne (h : RdIs W0 w g b l a ov o) : ov.ownBlock ≠ some g := h.own.blk_ne h.blk (by decide)
theorem RdIs.cells (h : RdIs W0 w g b l a ov o) : w.cell? ⟨g, 0, none⟩ = some b ∧ w.cell? ⟨g, 1, none⟩ = some (.int .i64 (a : Int)) ∧ w.cell? ⟨g, 2, none⟩ = some ov :=
 ⟨by rw [h.blk.cell]; rfl, by rw [h.blk.cell]; rfl, by rw [h.blk.cell]; rfl⟩
theorem RdIs.free (h : RdIs W0 w g b l a ov o) : w.frozen? ⟨g, 0, none⟩ = false ∧ w.frozen? ⟨g, 1, none⟩ = false ∧ w.frozen? ⟨g, 2, none⟩ = false :=
 ⟨h.blk.frozen 0, h.blk.frozen 1, h.blk.frozen 2⟩
theorem RdIs.setA (h : RdIs W0 w g b l a ov o) (a' : Nat) (ha : a' ≤ l.length) : RdIs W0 (w.setCell ⟨g, 1, none⟩ (.int .i64 (a' : Int))) g b l a' ov o :=
 ⟨by simpa using h.blk.set_ 1 (.int .i64 (a' : Int)), h.own.setCell _ h.ne, h.base, h.keeps.setCell (p := ⟨g, 1, none⟩) (h.base g (.inl rfl)) _, ha⟩
theorem RdIs.grown {ov' : Value} {o' : List UInt8} (h : RdIs W0 w g b l a ov o) (hg : w.grownBy w' ov.ownBlock) (ho : Own w' 0 5 ov' (o'.map u8v)) (hf : Fresh w ov ov') : RdIs W0 (w'.setCell ⟨g, 2, none⟩ ov') g b l a ov' o' := by
 have hb : Blk w' g 299 #[b, .int .i64 (a : Int), ov] := h.blk.grown hg h.ne
 have hne : ov'.ownBlock ≠ some g := ho.blk_ne hb (by decide)
 refine ⟨by simpa using hb.set_ 2 ov', ho.setCell _ hne, ?_, (h.keeps.grown hg (fun k hk => h.base k (.inr hk))).setCell (p := ⟨g, 2, none⟩) (h.base g (.inl rfl)) _, h.le⟩
 rintro x (h1 | h1)
 ·exact h.base x (.inl h1)
 ·rcases hf x h1 with h2 | h2
  ·exact h.base x (.inr h2)
  ·have := h.keeps.size; omega
end

def ReadDid (W0 : World) (g : Nat) (b : Value) (l : List UInt8) (a : Nat) (o : List UInt8) (r : Int × List UInt8 × Nat) (e : Ending) (w' : World) : Prop :=
 ∃ ov' a' o', e = .returned (.int .i64 r.1) ∧ RdIs W0 w' g b l a' ov' o' ∧ (r.1 = 0 → a' = a + r.2.2 ∧ o' = o ++ r.2.1)

theorem drop_cons' {l : List UInt8} {a : Nat} (h : a < l.length) : l.drop a = l[a] :: l.drop (a + 1) := List.drop_eq_getElem_cons h
theorem rd_plain {c : UInt8} {r : List UInt8} (h0 : c ≠ 80) (h1 : c ≠ 81) : rd (c :: r) = (0, c, 1) := by simp [rd, h0, h1]
theorem rd_81big {d : UInt8} {r : List UInt8} (h : 1 < d.toNat) : (rd (81 :: d :: r)).1 = 3 := by simp [rd, h]
theorem rd_81 {d : UInt8} {r : List UInt8} (h : ¬ 1 < d.toNat) : rd (81 :: d :: r) = (0, 80 + d, 2) := by simp [rd, h]
theorem rdN_err {k : Nat} {l : List UInt8} {e : Int} (h : (rd l).1 = e) (he : e ≠ 0) : (rdN (k + 1) l).1 = e := by simp [rdN, h, he]
theorem rdN_ok {k : Nat} {l : List UInt8} {c : UInt8} {u : Nat} (h : rd l = (0, c, u)) : rdN (k + 1) l = ((rdN k (l.drop u)).1, c :: (rdN k (l.drop u)).2.1, u + (rdN k (l.drop u)).2.2) := by simp [rdN, h]

theorem beq80 {c : UInt8} {n : UInt8} (h : c ≠ n) : ((c.toNat : Int) == (n.toNat : Int)) = false := by
 have : c.toNat ≠ n.toNat := fun e => h (UInt8.toNat_inj.1 e)
 rw [beq_eq_false_iff_ne]; omega

set_option maxRecDepth 100000 in
set_option maxHeartbeats 2000000 in
theorem read_any (W0 : World) (g : Nat) (b : Value) (l : List UInt8) (a : Nat) (ov : Value) (o : List UInt8) (k : Nat) (w : World) (hb : Row W0 b (l.map u8v)) (h : RdIs W0 w g b l a ov o) (hs : o.length + k ≤ 1048576) :
  Calls Tryz.prog 245 #[.pointer (some ⟨g, 0, none⟩), .int .i64 ((o.length + k : Nat) : Int)] w (ReadDid W0 g b l a o (rdN k (l.drop a))) := by
 obtain ⟨p, cap, rfl, hc1, hc2⟩ := hb.formB
 have hcells : 0 < l.length → ∃ bb off, p = some ⟨bb, off, none⟩ ∧ Hid (∀ i x, l[i]? = some x → W0.cell? ⟨bb, off + i, none⟩ = some (.int .u8 (x.toNat : Int))) := fun hl => by
  obtain ⟨bb, off, cap', hv, -, -, hh⟩ := hb.bytesAt hl
  simp only [Value.slice.injEq] at hv
  exact ⟨bb, off, hv.1, hh⟩
 have HCells := Lib.hid hcells
 have HI := Lib.hid h
 clear hb hcells h
 rw [show ((o.length + k : Nat) : Int) = (o.length : Int) + k from by omega]
 go_enter Tryz.func245, Tryz.ntmps245
 go_wp2_with fail
 go_loopg [] k (fun gk wr => ∃ (a' : Nat) (ov' : Value) (m : List UInt8), RdIs W0 wr g (.slice p l.length cap) l a' ov' (o ++ m) ∧ m.length + gk = k ∧ a ≤ a' ∧ (rdN k (l.drop a)).1 = (rdN gk (l.drop a')).1 ∧ (rdN k (l.drop a)).2.1 = m ++ (rdN gk (l.drop a')).2.1 ∧ (rdN k (l.drop a)).2.2 = (a' - a) + (rdN gk (l.drop a')).2.2)
 case atStart => exact ⟨a, ov, [], by simpa using HI.out, by simp, Nat.le_refl _, rfl, rfl, by simp⟩
 case round =>
  obtain ⟨a', ov', m, hI, hm, haa, he1, he2, he3⟩ := hrel
  obtain ⟨hc0, hc1, hc2⟩ := hI.cells
  obtain ⟨hf0, hf1, hf2⟩ := hI.free
  obtain ⟨po, capo, rfl, hpo1, hpo2⟩ := hI.own.row.formB
  have hom : (o ++ m).length = o.length + m.length := List.length_append
  have HE := Lib.hid (And.intro he1 (And.intro he2 he3))
  have HOM := Lib.hid hom
  have hle := hI.le
  have HIr := Lib.hid hI
  clear he1 he2 he3 hom hI HI
  rcases Nat.eq_zero_or_pos gk with rfl | hgk
  ·have hd : decide ((o.length : Int) + m.length < (o.length : Int) + k) = false := by simp; omega
   have HF : Hid (ReadDid W0 g (.slice p l.length cap) l a o (rdN k (l.drop a)) (.returned (.int .i64 0)) wr) := Lib.hid (by
    have h1 : (rdN k (l.drop a)).1 = 0 := HE.out.1
    refine ⟨_, a', _, by rw [h1], HIr.out, fun _ => ⟨?_, ?_⟩⟩
    ·rw [HE.out.2.2]; simp [rdN]; omega
    ·rw [HE.out.2.1]; simp [rdN])
   go_wp2_with fail
   go_ret
   exact HF.out
  ·obtain ⟨n', rfl⟩ : ∃ n', gk = n' + 1 := ⟨gk - 1, by omega⟩
   have hmk : m.length < k := by omega
   have HErr : Hid (∀ er, er ≠ 0 → (rd (l.drop a')).1 = er → ∀ w2, Keeps wr w2 → ReadDid W0 g (.slice p l.length cap) l a o (rdN k (l.drop a)) (.returned (.int .i64 er)) w2) := Lib.hid (fun er hne hr w2 hk => by
    have h1 : (rdN k (l.drop a)).1 = er := by rw [HE.out.1, rdN_err hr hne]
    exact ⟨_, a', _, by rw [h1], HIr.out.kept hk, fun h0 => by rw [h1] at h0; exact absurd h0 hne⟩)
   have hlt : (o.length : Int) + m.length < (o.length : Int) + k := by omega
   by_cases hend : a' = l.length
   ·have hee : ((a' : Int) == (l.length : Int)) = true := by simp [hend]
    have HX := Lib.hid (HErr.out 2 (by decide) (by rw [hend, List.drop_length]; rfl))
    clear hend HErr
    go_wp2_with fail
    go_quiet (fail)
    go_wp2_with fail
    go_ret
    exact HX.out _ (by repeat (first | exact Keeps.refl _ | refine Keeps.drewN ?_ _))
   ·have ha : a' < l.length := by omega
    have hee : ((a' : Int) == (l.length : Int)) = false := by rw [beq_eq_false_iff_ne]; omega
    obtain ⟨bb, off, rfl, HC⟩ := HCells.out (by omega)
    have hcell : wr.cell? ⟨bb, off + a', none⟩ = some (.int .u8 (l[a'].toNat : Int)) := keep1 HIr.out.keeps (HC.out a' _ (by simp [ha]))
    have HD := Lib.hid (drop_cons' ha)
    clear hend
    have hxl := l[a'].toNat_lt
    by_cases h80 : l[a'] = 80
    ·have hx0 : ((l[a'].toNat : Int) == 80) = true := by rw [h80]; rfl
     have HX := Lib.hid (HErr.out 3 (by decide) (by rw [HD.out, h80]; rfl))
     clear h80 HErr
     generalize l[a'] = x at *
     go_wp2_with fail
     go_quiet (fail)
     go_wp2_with fail
     go_quiet (fail)
     go_wp2_with fail
     go_ret
     exact HX.out _ (by repeat (first | exact Keeps.refl _ | refine Keeps.drewN ?_ _))
    have hx0 : ((l[a'].toNat : Int) == 80) = false := beq80 h80
    by_cases h81 : l[a'] = 81
    ·have hx1 : ((l[a'].toNat : Int) != 81) = false := by rw [h81]; rfl
     by_cases hend2 : a' + 1 = l.length
     ·have hee2 : (((a' : Int) + 1) == (l.length : Int)) = true := by simp; omega
      have HX := Lib.hid (HErr.out 2 (by decide) (by rw [HD.out, h81, hend2, List.drop_length]; rfl))
      clear h80 h81 HErr hend2
      generalize l[a'] = x at *
      go_wp2_with fail
      go_quiet (fail)
      go_wp2_with fail
      go_quiet (fail)
      go_wp2_with fail
      go_quiet (fail)
      go_wp2_with fail
      go_ret
      exact HX.out _ (by repeat (first | exact Keeps.refl _ | refine Keeps.drewN ?_ _))
     ·have ha2 : a' + 1 < l.length := by omega
      have hee2 : (((a' : Int) + 1) == (l.length : Int)) = false := by rw [beq_eq_false_iff_ne]; omega
      have hcell2 : wr.cell? ⟨bb, off + (a' + 1), none⟩ = some (.int .u8 (l[a' + 1].toNat : Int)) := keep1 HIr.out.keeps (HC.out (a' + 1) _ (by simp [ha2]))
      have HD2 := Lib.hid (drop_cons' ha2)
      have hyl := l[a' + 1].toNat_lt
      have hi2 : ((a' : Int) + 1).toNat = a' + 1 := by omega
      clear hend2
      by_cases hbig : 1 < l[a' + 1].toNat
      ·have HX := Lib.hid (HErr.out 3 (by decide) (by rw [HD.out, h81, HD2.out]; exact rd_81big hbig))
       have hbig' : (1 : Int) < (l[a' + 1].toNat : Int) := by omega
       clear h80 h81 HErr hbig
       generalize l[a'] = x at *
       generalize l[a' + 1] = y at *
       go_wp2_with fail
       go_quiet (fail)
       go_wp2_with fail
       go_quiet (fail)
       go_wp2_with fail
       go_quiet (fail)
       go_wp2_with fail
       go_quiet (fail)
       go_wp2_with fail
       go_ret
       exact HX.out _ (by repeat (first | exact Keeps.refl _ | refine Keeps.drewN ?_ _))
      ·have HR : Hid (rd (l.drop a') = (0, 80 + l[a' + 1], 2)) := Lib.hid (by rw [HD.out, h81, HD2.out]; exact rd_81 hbig)
       have hbd : decide ((1 : Int) < (l[a' + 1].toNat : Int)) = false := by simp; omega
       have hsum : Hid ((.int .u8 (80 + (l[a' + 1].toNat : Int)) : Value) = u8v (80 + l[a' + 1])) := Lib.hid (by
        have : l[a' + 1] = 0 ∨ l[a' + 1] = 1 := by
         have : l[a' + 1].toNat = 0 ∨ l[a' + 1].toNat = 1 := by omega
         rcases this with h | h
         ·left; exact UInt8.toNat_inj.1 h
         ·right; exact UInt8.toNat_inj.1 h
        rcases this with h | h <;> rw [h] <;> rfl)
       have hyy : (l[a' + 1].toNat : Int) ≤ 1 := by omega
       clear h80 h81 HErr hbig
       generalize l[a'] = x at *
       generalize l[a' + 1] = y at *
       go_wp2_with fail
       go_quiet (fail)
       go_wp2_with fail
       go_quiet (fail)
       go_wp2_with fail
       go_quiet (fail)
       go_wp2_with fail
       go_quiet (fail)
       go_wp2_with fail
       go_quiet (fail)
       go_upto_region 15 with fail
       have HSUM := Lib.hid hsum.out
       generalize hW : World.setCell _ _ _ = w4
       have hI4 : RdIs W0 w4 g (.slice (some ⟨bb, off, none⟩) l.length cap) l (a' + 2) (.slice po (o ++ m).length capo) (o ++ m) := by
        rw [← hW]
        exact (HIr.out.kept (by repeat (first | exact Keeps.refl _ | refine Keeps.drewN ?_ _))).setA (a' + 2) (by omega)
       have hI5 := hI4.kept ((Keeps.refl _).alloc (.cells #[.int .u8 (80 + (y.toNat : Int))] 5))
       obtain ⟨hd0, hd1, hd2⟩ := hI4.cells
       have HI5 := Lib.hid hI5
       clear hW hI4 hI5 hc0 hc1 hc2 hf0 hf1 hf2 HIr
       go_wp2_with (at_builtin; refine wpList_app1 (base := 0) u8ok rfl _ _ rfl (.slice po (o ++ m).length capo) (.slice (some ⟨w4.heap.size, 0, none⟩) 1 1) ((o ++ m).map u8v) [.int .u8 (80 + (y.toNat : Int))] (by rw [HOM.out]; rfl) rfl HI5.out.own (row_one rfl) (by simp [Value.oneCell']) (by simp; omega) (by omega) (Nat.zero_le _) ?_; intro v' w2 ho2 hg2 hf2; obtain ⟨p2, n2, cap2, rfl⟩ := ho2.sl; have hB2 := HI5.out.blk.grown hg2 HI5.out.ne; have hx2 : w2.cell? ⟨g, 2, none⟩ = some (.slice po (o ++ m).length capo) := by { rw [hB2.cell]; rfl }; have hfz2 : w2.frozen? ⟨g, 2, none⟩ = false := hB2.frozen 2; have HG := Lib.hid (HI5.out.grown (o' := o ++ (m ++ [80 + y])) hg2 (by rw [← List.append_assoc, List.map_append, List.map_singleton, ← HSUM.out]; exact ho2) hf2); clear hB2 ho2 hg2 hf2)
       go_roundg n'
       case rel =>
        have hr := rdN_ok (k := n') HR.out
        rw [List.drop_drop] at hr
        exact ⟨a' + 2, _, m ++ [80 + y], HG.out, by simp; omega, by omega, by rw [HE.out.1, hr], by rw [HE.out.2.1, hr]; simp, by rw [HE.out.2.2, hr]; simp only; omega⟩
       case measure => omega
    ·have hx1 : ((l[a'].toNat : Int) != 81) = true := by
      rw [bne_iff_ne]
      intro e
      have h2 : l[a'].toNat ≠ 81 := fun h => h81 (UInt8.toNat_inj.1 h)
      omega
     have HR : Hid (rd (l.drop a') = (0, l[a'], 1)) := Lib.hid (by rw [HD.out]; exact rd_plain h80 h81)
     clear h80 h81 HErr
     generalize l[a'] = x at *
     go_wp2_with fail
     go_quiet (fail)
     go_wp2_with fail
     go_quiet (fail)
     go_upto_region 15 with fail
     generalize hW : World.setCell _ _ _ = w4
     have hI4 : RdIs W0 w4 g (.slice (some ⟨bb, off, none⟩) l.length cap) l (a' + 1) (.slice po (o ++ m).length capo) (o ++ m) := by
      rw [← hW]
      exact (HIr.out.kept (by repeat (first | exact Keeps.refl _ | refine Keeps.drewN ?_ _))).setA (a' + 1) (by omega)
     have hI5 := hI4.kept ((Keeps.refl _).alloc (.cells #[.int .u8 (x.toNat : Int)] 5))
     obtain ⟨hd0, hd1, hd2⟩ := hI4.cells
     have HI5 := Lib.hid hI5
     clear hW hI4 hI5 hc0 hc1 hc2 hf0 hf1 hf2 HIr
     go_wp2_with (at_builtin; refine wpList_app1 (base := 0) u8ok rfl _ _ rfl (.slice po (o ++ m).length capo) (.slice (some ⟨w4.heap.size, 0, none⟩) 1 1) ((o ++ m).map u8v) [.int .u8 (x.toNat : Int)] (by rw [HOM.out]; rfl) rfl HI5.out.own (row_one rfl) (by simp [Value.oneCell']) (by simp; omega) (by omega) (Nat.zero_le _) ?_; intro v' w2 ho2 hg2 hf2; obtain ⟨p2, n2, cap2, rfl⟩ := ho2.sl; have hB2 := HI5.out.blk.grown hg2 HI5.out.ne; have hx2 : w2.cell? ⟨g, 2, none⟩ = some (.slice po (o ++ m).length capo) := by { rw [hB2.cell]; rfl }; have hfz2 : w2.frozen? ⟨g, 2, none⟩ = false := hB2.frozen 2; have HG := Lib.hid (HI5.out.grown (o' := o ++ (m ++ [x])) hg2 (by rw [← List.append_assoc, List.map_append, List.map_singleton, show u8v x = .int .u8 (x.toNat : Int) from rfl]; exact ho2) hf2); clear hB2 ho2 hg2 hf2)
     go_roundg n'
     case rel =>
      have hr := rdN_ok (k := n') HR.out
      rw [List.drop_drop] at hr
      exact ⟨a' + 1, _, m ++ [x], HG.out, by simp; omega, by omega, by rw [HE.out.1, hr], by rw [HE.out.2.1, hr]; simp, by rw [HE.out.2.2, hr]; simp only; omega⟩
     case measure => omega
end Frm
end Go.Proofs.YtcleakjjefmmbaaGreat

/- Several texts in one: FrameWrap, FrameRead, FrameAt, FrameRow. -/
import Derived.Test.YtklbemkafdccgaaGreatK00
import Derived.Test.YtklbemkafdccgaaGreatK10
import Derived.Test.YtklbemkafdccgaaGreatK06
import Derived.Deep.DeepCutAuto
import Derived.Deep.LoopGhost
import Derived.Test.YtklbemkafdccgaaGreatFrameAtPlain
import Derived.Test.YtklbemkafdccgaaGreatK02
import Derived.Test.YtklbemkafdccgaaGreatK01
import Derived.StillTailTactics
import Derived.Test.YtklbemkafdccgaaGreatK09
/- frame.Veil and Wrap, and the reference's, compute the plain ones. -/
namespace Go.Proofs.YtklbemkafdccgaaGreat
open Go.RowKit
namespace Frm
open Oct

theorem str_at' {w : World} {v : Value} {l : List UInt8} (h : Row w v (l.map u8v)) : (convert 51 9 v).run Tryz.prog w = .ok (.string (bstr l)) w := h.str Tryz.underlying51 Tryz.underlying5 str9
theorem veil_take {l : List UInt8} {j : Nat} (h : j < l.length) : veil (l.take (j + 1)) = veil (l.take j) ++ veilB l[j] := by
 rw [List.take_succ_eq_append_getElem h, veil_append]
 simp [veil]
theorem veilB_eq {c : UInt8} (h : c = 80 ∨ c = 81) : (veilB c).map u8v = [.int .u8 81, .int .u8 ((c.toNat : Int) - 80)] := by
 rcases h with rfl | rfl <;> rfl
theorem veilB_ne {c : UInt8} (h : ¬ (c = 80 ∨ c = 81)) : (veilB c).map u8v = [.int .u8 (c.toNat : Int)] := by
 unfold veilB; rw [if_neg h]; rfl
theorem row_two {w : World} {b : Nat} {x y : Value} {e : TypeId} (hb : b = w.heap.size) : Row (w.alloc (.cells #[x, y] e)) (.slice (some ⟨b, 0, none⟩) 2 2) [x, y] := row_alloc hb rfl rfl (by decide)

set_option maxHeartbeats 1000000 in
theorem veil_any (v : Value) (l : List UInt8) (w : World) (hr : Row w v (l.map u8v)) (hl : l.length ≤ 17592186044416) : Calls Tryz.prog 187 #[v] w (RetS w (veil l)) := by
 have hcells : 0 < l.length → ∃ b off cap, v = .slice (some ⟨b, off, none⟩) l.length cap ∧ Hid (∀ i x, l[i]? = some x → w.cell? ⟨b, off + i, none⟩ = some (.int .u8 (x.toNat : Int))) := fun h => by
  obtain ⟨b, off, cap, rfl, -, -, hh⟩ := hr.bytesAt h
  exact ⟨b, off, cap, rfl, hh⟩
 obtain ⟨p, cap, rfl, hc1, hc2⟩ := hr.formB
 have HCells := Lib.hid hcells
 clear hr hcells
 go_enter Tryz.func187, Tryz.ntmps187
 go_wp2
 go_loopw [3, 8] (fun o i wr => ∃ j : Nat, j ≤ l.length ∧ i = .int .i64 j ∧ Own wr w.heap.size 5 o ((veil (l.take j)).map u8v) ∧ Keeps w wr) (fun _ i _ => l.length - (intOf i).toNat)
 case atStart => exact ⟨0, Nat.zero_le _, rfl, by simpa [veil] using Own.nil _ _ _, Keeps.refl _⟩
 case round =>
  obtain ⟨j, hj, rfl, hown, hK⟩ := hrel
  by_cases hlt : j < l.length
  ·obtain ⟨b, off, cap', hv, HC⟩ := HCells.out (by omega)
   simp only [Value.slice.injEq] at hv
   obtain ⟨rfl, -, rfl⟩ := hv
   have hcell : wr.cell? ⟨b, off + j, none⟩ = some (.int .u8 (l[j].toNat : Int)) := keep1 hK (HC.out j _ (by simp [hlt]))
   have HT := Lib.hid (veil_take hlt)
   have hlen : (veil (l.take j)).length ≤ 35184372088832 := by have := (veil_len (l.take j)).2; have h2 := List.length_take_le j l; omega
   generalize l[j] = c at *
   have HO := Lib.hid hown
   have hsz := hK.size
   have hcl := c.toNat_lt
   clear hown
   by_cases hs : c = 80 ∨ c = 81
   ·have HV := Lib.hid (veilB_eq hs)
    have hcc : ((c.toNat : Int) == 80) = true ∨ (((c.toNat : Int) == 80) = false ∧ ((c.toNat : Int) == 81) = true) := by
     rcases hs with h | h
     ·left; subst h; rfl
     ·right; subst h; exact ⟨rfl, rfl⟩
    have hb80 : 80 ≤ (c.toNat : Int) := by rcases hs with h | h <;> subst h <;> decide
    clear hs
    rcases hcc with e0 | ⟨e0, e1⟩
    all_goals
     go_wp2_with (at_builtin; refine wpList_app1 (base := w.heap.size) u8ok rfl _ _ rfl u3 (.slice (some ⟨wr.heap.size, 0, none⟩) 2 2) ((veil (l.take j)).map u8v) [.int .u8 81, .int .u8 ((c.toNat : Int) - 80)] rfl rfl (HO.out.alloc _) (row_two rfl) (by simp [Value.oneCell']) (by simp; omega) (by omega) (by simp; omega) ?_; intro v' w2 ho2 hg2 hf2)
     go_roundw
     case rel => exact ⟨j + 1, by omega, by go_num, by rw [HT.out, List.map_append, HV.out]; exact ho2, (hK.alloc _).grown hg2 HO.out.base⟩
     case measure => simp [intOf] <;> omega
   ·have HV := Lib.hid (veilB_ne hs)
    have e0 : ((c.toNat : Int) == 80) = false := by
     have h1 : ¬ c = 80 := fun h => hs (.inl h)
     have h2 : c.toNat ≠ 80 := fun h => h1 (UInt8.toNat_inj.1 h)
     rw [beq_eq_false_iff_ne]; omega
    have e1 : ((c.toNat : Int) == 81) = false := by
     have h1 : ¬ c = 81 := fun h => hs (.inr h)
     have h2 : c.toNat ≠ 81 := fun h => h1 (UInt8.toNat_inj.1 h)
     rw [beq_eq_false_iff_ne]; omega
    clear hs
    go_wp2_with (at_builtin; refine wpList_app1 (base := w.heap.size) u8ok rfl _ _ rfl u3 (.slice (some ⟨wr.heap.size, 0, none⟩) 1 1) ((veil (l.take j)).map u8v) [.int .u8 (c.toNat : Int)] rfl rfl (HO.out.alloc _) (row_one rfl) (by simp [Value.oneCell']) (by simp; omega) (by omega) (by simp; omega) ?_; intro v' w2 ho2 hg2 hf2)
    go_roundw
    case rel => exact ⟨j + 1, by omega, by go_num, by rw [HT.out, List.map_append, HV.out]; exact ho2, (hK.alloc _).grown hg2 HO.out.base⟩
    case measure => simp [intOf] <;> omega
  ·obtain rfl : j = l.length := by omega
   rw [List.take_length] at hown
   have HO := Lib.hid hown
   clear hown
   go_wp2
   go_ret
   exact ⟨_, rfl, HO.out, hK⟩

theorem sum_any (v1 v2 : Value) (a p : List UInt8) (w : World) (h1 : Row w v1 (a.map u8v)) (h2 : Row w v2 (p.map u8v)) : Calls Tryz.prog 186 #[v1, v2] w fun e w' => e = .returned (.int .u32 (Crc.more 0 (a ++ p) : Nat)) ∧ Keeps w w' := by
 have HO := Lib.hid (Crc.of_any v1 a w h1)
 have HA := Lib.hid (Crc.more_append 0 a p)
 have hlt := Crc.more_lt 0 a
 have HM := Lib.hid (fun w' (k : Keeps w w') => Crc.more_any (Crc.more 0 a) hlt v2 p w' (h2.keeps k))
 rw [HA.out] at HM
 clear h1 h2
 generalize Crc.more 0 a = m at *
 go_enter Tryz.func186, Tryz.ntmps186
 go_wp2_with fail
 refine HO.out.mono ?_
 rintro e w1 ⟨rfl, hK1⟩
 go_wp2_with fail
 refine (HM.out _ hK1).mono ?_
 rintro e w2 ⟨rfl, hK2⟩
 go_wp2_with fail
 go_ret
 exact ⟨rfl, hK1.trans hK2⟩

/-- a sink of the call's own -/
structure Sole (W w : World) (g : Nat) (vs : Value) (a : List UInt8) : Prop where
 sink : SinkAt w g vs a
 base : ∀ x, Fr g vs x → W.heap.size ≤ x
 keeps : Keeps W w
theorem Sole.kept {W w w' : World} {g : Nat} {vs : Value} {a : List UInt8} (h : Sole W w g vs a) (k : Keeps w w') : Sole W w' g vs a := ⟨h.sink.keeps k, h.base, h.keeps.trans k⟩
theorem Sole.did {W w w' : World} {g : Nat} {vs vs' : Value} {a m : List UInt8} (h : Sole W w g vs a) (hs : SinkAt w' g vs' m) (hm : Mods (Fr g vs) w w') (hf : Fresh w vs vs') : Sole W w' g vs' m := by
 refine ⟨hs, ?_, hm.keeps h.keeps h.base⟩
 rintro x (h1 | h1)
 ·exact h.base x (.inl h1)
 ·rcases hf x h1 with h2 | h2
  ·exact h.base x (.inr h2)
  ·have := h.keeps.size; omega
theorem Sole.new {W w : World} {g : Nat} (hs : SinkAt w g (.slice none 0 0) []) (hg : W.heap.size ≤ g) (hk : Keeps W w) : Sole W w g (.slice none 0 0) [] :=
 ⟨hs, by rintro x (rfl | h); omega; simp [Value.ownBlock] at h, hk⟩

/-- bytes of the call's own, and an error -/
def RetSI (W : World) (l : List UInt8) (n : Int) (e : Ending) (w' : World) : Prop :=
 ∃ v, e = .returned (.tuple #[v, .int .i64 n]) ∧ Own w' W.heap.size 5 v (l.map u8v) ∧ Keeps W w'

theorem putL1 {k : Nat} (h : k ≤ 255) : putL k 1 = be 1 k := by
 have : putB k 1 = true := by simp [putB, okk]; omega
 simp [putL, this]
theorem putL4 {k : Nat} (h : k < 4294967296) : putL k 4 = be 4 k := by
 have : putB k 4 = true := by simp [putB, okk]; omega
 simp [putL, this]

set_option maxHeartbeats 1000000 in
theorem wrap_any (kind : Int) (v : Value) (p : List UInt8) (w : World) (hr : Row w v (p.map u8v)) : Calls Tryz.prog 140 #[.int .i64 kind, v] w (RetSI w (wrapL kind p) (wrapE kind p.length)) := by
 obtain ⟨q, cap, rfl, hc1, hc2⟩ := hr.formB
 have HR := Lib.hid hr
 clear hr
 by_cases hk : kind < 0 ∨ 255 < kind
 ·have HE : Hid (RetSI w (wrapL kind p) (wrapE kind p.length) (.returned (.tuple #[.slice none 0 0, .int .i64 1])) w) := Lib.hid (by
   have h1 : wrapE kind p.length = 1 := by simp [wrapE, hk]
   rw [show wrapL kind p = [] from by simp [wrapL, h1], h1]
   exact ⟨_, rfl, Own.nil _ _ _, Keeps.refl _⟩)
  have hk' : kind < 0 ∨ (0 ≤ kind ∧ 255 < kind) := by omega
  clear hk
  rcases hk' with h | ⟨h, h'⟩
  all_goals
   go_enter Tryz.func140, Tryz.ntmps140
   go_wp2
   go_ret2
   exact HE.out
 ·obtain ⟨k, rfl⟩ := Int.eq_ofNat_of_zero_le (show 0 ≤ kind by omega)
  have hk5 : (k : Int) ≤ 255 := by omega
  by_cases hbig : 65536 < p.length
  ·have HE : Hid (RetSI w (wrapL k p) (wrapE k p.length) (.returned (.tuple #[.slice none 0 0, .int .i64 4])) w) := Lib.hid (by
    have h1 : wrapE k p.length = 4 := by simp [wrapE, hk, hbig]
    rw [show wrapL k p = [] from by simp [wrapL, h1], h1]
    exact ⟨_, rfl, Own.nil _ _ _, Keeps.refl _⟩)
   clear hk
   go_enter Tryz.func140, Tryz.ntmps140
   go_wp2
   go_ret2
   exact HE.out
  ·have hE : wrapE k p.length = 0 := by simp [wrapE, hk, hbig]
   have H : Hid (wrapE k p.length = 0 ∧ wrapL k p = 80 :: veil (body k p)) := Lib.hid ⟨hE, by simp [wrapL, hE]⟩
   have hS1 : [] ++ putL k 1 = be 1 k := by rw [putL1 (by omega)]; rfl
   have hS2 : be 1 k ++ putL p.length 4 = front k p.length := by rw [putL4 (by omega)]; rfl
   have hS3 : front k p.length ++ putL (sumN k p) 4 = front k p.length ++ be 4 (sumN k p) := by rw [putL4 (show sumN k p < 4294967296 from Crc.more_lt _ _)]
   have hS4 : front k p.length ++ be 4 (sumN k p) ++ p = body k p := by rw [List.append_assoc]; rfl
   have HS := Lib.hid (And.intro hS1 (And.intro hS2 (And.intro hS3 hS4)))
   have hfl := front_len k p.length
   have hbl := body_len k p
   have hsl : sumN k p < 4294967296 := Crc.more_lt _ _
   have hvl := (veil_len (body k p)).2
   have HL := Lib.hid (And.intro hfl hbl)
   clear hk hE hS1 hS2 hS3 hS4 hfl hbl
   go_enter Tryz.func140, Tryz.ntmps140
   go_wp2_with fail
   refine (newSink_any _).mono ?_
   rintro e w1 ⟨g, rfl, hg, hSk, hK1⟩
   have hs := Sole.new hSk hg hK1
   have HC := Lib.hid (sinkU_any g _ [] k (by omega) 1 w1 hSk (by simp))
   have HSo := Lib.hid hs
   clear hSk hs hK1
   go_wp2_with fail
   refine HC.out.mono ?_
   rintro e w2 ⟨v2, rfl, hS, hM, hF⟩
   have hs := HSo.out.did hS hM hF
   rw [HS.out.1] at hs
   have HC := Lib.hid (sinkU_any g _ _ p.length (by omega) 4 w2 hs.sink (by rw [be_length]; omega))
   have HSo := Lib.hid hs
   clear hS hM hF hs
   go_wp2_with fail
   refine HC.out.mono ?_
   rintro e w3 ⟨v3, rfl, hS, hM, hF⟩
   have hs := HSo.out.did hS hM hF
   rw [HS.out.2.1] at hs
   have HC := Lib.hid (sinkBytes_any g _ _ w3 hs.sink (by rw [HL.out.1]; omega))
   have HSo := Lib.hid hs
   clear hS hM hF hs
   go_wp2_with fail
   refine HC.out.mono ?_
   rintro e w4 ⟨b4, rfl, hown4, hK4⟩
   have hs := HSo.out.kept hK4
   have HC := Lib.hid (sum_any b4 (.slice q p.length cap) _ p w4 hown4.row (HR.out.keeps hs.keeps))
   have HSo := Lib.hid hs
   clear hs hown4 hK4
   go_wp2_with fail
   refine HC.out.mono ?_
   rintro e w5 ⟨rfl, hK5⟩
   have hs := HSo.out.kept hK5
   have HC := Lib.hid (sinkU_any g _ _ (sumN k p) (by omega) 4 w5 hs.sink (by rw [HL.out.1]; omega))
   have HSo := Lib.hid hs
   clear hs hK5
   have hsl' : Crc.more 0 (front k p.length ++ p) < 4294967296 := Crc.more_lt _ _
   change Hid (Calls Tryz.prog 54 #[.pointer (some ⟨g, 0, none⟩), .int .u64 ((Crc.more 0 (front k p.length ++ p) : Nat) : Int), .int .i64 4] w5 (SinkDid w5 g _ (front k p.length ++ putL (sumN k p) 4) (.returned (.bool (putB (sumN k p) 4))))) at HC
   go_wp2_with fail
   refine HC.out.mono ?_
   rintro e w6 ⟨v6, rfl, hS, hM, hF⟩
   have hs := HSo.out.did hS hM hF
   rw [HS.out.2.2.1] at hs
   have HC := Lib.hid (sinkRaw_any g _ _ (.slice q p.length cap) p w6 hs.sink (HR.out.keeps hs.keeps) (by rw [List.length_append, HL.out.1, be_length]; omega))
   rw [HS.out.2.2.2] at HC
   have HSo := Lib.hid hs
   clear hS hM hF hs
   go_wp2_with fail
   refine HC.out.mono ?_
   rintro e w7 ⟨v7, rfl, hS, hM, hF⟩
   have hs := HSo.out.did hS hM hF
   have HSo := Lib.hid hs
   clear hS hM hF hs HC
   go_wp2_with fail
   generalize hWa : World.alloc w7 _ = wa
   have hO1 : Own wa w.heap.size 5 (.slice (some ⟨w7.heap.size, 0, none⟩) 1 1) [.int .u8 80] := by rw [← hWa]; exact own_one rfl HSo.out.keeps.size
   have hKa : Keeps w7 wa := by rw [← hWa]; exact (Keeps.refl _).alloc _
   have hs := HSo.out.kept hKa
   have HC := Lib.hid (sinkBytes_any g _ _ wa hs.sink (by rw [HL.out.2]; omega))
   have HO1 := Lib.hid hO1
   have HKa := Lib.hid hs.keeps
   clear hWa hO1 hs hKa HSo
   refine HC.out.mono ?_
   rintro e w8 ⟨b8, rfl, hown8, hK8⟩
   have HC := Lib.hid (veil_any b8 _ w8 hown8.row (by rw [HL.out.2]; omega))
   clear hown8
   go_wp2_with fail
   refine HC.out.mono ?_
   rintro e w9 ⟨b9, rfl, hown9, hK9⟩
   have HO9 := Lib.hid hown9
   have HK89 := Lib.hid (hK8.trans hK9)
   have hsz := (HKa.out.trans HK89.out).size
   have hvl2 : (veil (body k p)).length ≤ 200000 := by have := HL.out.2; omega
   clear hown9 hK8 hK9
   go_wp2_with (at_builtin; refine wpList_app1 (base := w.heap.size) u8ok rfl _ _ rfl (.slice (some ⟨w7.heap.size, 0, none⟩) 1 1) b9 [.int .u8 80] ((veil (body k p)).map u8v) rfl rfl (HO1.out.keeps HK89.out) HO9.out.row (oneCell_map_u8 _) (by simp; omega) (by omega) hsz ?_; intro v' w2 ho2 hg2 hf2)
   go_ret2
   refine ⟨_, by rw [H.out.1]; rfl, by rw [H.out.2]; exact ho2, (HKa.out.trans HK89.out).grown hg2 (by intro x hx; exact HO1.out.base x hx)⟩
end Frm
end Go.Proofs.YtklbemkafdccgaaGreat

/- The reader of veiled bytes. -/
namespace Go.Proofs.YtklbemkafdccgaaGreat
open Go.RowKit
namespace Frm
open Oct

/-- a reader at g, of bytes b that lay in memory before W0 -/
structure RdIs (W0 w : World) (g : Nat) (b : Value) (l : List UInt8) (a : Nat) (ov : Value) (o : List UInt8) : Prop where
 blk : Blk w g 295 #[b, .int .i64 (a : Int), ov]
 own : Own w 0 5 ov (o.map u8v)
 base : ∀ x, Fr g ov x → W0.heap.size ≤ x
 keeps : Keeps W0 w
 le : a ≤ l.length

section
variable {W0 w w' : World} {g a : Nat} {b ov : Value} {l o : List UInt8}
theorem RdIs.kept (h : RdIs W0 w g b l a ov o) (k : Keeps w w') : RdIs W0 w' g b l a ov o := ⟨h.blk.keeps k, h.own.keeps k, h.base, h.keeps.trans k, h.le⟩
theorem RdIs.ne (h : RdIs W0 w g b l a ov o) : ov.ownBlock ≠ some g := h.own.blk_ne h.blk (by decide)
theorem RdIs.cells (h : RdIs W0 w g b l a ov o) : w.cell? ⟨g, 0, none⟩ = some b ∧ w.cell? ⟨g, 1, none⟩ = some (.int .i64 (a : Int)) ∧ w.cell? ⟨g, 2, none⟩ = some ov :=
 ⟨by rw [h.blk.cell]; rfl, by rw [h.blk.cell]; rfl, by rw [h.blk.cell]; rfl⟩
theorem RdIs.free (h : RdIs W0 w g b l a ov o) : w.frozen? ⟨g, 0, none⟩ = false ∧ w.frozen? ⟨g, 1, none⟩ = false ∧ w.frozen? ⟨g, 2, none⟩ = false :=
 ⟨h.blk.frozen 0, h.blk.frozen 1, h.blk.frozen 2⟩
theorem RdIs.setA (h : RdIs W0 w g b l a ov o) (a' : Nat) (ha : a' ≤ l.length) : RdIs W0 (w.setCell ⟨g, 1, none⟩ (.int .i64 (a' : Int))) g b l a' ov o :=
 ⟨by simpa using h.blk.set_ 1 (.int .i64 (a' : Int)), h.own.setCell _ h.ne, h.base, h.keeps.setCell (p := ⟨g, 1, none⟩) (h.base g (.inl rfl)) _, ha⟩
theorem RdIs.grown {ov' : Value} {o' : List UInt8} (h : RdIs W0 w g b l a ov o) (hg : w.grownBy w' ov.ownBlock) (ho : Own w' 0 5 ov' (o'.map u8v)) (hf : Fresh w ov ov') : RdIs W0 (w'.setCell ⟨g, 2, none⟩ ov') g b l a ov' o' := by
 have hb : Blk w' g 295 #[b, .int .i64 (a : Int), ov] := h.blk.grown hg h.ne
 have hne : ov'.ownBlock ≠ some g := ho.blk_ne hb (by decide)
 refine ⟨by simpa using hb.set_ 2 ov', ho.setCell _ hne, ?_, (h.keeps.grown hg (fun k hk => h.base k (.inr hk))).setCell (p := ⟨g, 2, none⟩) (h.base g (.inl rfl)) _, h.le⟩
 rintro x (h1 | h1)
 ·exact h.base x (.inl h1)
 ·rcases hf x h1 with h2 | h2
  ·exact h.base x (.inr h2)
  ·have := h.keeps.size; omega
end

def ReadDid (W0 : World) (g : Nat) (b : Value) (l : List UInt8) (a : Nat) (o : List UInt8) (r : Int × List UInt8 × Nat) (e : Ending) (w' : World) : Prop :=
 ∃ ov' a' o', e = .returned (.int .i64 r.1) ∧ RdIs W0 w' g b l a' ov' o' ∧ (r.1 = 0 → a' = a + r.2.2 ∧ o' = o ++ r.2.1)

theorem drop_cons' {l : List UInt8} {a : Nat} (h : a < l.length) : l.drop a = l[a] :: l.drop (a + 1) := List.drop_eq_getElem_cons h
theorem rd_plain {c : UInt8} {r : List UInt8} (h0 : c ≠ 80) (h1 : c ≠ 81) : rd (c :: r) = (0, c, 1) := by simp [rd, h0, h1]
theorem rd_81big {d : UInt8} {r : List UInt8} (h : 1 < d.toNat) : (rd (81 :: d :: r)).1 = 3 := by simp [rd, h]
theorem rd_81 {d : UInt8} {r : List UInt8} (h : ¬ 1 < d.toNat) : rd (81 :: d :: r) = (0, 80 + d, 2) := by simp [rd, h]
theorem rdN_err {k : Nat} {l : List UInt8} {e : Int} (h : (rd l).1 = e) (he : e ≠ 0) : (rdN (k + 1) l).1 = e := by simp [rdN, h, he]
theorem rdN_ok {k : Nat} {l : List UInt8} {c : UInt8} {u : Nat} (h : rd l = (0, c, u)) : rdN (k + 1) l = ((rdN k (l.drop u)).1, c :: (rdN k (l.drop u)).2.1, u + (rdN k (l.drop u)).2.2) := by simp [rdN, h]

theorem beq80 {c : UInt8} {n : UInt8} (h : c ≠ n) : ((c.toNat : Int) == (n.toNat : Int)) = false := by
 have : c.toNat ≠ n.toNat := fun e => h (UInt8.toNat_inj.1 e)
 rw [beq_eq_false_iff_ne]; omega

set_option maxRecDepth 100000 in
set_option maxHeartbeats 2000000 in
theorem read_any (W0 : World) (g : Nat) (b : Value) (l : List UInt8) (a : Nat) (ov : Value) (o : List UInt8) (k : Nat) (w : World) (hb : Row W0 b (l.map u8v)) (h : RdIs W0 w g b l a ov o) (hs : o.length + k ≤ 1048576) :
  Calls Tryz.prog 247 #[.pointer (some ⟨g, 0, none⟩), .int .i64 ((o.length + k : Nat) : Int)] w (ReadDid W0 g b l a o (rdN k (l.drop a))) := by
 obtain ⟨p, cap, rfl, hc1, hc2⟩ := hb.formB
 have hcells : 0 < l.length → ∃ bb off, p = some ⟨bb, off, none⟩ ∧ Hid (∀ i x, l[i]? = some x → W0.cell? ⟨bb, off + i, none⟩ = some (.int .u8 (x.toNat : Int))) := fun hl => by
  obtain ⟨bb, off, cap', hv, -, -, hh⟩ := hb.bytesAt hl
  simp only [Value.slice.injEq] at hv
  exact ⟨bb, off, hv.1, hh⟩
 have HCells := Lib.hid hcells
 have HI := Lib.hid h
 clear hb hcells h
 rw [show ((o.length + k : Nat) : Int) = (o.length : Int) + k from by omega]
 go_enter Tryz.func247, Tryz.ntmps247
 go_wp2_with fail
 go_loopg [] k (fun gk wr => ∃ (a' : Nat) (ov' : Value) (m : List UInt8), RdIs W0 wr g (.slice p l.length cap) l a' ov' (o ++ m) ∧ m.length + gk = k ∧ a ≤ a' ∧ (rdN k (l.drop a)).1 = (rdN gk (l.drop a')).1 ∧ (rdN k (l.drop a)).2.1 = m ++ (rdN gk (l.drop a')).2.1 ∧ (rdN k (l.drop a)).2.2 = (a' - a) + (rdN gk (l.drop a')).2.2)
 case atStart => exact ⟨a, ov, [], by simpa using HI.out, by simp, Nat.le_refl _, rfl, rfl, by simp⟩
 case round =>
  obtain ⟨a', ov', m, hI, hm, haa, he1, he2, he3⟩ := hrel
  obtain ⟨hc0, hc1, hc2⟩ := hI.cells
  obtain ⟨hf0, hf1, hf2⟩ := hI.free
  obtain ⟨po, capo, rfl, hpo1, hpo2⟩ := hI.own.row.formB
  have hom : (o ++ m).length = o.length + m.length := List.length_append
  have HE := Lib.hid (And.intro he1 (And.intro he2 he3))
  have HOM := Lib.hid hom
  have hle := hI.le
  have HIr := Lib.hid hI
  clear he1 he2 he3 hom hI HI
  rcases Nat.eq_zero_or_pos gk with rfl | hgk
  ·have hd : decide ((o.length : Int) + m.length < (o.length : Int) + k) = false := by simp; omega
   have HF : Hid (ReadDid W0 g (.slice p l.length cap) l a o (rdN k (l.drop a)) (.returned (.int .i64 0)) wr) := Lib.hid (by
    have h1 : (rdN k (l.drop a)).1 = 0 := HE.out.1
    refine ⟨_, a', _, by rw [h1], HIr.out, fun _ => ⟨?_, ?_⟩⟩
    ·rw [HE.out.2.2]; simp [rdN]; omega
    ·rw [HE.out.2.1]; simp [rdN])
   go_wp2_with fail
   go_ret
   exact HF.out
  ·obtain ⟨n', rfl⟩ : ∃ n', gk = n' + 1 := ⟨gk - 1, by omega⟩
   have hmk : m.length < k := by omega
   have HErr : Hid (∀ er, er ≠ 0 → (rd (l.drop a')).1 = er → ∀ w2, Keeps wr w2 → ReadDid W0 g (.slice p l.length cap) l a o (rdN k (l.drop a)) (.returned (.int .i64 er)) w2) := Lib.hid (fun er hne hr w2 hk => by
    have h1 : (rdN k (l.drop a)).1 = er := by rw [HE.out.1, rdN_err hr hne]
    exact ⟨_, a', _, by rw [h1], HIr.out.kept hk, fun h0 => by rw [h1] at h0; exact absurd h0 hne⟩)
   have hlt : (o.length : Int) + m.length < (o.length : Int) + k := by omega
   by_cases hend : a' = l.length
   ·have hee : ((a' : Int) == (l.length : Int)) = true := by simp [hend]
    have HX := Lib.hid (HErr.out 2 (by decide) (by rw [hend, List.drop_length]; rfl))
    clear hend HErr
    go_wp2_with fail
    go_quiet (fail)
    go_wp2_with fail
    go_ret
    exact HX.out _ (by repeat (first | exact Keeps.refl _ | refine Keeps.drewN ?_ _))
   ·have ha : a' < l.length := by omega
    have hee : ((a' : Int) == (l.length : Int)) = false := by rw [beq_eq_false_iff_ne]; omega
    obtain ⟨bb, off, rfl, HC⟩ := HCells.out (by omega)
    have hcell : wr.cell? ⟨bb, off + a', none⟩ = some (.int .u8 (l[a'].toNat : Int)) := keep1 HIr.out.keeps (HC.out a' _ (by simp [ha]))
    have HD := Lib.hid (drop_cons' ha)
    clear hend
    have hxl := l[a'].toNat_lt
    by_cases h80 : l[a'] = 80
    ·have hx0 : ((l[a'].toNat : Int) == 80) = true := by rw [h80]; rfl
     have HX := Lib.hid (HErr.out 3 (by decide) (by rw [HD.out, h80]; rfl))
     clear h80 HErr
     generalize l[a'] = x at *
     go_wp2_with fail
     go_quiet (fail)
     go_wp2_with fail
     go_quiet (fail)
     go_wp2_with fail
     go_ret
     exact HX.out _ (by repeat (first | exact Keeps.refl _ | refine Keeps.drewN ?_ _))
    have hx0 : ((l[a'].toNat : Int) == 80) = false := beq80 h80
    by_cases h81 : l[a'] = 81
    ·have hx1 : ((l[a'].toNat : Int) != 81) = false := by rw [h81]; rfl
     by_cases hend2 : a' + 1 = l.length
     ·have hee2 : (((a' : Int) + 1) == (l.length : Int)) = true := by simp; omega
      have HX := Lib.hid (HErr.out 2 (by decide) (by rw [HD.out, h81, hend2, List.drop_length]; rfl))
      clear h80 h81 HErr hend2
      generalize l[a'] = x at *
      go_wp2_with fail
      go_quiet (fail)
      go_wp2_with fail
      go_quiet (fail)
      go_wp2_with fail
      go_quiet (fail)
      go_wp2_with fail
      go_ret
      exact HX.out _ (by repeat (first | exact Keeps.refl _ | refine Keeps.drewN ?_ _))
     ·have ha2 : a' + 1 < l.length := by omega
      have hee2 : (((a' : Int) + 1) == (l.length : Int)) = false := by rw [beq_eq_false_iff_ne]; omega
      have hcell2 : wr.cell? ⟨bb, off + (a' + 1), none⟩ = some (.int .u8 (l[a' + 1].toNat : Int)) := keep1 HIr.out.keeps (HC.out (a' + 1) _ (by simp [ha2]))
      have HD2 := Lib.hid (drop_cons' ha2)
      have hyl := l[a' + 1].toNat_lt
      have hi2 : ((a' : Int) + 1).toNat = a' + 1 := by omega
      clear hend2
      by_cases hbig : 1 < l[a' + 1].toNat
      ·have HX := Lib.hid (HErr.out 3 (by decide) (by rw [HD.out, h81, HD2.out]; exact rd_81big hbig))
       have hbig' : (1 : Int) < (l[a' + 1].toNat : Int) := by omega
       clear h80 h81 HErr hbig
       generalize l[a'] = x at *
       generalize l[a' + 1] = y at *
       go_wp2_with fail
       go_quiet (fail)
       go_wp2_with fail
       go_quiet (fail)
       go_wp2_with fail
       go_quiet (fail)
       go_wp2_with fail
       go_quiet (fail)
       go_wp2_with fail
       go_ret
       exact HX.out _ (by repeat (first | exact Keeps.refl _ | refine Keeps.drewN ?_ _))
      ·have HR : Hid (rd (l.drop a') = (0, 80 + l[a' + 1], 2)) := Lib.hid (by rw [HD.out, h81, HD2.out]; exact rd_81 hbig)
       have hbd : decide ((1 : Int) < (l[a' + 1].toNat : Int)) = false := by simp; omega
       have hsum : Hid ((.int .u8 (80 + (l[a' + 1].toNat : Int)) : Value) = u8v (80 + l[a' + 1])) := Lib.hid (by
        have : l[a' + 1] = 0 ∨ l[a' + 1] = 1 := by
         have : l[a' + 1].toNat = 0 ∨ l[a' + 1].toNat = 1 := by omega
         rcases this with h | h
         ·left; exact UInt8.toNat_inj.1 h
         ·right; exact UInt8.toNat_inj.1 h
        rcases this with h | h <;> rw [h] <;> rfl)
       have hyy : (l[a' + 1].toNat : Int) ≤ 1 := by omega
       clear h80 h81 HErr hbig
       generalize l[a'] = x at *
       generalize l[a' + 1] = y at *
       go_wp2_with fail
       go_quiet (fail)
       go_wp2_with fail
       go_quiet (fail)
       go_wp2_with fail
       go_quiet (fail)
       go_wp2_with fail
       go_quiet (fail)
       go_wp2_with fail
       go_quiet (fail)
       go_upto_region 15 with fail
       have HSUM := Lib.hid hsum.out
       generalize hW : World.setCell _ _ _ = w4
       have hI4 : RdIs W0 w4 g (.slice (some ⟨bb, off, none⟩) l.length cap) l (a' + 2) (.slice po (o ++ m).length capo) (o ++ m) := by
        rw [← hW]
        exact (HIr.out.kept (by repeat (first | exact Keeps.refl _ | refine Keeps.drewN ?_ _))).setA (a' + 2) (by omega)
       have hI5 := hI4.kept ((Keeps.refl _).alloc (.cells #[.int .u8 (80 + (y.toNat : Int))] 5))
       obtain ⟨hd0, hd1, hd2⟩ := hI4.cells
       have HI5 := Lib.hid hI5
       clear hW hI4 hI5 hc0 hc1 hc2 hf0 hf1 hf2 HIr
       go_wp2_with (at_builtin; refine wpList_app1 (base := 0) u8ok rfl _ _ rfl (.slice po (o ++ m).length capo) (.slice (some ⟨w4.heap.size, 0, none⟩) 1 1) ((o ++ m).map u8v) [.int .u8 (80 + (y.toNat : Int))] (by rw [HOM.out]; rfl) rfl HI5.out.own (row_one rfl) (by simp [Value.oneCell']) (by simp; omega) (by omega) (Nat.zero_le _) ?_; intro v' w2 ho2 hg2 hf2; obtain ⟨p2, n2, cap2, rfl⟩ := ho2.sl; have hB2 := HI5.out.blk.grown hg2 HI5.out.ne; have hx2 : w2.cell? ⟨g, 2, none⟩ = some (.slice po (o ++ m).length capo) := by { rw [hB2.cell]; rfl }; have hfz2 : w2.frozen? ⟨g, 2, none⟩ = false := hB2.frozen 2; have HG := Lib.hid (HI5.out.grown (o' := o ++ (m ++ [80 + y])) hg2 (by rw [← List.append_assoc, List.map_append, List.map_singleton, ← HSUM.out]; exact ho2) hf2); clear hB2 ho2 hg2 hf2)
       go_roundg n'
       case rel =>
        have hr := rdN_ok (k := n') HR.out
        rw [List.drop_drop] at hr
        exact ⟨a' + 2, _, m ++ [80 + y], HG.out, by simp; omega, by omega, by rw [HE.out.1, hr], by rw [HE.out.2.1, hr]; simp, by rw [HE.out.2.2, hr]; simp only; omega⟩
       case measure => omega
    ·have hx1 : ((l[a'].toNat : Int) != 81) = true := by
      rw [bne_iff_ne]
      intro e
      have h2 : l[a'].toNat ≠ 81 := fun h => h81 (UInt8.toNat_inj.1 h)
      omega
     have HR : Hid (rd (l.drop a') = (0, l[a'], 1)) := Lib.hid (by rw [HD.out]; exact rd_plain h80 h81)
     clear h80 h81 HErr
     generalize l[a'] = x at *
     go_wp2_with fail
     go_quiet (fail)
     go_wp2_with fail
     go_quiet (fail)
     go_upto_region 15 with fail
     generalize hW : World.setCell _ _ _ = w4
     have hI4 : RdIs W0 w4 g (.slice (some ⟨bb, off, none⟩) l.length cap) l (a' + 1) (.slice po (o ++ m).length capo) (o ++ m) := by
      rw [← hW]
      exact (HIr.out.kept (by repeat (first | exact Keeps.refl _ | refine Keeps.drewN ?_ _))).setA (a' + 1) (by omega)
     have hI5 := hI4.kept ((Keeps.refl _).alloc (.cells #[.int .u8 (x.toNat : Int)] 5))
     obtain ⟨hd0, hd1, hd2⟩ := hI4.cells
     have HI5 := Lib.hid hI5
     clear hW hI4 hI5 hc0 hc1 hc2 hf0 hf1 hf2 HIr
     go_wp2_with (at_builtin; refine wpList_app1 (base := 0) u8ok rfl _ _ rfl (.slice po (o ++ m).length capo) (.slice (some ⟨w4.heap.size, 0, none⟩) 1 1) ((o ++ m).map u8v) [.int .u8 (x.toNat : Int)] (by rw [HOM.out]; rfl) rfl HI5.out.own (row_one rfl) (by simp [Value.oneCell']) (by simp; omega) (by omega) (Nat.zero_le _) ?_; intro v' w2 ho2 hg2 hf2; obtain ⟨p2, n2, cap2, rfl⟩ := ho2.sl; have hB2 := HI5.out.blk.grown hg2 HI5.out.ne; have hx2 : w2.cell? ⟨g, 2, none⟩ = some (.slice po (o ++ m).length capo) := by { rw [hB2.cell]; rfl }; have hfz2 : w2.frozen? ⟨g, 2, none⟩ = false := hB2.frozen 2; have HG := Lib.hid (HI5.out.grown (o' := o ++ (m ++ [x])) hg2 (by rw [← List.append_assoc, List.map_append, List.map_singleton, show u8v x = .int .u8 (x.toNat : Int) from rfl]; exact ho2) hf2); clear hB2 ho2 hg2 hf2)
     go_roundg n'
     case rel =>
      have hr := rdN_ok (k := n') HR.out
      rw [List.drop_drop] at hr
      exact ⟨a' + 1, _, m ++ [x], HG.out, by simp; omega, by omega, by rw [HE.out.1, hr], by rw [HE.out.2.1, hr]; simp, by rw [HE.out.2.2, hr]; simp only; omega⟩
     case measure => omega
end Frm
end Go.Proofs.YtklbemkafdccgaaGreat

/- frame.At. -/
namespace Go.Proofs.YtklbemkafdccgaaGreat
open Go.RowKit
namespace Frm
open Oct

def frV (f : Fr1) (pv : Value) : Value := .agg #[.int .i64 f.at', .int .i64 f.len, .int .i64 f.kind, pv]
/-- a frame and an error; the payload is new -/
def AtDid (W : World) (f : Fr1) (n : Int) (e : Ending) (w' : World) : Prop :=
 ∃ pv, e = .returned (.tuple #[frV f pv, .int .i64 n]) ∧ Piece w' W.heap.size 5 pv (f.pay.map u8v) ∧ Keeps W w'

theorem run_cut_lhm {P : Program} (w : World) {t e : TypeId} (ht : P.underlying t = some (.slice e)) (hs : ∀ w, (sizeOf e).run P w = .ok 1 w) (p : Option Addr) (len cap : Nat) {kl kh km : IntKind} (l h : Nat) (h1 : l ≤ h) (h2 : h ≤ cap) :
  (Instr.slice t (.slice p len cap) (some (.int kl l)) (some (.int kh h)) (some (.int km h))).run P w = .ok (cutv p l h h) w := by
 have he : P.elem t = e := by simp [Program.elem, ht]
 rw [run_slice_lhm w t p len cap (by rw [he]; exact ht) kl kh km l h h (by omega) (by omega) (by omega) (by omega), he, hs]
 simp [Result.andThen, sliced_cutv]

def F0 : Fr1 := ⟨0, 0, 0, []⟩
theorem at_fail {W : World} {l : List UInt8} {a n : Int} (h : atE l a = n) (hn : n ≠ 0) {w' : World} (hk : Keeps W w') : AtDid W (atF l a) (atE l a) (.returned (.tuple #[.agg #[.int .i64 0, .int .i64 0, .int .i64 0, .slice none 0 0], .int .i64 n])) w' := by
 rw [atF_zero (by rw [h]; exact hn), h]
 exact ⟨_, rfl, Piece.nil _ _ _, hk⟩

set_option maxRecDepth 100000 in
set_option maxHeartbeats 2000000 in
theorem at_any (v : Value) (l : List UInt8) (a : Int) (w : World) (hr : Row w v (l.map u8v)) (hl : l.length ≤ 70368744177664) : Calls Tryz.prog 218 #[v, .int .i64 a] w (AtDid w (atF l a) (atE l a)) := by
 by_cases h1 : a < 0 ∨ (l.length : Int) < a
 ·have HX := Lib.hid (fun w' (hk : Keeps w w') => at_fail (W := w) (l := l) (a := a) (n := 1) (by simp [atE, h1]) (by decide) hk)
  obtain ⟨p, cap, rfl, hc1, hc2⟩ := hr.formB
  have h1' : a < 0 ∨ (0 ≤ a ∧ (l.length : Int) < a) := by omega
  clear h1
  rcases h1' with h | ⟨h, h'⟩
  all_goals
   go_enter Tryz.func218, Tryz.ntmps218
   go_wp2_with fail
   exact bodyPost_ret (v := .tuple #[.agg #[.int .i64 0, .int .i64 0, .int .i64 0, .slice none 0 0], .int .i64 1]) (by simp [results, Tryz.results218, go_sem]) rfl (HX.out _ ((Keeps.refl _).alloc _))
 obtain ⟨n, rfl⟩ := Int.eq_ofNat_of_zero_le (show 0 ≤ a by omega)
 have hn : n ≤ l.length := by omega
 have hd1 : decide ((n : Int) < 0) = false := by simp
 have hd2 : decide (l.length < n) = false := by simp; omega
 by_cases h2 : n = l.length
 ·have HX := Lib.hid (fun w' (hk : Keeps w w') => at_fail (W := w) (l := l) (a := n) (n := 2) (by rw [atE, if_neg h1, Int.toNat_natCast, h2, List.drop_length]) (by decide) hk)
  obtain ⟨p, cap, rfl, hc1, hc2⟩ := hr.formB
  have he : ((n : Int) == (l.length : Int)) = true := by simp [h2]
  clear h1 h2
  go_enter Tryz.func218, Tryz.ntmps218
  go_wp2_with fail
  exact bodyPost_ret (v := .tuple #[.agg #[.int .i64 0, .int .i64 0, .int .i64 0, .slice none 0 0], .int .i64 2]) (by simp [results, Tryz.results218, go_sem]) rfl (HX.out _ ((Keeps.refl _).alloc _))
 have hlt : n < l.length := by omega
 have he : ((n : Int) == (l.length : Int)) = false := by rw [beq_eq_false_iff_ne]; omega
 have hatE : atE l n = if l[n] ≠ 80 then 3 else (inner (l.drop (n + 1))).1 := by
  rw [atE, if_neg h1, Int.toNat_natCast, drop_cons' hlt]
 have hatF : atE l n = 0 → atF l n = ⟨n, 1 + (inner (l.drop (n + 1))).2.2, ((inner (l.drop (n + 1))).2.1.headD 0).toNat, (inner (l.drop (n + 1))).2.1.drop 9⟩ := fun h => by
  rw [atF, if_pos h, Int.toNat_natCast, drop_cons' hlt]
 obtain ⟨b, off, cap, rfl, hc1, hc2, HC⟩ := hr.bytesAt (by omega)
 have hcell : w.cell? ⟨b, off + n, none⟩ = some (.int .u8 (l[n].toNat : Int)) := HC.out n _ (by simp [hlt])
 have hbl := lt_of_cell hcell
 clear h1 h2
 by_cases h80 : l[n] ≠ 80
 ·have HX := Lib.hid (fun w' (hk : Keeps w w') => at_fail (W := w) (l := l) (a := n) (n := 3) (by rw [hatE, if_pos h80]) (by decide) hk)
  have hx : ((l[n].toNat : Int) != 80) = true := by
   have h2 : l[n].toNat ≠ 80 := fun h => h80 (UInt8.toNat_inj.1 h)
   rw [bne_iff_ne]; omega
  have hxl := l[n].toNat_lt
  clear hatE hatF h80
  generalize l[n] = x at *
  go_enter Tryz.func218, Tryz.ntmps218
  go_wp2_with fail
  exact bodyPost_ret (v := .tuple #[.agg #[.int .i64 0, .int .i64 0, .int .i64 0, .slice none 0 0], .int .i64 3]) (by simp [results, Tryz.results218, go_sem]) rfl (HX.out _ ((Keeps.refl _).alloc _))
 have h80 : l[n] = 80 := Classical.not_not.1 h80
 rw [if_neg (by simp [h80])] at hatE
 rw [h80] at hcell
 have hcell' : w.cell? ⟨b, off + n, none⟩ = some (.int .u8 80) := hcell
 have HEF := Lib.hid (And.intro hatE hatF)
 have HR := Lib.hid hr
 clear hcell hatE hatF h80 hr HC
 generalize hrr : l.drop (n + 1) = r at *
 have HRR := Lib.hid hrr
 clear hrr
 go_enter Tryz.func218, Tryz.ntmps218
 go_upto_region 8 with fail
 generalize hW1 : World.alloc w (.cells #[.int .i64 0, .int .i64 0, .int .i64 0, .slice none 0 0] 238) = w1
 have hK1 : Keeps w w1 := by rw [← hW1]; exact (Keeps.refl _).alloc _
 have hF1 : Blk w1 w.heap.size 238 #[.int .i64 0, .int .i64 0, .int .i64 0, .slice none 0 0] := by rw [← hW1]; exact Blk.new _ _ _ rfl
 have hsz1 : w1.heap.size = w.heap.size + 1 := by rw [← hW1]; simp
 have hrow1 := HR.out.keeps hK1
 clear hW1
 generalize hW2 : World.alloc w1 _ = w2
 have hK2 : Keeps w1 w2 := by rw [← hW2]; exact (Keeps.refl _).alloc _
 have hI2 : RdIs w1 w2 (w.heap.size + 1) (.slice (some ⟨b, off, none⟩) l.length cap) l (n + 1) (.slice none 0 0) [] := by
  refine ⟨by rw [← hW2]; exact Blk.new _ _ _ hsz1.symm, Own.nil _ _ _, ?_, hK2, by omega⟩
  rintro x (rfl | h)
  ·omega
  ·simp [Value.ownBlock] at h
 have HI2 := Lib.hid hI2
 have HF1 := Lib.hid hF1
 have HK1 := Lib.hid hK1
 have HRow1 := Lib.hid hrow1
 clear hW2 hK2 hI2 hF1 hrow1 hcell' hbl hK1
 generalize hG : w.heap.size + 1 = g at *
 have HG := Lib.hid (And.intro hG hsz1)
 generalize hF : w.heap.size = F at *
 have HF := Lib.hid hF
 have hFge : w.heap.size ≤ F := by omega
 clear hG hF hsz1
 -- any error from here on
 have HErr : Hid (∀ er w', er ≠ 0 → (inner r).1 = er → Keeps w w' → AtDid w (atF l n) (atE l n) (.returned (.tuple #[.agg #[.int .i64 0, .int .i64 0, .int .i64 0, .slice none 0 0], .int .i64 er])) w') := Lib.hid (fun er w' hne h hk => by
  exact at_fail (n := er) (by rw [HEF.out.1, h]) hne hk)
 have hFcells : ∀ w', Keeps w1 w' → (w'.cell? ⟨F, 0, none⟩ = some (.int .i64 0) ∧ w'.cell? ⟨F, 1, none⟩ = some (.int .i64 0) ∧ w'.cell? ⟨F, 2, none⟩ = some (.int .i64 0) ∧ w'.cell? ⟨F, 3, none⟩ = some (.slice none 0 0)) ∧ (w'.frozen? ⟨F, 0, none⟩ = false ∧ w'.frozen? ⟨F, 1, none⟩ = false ∧ w'.frozen? ⟨F, 2, none⟩ = false ∧ w'.frozen? ⟨F, 3, none⟩ = false) := fun w' k => by
  have h := HF1.out.keeps k
  exact ⟨⟨by rw [h.cell]; rfl, by rw [h.cell]; rfl, by rw [h.cell]; rfl, by rw [h.cell]; rfl⟩, h.frozen 0, h.frozen 1, h.frozen 2, h.frozen 3⟩
 have HFC := Lib.hid hFcells
 clear hFcells
 have HC5 : Hid (Calls Tryz.prog 247 #[.pointer (some ⟨g, 0, none⟩), .int .i64 5] w2 (ReadDid w1 g (.slice (some ⟨b, off, none⟩) l.length cap) l (n + 1) [] (rdN 5 r))) := Lib.hid (by
  have := read_any w1 g _ l (n + 1) (.slice none 0 0) [] 5 w2 HRow1.out HI2.out (by simp)
  rw [HRR.out] at this
  exact this)
 go_wp2_with fail
 refine HC5.out.mono ?_
 rintro e w3 ⟨ov3, a3, o3, rfl, hI3, hok3⟩
 by_cases h5 : (rdN 5 r).1 ≠ 0
 ·have HX := Lib.hid (fun w' (hk : Keeps w w') => HErr.out (rdN 5 r).1 w' h5 (by unfold inner; rw [if_pos h5]) hk)
  obtain ⟨⟨hf0, hf1, hf2, hf3⟩, hz0, hz1, hz2, hz3⟩ := HFC.out w3 hI3.keeps
  have hKw := HK1.out.trans hI3.keeps
  have hne : ((rdN 5 r).1 != 0) = true := by simp [h5]
  clear hI3 hok3 HErr h5
  generalize (rdN 5 r).1 = er at *
  go_wp2_with fail
  exact bodyPost_ret (v := .tuple #[.agg #[.int .i64 0, .int .i64 0, .int .i64 0, .slice none 0 0], .int .i64 er]) (by simp [results, Tryz.results218, go_sem, hf0, hf1, hf2, hf3]) rfl (HX.out _ ((((hKw.setCell (p := ⟨F, 0, none⟩) hFge _).setCell (p := ⟨F, 1, none⟩) hFge _).setCell (p := ⟨F, 2, none⟩) hFge _).setCell (p := ⟨F, 3, none⟩) hFge _))
 have h5 : (rdN 5 r).1 = 0 := Classical.not_not.1 h5
 obtain ⟨rfl, rfl⟩ := hok3 h5
 have hin5 : inner r = if 65536 < headN (rdN 5 r).2.1 then (4, [], 0)
  else if (rdN (9 + headN (rdN 5 r).2.1) r).1 ≠ 0 then rdN (9 + headN (rdN 5 r).2.1) r
  else if (Crc.more 0 ((rdN (9 + headN (rdN 5 r).2.1) r).2.1.take 5 ++ (rdN (9 + headN (rdN 5 r).2.1) r).2.1.drop 9) : Nat) ≠ getV (rdN (9 + headN (rdN 5 r).2.1) r).2.1 5 4 then (5, [], 0)
  else rdN (9 + headN (rdN 5 r).2.1) r := by unfold inner; rw [if_neg (by simp [h5])]
 have hl5 := rdN_len h5
 have hu5 := rdN_used h5
 have hsp := fun m => rdN_split (n := m) h5
 have hgb : getB (rdN 5 r).2.1 1 4 = true := by simp [getB, okk, hl5]
 have hN32 := getV4_lt (l := (rdN 5 r).2.1) (a := 1)
 rw [List.nil_append] at hI3
 rw [h5]
 rw [show getV (rdN 5 r).2.1 1 4 = headN (rdN 5 r).2.1 from rfl] at hN32
 have HG5 : Hid (∀ w' v', Row w' v' ((rdN 5 r).2.1.map u8v) → Calls Tryz.prog 116 #[v', .int .i64 1, .int .i64 4] w' fun e w'' => e = .returned (.tuple #[.int .u64 (headN (rdN 5 r).2.1 : Nat), .bool true]) ∧ w' = w'') := Lib.hid (fun w' v' h => by
  have := get_any v' _ 1 4 w' h
  rwa [hgb] at this)
 have HIn := Lib.hid hin5
 have HSp := Lib.hid hsp
 clear hin5 hsp hgb h5 hok3
 generalize (rdN 5 r).2.1 = o5 at *
 generalize (rdN 5 r).2.2 = u5 at *
 generalize headN o5 = N at *
 obtain ⟨hr0, hr1, hr2⟩ := hI3.cells
 have HI3 := Lib.hid hI3
 by_cases hbig : 65536 < N
 ·have HX := Lib.hid (fun w' (hk : Keeps w w') => HErr.out 4 w' (by decide) (by rw [HIn.out, if_pos hbig]) hk)
  obtain ⟨⟨hf0, hf1, hf2, hf3⟩, hz0, hz1, hz2, hz3⟩ := HFC.out w3 hI3.keeps
  have hKw := HK1.out.trans hI3.keeps
  clear hI3 HErr HSp HIn
  go_wp2_with fail
  refine (HG5.out w3 ov3 HI3.out.own.row).mono ?_
  rintro e w4 ⟨rfl, rfl⟩
  go_wp2_with fail
  exact bodyPost_ret (v := .tuple #[.agg #[.int .i64 0, .int .i64 0, .int .i64 0, .slice none 0 0], .int .i64 4]) (by simp [results, Tryz.results218, go_sem, hf0, hf1, hf2, hf3]) rfl (HX.out _ ((((hKw.setCell (p := ⟨F, 0, none⟩) hFge _).setCell (p := ⟨F, 1, none⟩) hFge _).setCell (p := ⟨F, 2, none⟩) hFge _).setCell (p := ⟨F, 3, none⟩) hFge _))
 have hbd : decide (65536 < N) = false := by simp; omega
 have HC9 : Hid (Calls Tryz.prog 247 #[.pointer (some ⟨g, 0, none⟩), .int .i64 (9 + (N : Int))] w3 (ReadDid w1 g (.slice (some ⟨b, off, none⟩) l.length cap) l (n + 1 + u5) o5 (rdN (4 + N) (r.drop u5)))) := Lib.hid (by
  have := read_any w1 g _ l (n + 1 + u5) ov3 o5 (4 + N) w3 HRow1.out HI3.out (by omega)
  rw [← List.drop_drop, HRR.out, hl5, show ((5 + (4 + N) : Nat) : Int) = 9 + (N : Int) from by omega] at this
  exact this)
 have hsp := HSp.out (4 + N)
 rw [show 5 + (4 + N) = 9 + N from by omega] at hsp
 have hin9 := HIn.out
 rw [if_neg hbig] at hin9
 have HIn9 := Lib.hid hin9
 clear hin9 HIn HSp hI3
 have hHI3 := HI3
 clear hHI3
 go_wp2_with fail
 refine (HG5.out w3 ov3 HI3.out.own.row).mono ?_
 rintro e w4 ⟨rfl, rfl⟩
 go_wp2_with fail
 refine HC9.out.mono ?_
 rintro e w4 ⟨ov4, a4, o4, rfl, hI4, hok4⟩
 clear hr0 hr1 hr2 HC9 HG5
 by_cases h9 : (rdN (4 + N) (r.drop u5)).1 ≠ 0
 ·have HX := Lib.hid (fun w' (hk : Keeps w w') => HErr.out (rdN (4 + N) (r.drop u5)).1 w' h9 (by rw [HIn9.out, hsp, if_pos h9]) hk)
  obtain ⟨⟨hf0, hf1, hf2, hf3⟩, hz0, hz1, hz2, hz3⟩ := HFC.out w4 hI4.keeps
  have hKw := HK1.out.trans hI4.keeps
  have hne : ((rdN (4 + N) (r.drop u5)).1 != 0) = true := by simp [h9]
  clear hI4 hok4 HErr h9 hsp HIn9
  generalize (rdN (4 + N) (r.drop u5)).1 = er at *
  go_wp2_with fail
  exact bodyPost_ret (v := .tuple #[.agg #[.int .i64 0, .int .i64 0, .int .i64 0, .slice none 0 0], .int .i64 er]) (by simp [results, Tryz.results218, go_sem, hf0, hf1, hf2, hf3]) rfl (HX.out _ ((((hKw.setCell (p := ⟨F, 0, none⟩) hFge _).setCell (p := ⟨F, 1, none⟩) hFge _).setCell (p := ⟨F, 2, none⟩) hFge _).setCell (p := ⟨F, 3, none⟩) hFge _))
 have h9 : (rdN (4 + N) (r.drop u5)).1 = 0 := Classical.not_not.1 h9
 obtain ⟨rfl, rfl⟩ := hok4 h9
 have hl9 := rdN_len h9
 have hin := HIn9.out
 rw [hsp, h9, if_neg (by simp)] at hin
 simp only at hin
 rw [h9]
 have hu9 := rdN_used h9
 rw [List.length_drop] at hu9
 have hrl : r.length = l.length - (n + 1) := by rw [← HRR.out, List.length_drop]
 clear HIn9 hsp hok4 h9
 generalize (rdN (4 + N) (r.drop u5)).2.1 = m9 at *
 generalize (rdN (4 + N) (r.drop u5)).2.2 = u9 at *
 have hlO : (o5 ++ m9).length = 9 + N := by rw [List.length_append, hl5, hl9]; omega
 generalize o5 ++ m9 = O at *
 have HIn := Lib.hid hin
 have HL := Lib.hid hlO
 have hAn : n + 1 + u5 + u9 ≤ l.length := hI4.le
 have hA0 : n + 1 + u5 + u9 = n + (1 + (u5 + u9)) := by omega
 generalize hA : n + 1 + u5 + u9 = A at *
 have HA := Lib.hid hA0
 obtain ⟨hr0, hr1, hr2⟩ := hI4.cells
 obtain ⟨go, capo, hov, -, hco1, hco2⟩ := hI4.own.form (by rw [List.length_map, hlO]; omega)
 rw [List.length_map, hlO] at hov hco1
 subst hov
 have hgb : getB O 5 4 = true := by simp [getB, okk, hlO] <;> omega
 have hglt := lt_of_cell hr0
 have HGet := Lib.hid (fun w' h => get_any (.slice (some ⟨go, 0, none⟩) (9 + N) capo) O 5 4 w' h)
 rw [hgb] at HGet
 have HI4 := Lib.hid hI4
 have hgo := hI4.own.block_lt go (by simp [Value.ownBlock])
 unfold maxLen at hco2
 have e5 : ∀ w, (Instr.slice 51 (.slice (some ⟨go, 0, none⟩) (9 + N) capo) none (some (.int .i64 5)) none).run Tryz.prog w = .ok (cutv (some ⟨go, 0, none⟩) 0 5 capo) w := fun w => run_cut_h w Tryz.underlying51 s5 _ (9 + N) capo 5 (by omega)
 have e9 : ∀ w, (Instr.slice 51 (.slice (some ⟨go, 0, none⟩) (9 + N) capo) (some (.int .i64 9)) none none).run Tryz.prog w = .ok (cutv (some ⟨go, 0, none⟩) 9 (9 + N) capo) w := fun w => run_cut_l w Tryz.underlying51 s5 _ (9 + N) capo 9 (by omega)
 have hrow5 : ∀ w', Keeps w4 w' → Row w' (cutv (some ⟨go, 0, none⟩) 0 5 capo) ((O.take 5).map u8v) ∧ Row w' (cutv (some ⟨go, 0, none⟩) 9 (9 + N) capo) ((O.drop 9).map u8v) := fun w' hk => by
  have h := (HI4.out.own.keeps hk).row
  refine ⟨by simpa [List.map_take] using h.cut (lo := 0) (hi := 5) (by omega) (by rw [List.length_map, HL.out]; omega), ?_⟩
  have := h.cut (lo := 9) (hi := 9 + N) (by omega) (by rw [List.length_map, HL.out]; omega)
  rw [List.map_drop]
  rwa [List.take_of_length_le (by rw [List.length_drop, List.length_map, HL.out]; omega)] at this
 have HSum : Hid (∀ w', Keeps w4 w' → Calls Tryz.prog 186 #[cutv (some ⟨go, 0, none⟩) 0 5 capo, cutv (some ⟨go, 0, none⟩) 9 (9 + N) capo] w' fun e w'' => e = .returned (.int .u32 (Crc.more 0 (O.take 5 ++ O.drop 9) : Nat)) ∧ Keeps w' w'') := Lib.hid (fun w' hk => sum_any _ _ _ _ w' (hrow5 w' hk).1 (hrow5 w' hk).2)
 have hsl : Crc.more 0 (O.take 5 ++ O.drop 9) < 4294967296 := Crc.more_lt _ _
 have hgl := getV4_lt (l := O) (a := 5)
 have hO0 : ∃ x, O[0]? = some x := ⟨O[0]'(by omega), List.getElem?_eq_getElem (by omega)⟩
 obtain ⟨x0, hx0⟩ := hO0
 have HX0 := Lib.hid hx0
 clear hrow5 hgb hin hl5 hl9 hlO hI4 hA hA0 hx0
 go_wp2_with fail
 refine (HGet.out w4 HI4.out.own.row).mono ?_
 rintro e w5 ⟨rfl, rfl⟩
 generalize hsm : Crc.more 0 (O.take 5 ++ O.drop 9) = sm at *
 generalize hgv : getV O 5 4 = gv at *
 have HSV := Lib.hid (And.intro hsm hgv)
 clear hsm hgv
 go_wp2_with fail
 refine wp_region_kept (by kernel_rfl) (by kernel_rfl) ?_
 repeat (go_big_quiet_step (exact Kept.call _ (HSum.out _ (Kept.h _))))
 refine wpQuiet_nil ?_
 intro w6 hw'
 have hk6 : Keeps w4 w6 := by obtain ⟨k, rfl⟩ := hw'; exact k.h
 clear hw'
 have hI6 := HI4.out.kept hk6
 obtain ⟨hr0', hr1', hr2'⟩ := hI6.cells
 have HI6 := Lib.hid hI6
 obtain ⟨⟨hf0, hf1, hf2, hf3⟩, hz0, hz1, hz2, hz3⟩ := HFC.out w6 hI6.keeps
 have hKw := HK1.out.trans hI6.keeps
 clear hr0 hr1 hr2 hI6 hk6 HSum e5 e9
 by_cases hne : sm ≠ gv
 ·have hne' : ((sm : Int) != (gv : Int)) = true := by rw [bne_iff_ne]; omega
  have HX := Lib.hid (fun w' (hk : Keeps w w') => HErr.out 5 w' (by decide) (by rw [HIn.out, if_pos hne]) hk)
  clear hne HErr
  go_wp2_with fail
  exact bodyPost_ret (v := .tuple #[.agg #[.int .i64 0, .int .i64 0, .int .i64 0, .slice none 0 0], .int .i64 5]) (by simp [results, Tryz.results218, go_sem, hf0, hf1, hf2, hf3]) rfl (HX.out _ ((((hKw.setCell (p := ⟨F, 0, none⟩) hFge _).setCell (p := ⟨F, 1, none⟩) hFge _).setCell (p := ⟨F, 2, none⟩) hFge _).setCell (p := ⟨F, 3, none⟩) hFge _))
 have hne' : ((sm : Int) != (gv : Int)) = false := by
  have : sm = gv := Classical.not_not.1 hne
  simp [this]
 have HInn : Hid (inner r = (0, O, u5 + u9)) := Lib.hid (by rw [HIn.out, if_neg hne])
 have hx0 : w6.cell? ⟨go, 0, none⟩ = some (.int .u8 (x0.toNat : Int)) := HI6.out.own.cellAt 0 _ (by rw [List.getElem?_map, HX0.out]; rfl)
 have hx0l := x0.toNat_lt
 clear hne HErr HIn HSV
 go_wp2_with fail
 obtain ⟨pz, hpz⟩ : ∃ pz, cutv (some ⟨go, 0, none⟩) 9 (9 + N) (9 + N) = .slice pz N N := ⟨_, by simp [cutv]; rfl⟩
 have HPz := Lib.hid hpz
 have ea : ∀ w, (Instr.slice 51 (.slice (some ⟨go, 0, none⟩) (9 + N) capo) (some (.int .i64 9)) (some (.int .i64 (9 + (N : Int)))) (some (.int .i64 (9 + (N : Int))))).run Tryz.prog w = .ok (.slice pz N N) w := fun w => by
  rw [← hpz, show (9 + (N : Int)) = ((9 + N : Nat) : Int) from by omega]
  exact run_cut_lhm w Tryz.underlying51 s5 (some ⟨go, 0, none⟩) (9 + N) capo 9 (9 + N) (by omega) (by omega)
 clear hpz
 have hw1 : IntKind.i64.wrap ((A : Int) - n) = (A : Int) - n := IntWalk.i64_in _ (by omega)
 have hw2 : IntKind.i64.wrap (x0.toNat : Int) = (x0.toNat : Int) := IntWalk.i64_in _ (by omega)
 have h09 : 0 < 9 + N := by omega
 have h09' : (0 : Int) < 9 + (N : Int) := by omega
 go_still_tail 30, (by kernel_rfl)
 change wpList _ _ _ _ _ (World.drew _)
 clear ea hw1 hw2 h09 h09'
 have HPc : Hid (Piece w6 w.heap.size 5 (.slice pz N N) ((O.drop 9).map u8v)) := Lib.hid (by
  have h := (HI6.out.own.raise (fun x hx => by have := HI6.out.base x (.inr hx); have := HK1.out.size; omega) : Own w6 w.heap.size 5 _ _).piece
  have h2 := (h.cutN (lo := 9) (by rw [List.length_map, HL.out]) (by omega))
  rw [HPz.out, ← List.map_drop] at h2
  exact h2)
 have HFin : Hid (atE l n = 0 ∧ atF l n = ⟨n, (A : Int) - n, (x0.toNat : Int), O.drop 9⟩) := Lib.hid (by
  have h0 : atE l n = 0 := by rw [HEF.out.1, HInn.out]
  refine ⟨h0, ?_⟩
  rw [HEF.out.2 h0, HInn.out]
  have := HA.out
  have hh : O.headD 0 = x0 := by
   have := HX0.out
   cases O with
   |nil => simp at this
   |cons y O => simp at this; simp [this]
  simp only [Fr1.mk.injEq, hh, and_true, true_and]
  omega)
 have hMod : Mods (· = F) w6 ((((w6.setCell ⟨F, 0, none⟩ (.int .i64 (n : Int))).setCell ⟨F, 1, none⟩ (.int .i64 ((A : Int) - n))).setCell ⟨F, 2, none⟩ (.int .i64 (x0.toNat : Int))).setCell ⟨F, 3, none⟩ (.slice pz N N)).drew :=
  ((((Mods.setCell (p := ⟨F, 0, none⟩) (Mods.refl (· = F) w6) (fun _ => rfl) _).setCell (p := ⟨F, 1, none⟩) (fun _ => rfl) _).setCell (p := ⟨F, 2, none⟩) (fun _ => rfl) _).setCell (p := ⟨F, 3, none⟩) (fun _ => rfl) _).drew
 have hFty : ∀ x, x = F → ∀ cs fr, w6.heap[x]? ≠ some (.cells cs 5 fr) := by
  rintro x rfl cs fr h
  have := HF1.out.keeps HI6.out.keeps
  unfold Blk at this
  rw [this] at h
  simp at h
 have HPF := Lib.hid (HPc.out.modsT hMod hFty)
 have HKF := Lib.hid (hMod.keeps hKw (fun x hx => by rw [hx]; exact hFge))
 clear hMod hFty
 go_wp2_with fail
 refine bodyPost_ret (v := .tuple #[.agg #[.int .i64 (n : Int), .int .i64 ((A : Int) - n), .int .i64 (x0.toNat : Int), .slice pz N N], .int .i64 0]) (by simp [results, Tryz.results218, go_sem, hf0, hf1, hf2, hf3]) rfl ?_
 exact ⟨.slice pz N N, by rw [HFin.out.1, HFin.out.2]; rfl, by rw [HFin.out.2]; exact HPF.out, HKF.out⟩
end Frm
end Go.Proofs.YtklbemkafdccgaaGreat

/- Lists of frames in memory; frame.Row. -/
namespace Go.Proofs.YtklbemkafdccgaaGreat
open Go.RowKit
namespace Frm
open Oct

def frC (x : Fr1 × Value) : List Value := [.int .i64 x.1.at', .int .i64 x.1.len, .int .i64 x.1.kind, x.2]
theorem frC_len (x : Fr1 × Value) : (frC x).length = 4 := rfl
def isSl : Value → Prop
 | .slice _ _ _ => True
 | _ => False

/-- a slice of frames of the call's own, their payloads new -/
structure FramesAt (w : World) (base : Nat) (v : Value) (l : List (Fr1 × Value)) : Prop where
 own : w.ownsRow base 238 4 v l.length (l.flatMap frC)
 pay : ∀ x ∈ l, Piece w base 5 x.2 (x.1.pay.map u8v)

section
variable {w w' : World} {base : Nat} {v : Value} {l : List (Fr1 × Value)}
theorem FramesAt.nil (w : World) (base : Nat) : FramesAt w base (.slice none 0 0) [] := ⟨World.ownsRow_nil w base _ 4, by simp⟩
theorem ownsRow_keeps {e : TypeId} {C n : Nat} {xs : List Value} (h : w.ownsRow base e C v n xs) (k : Keeps w w') : w'.ownsRow base e C v n xs := by
 refine ⟨h.1, ?_⟩
 rcases h.2 with hn | ⟨g, cap, cur, rfl, hb, hgg, rest⟩
 ·exact .inl hn
 ·exact .inr ⟨g, cap, cur, rfl, hb, by rw [k.block (Array.getElem?_eq_some_iff.1 hgg).1]; exact hgg, rest⟩
theorem FramesAt.keeps (h : FramesAt w base v l) (k : Keeps w w') : FramesAt w' base v l := ⟨ownsRow_keeps h.own k, fun x hx => (h.pay x hx).keeps k⟩
theorem ownsRow_ty {e e' : TypeId} {C n : Nat} {xs : List Value} (h : w.ownsRow base e C v n xs) (hne : e ≠ e') : ∀ x, v.ownBlock = some x → ∀ cs fr, w.heap[x]? ≠ some (.cells cs e' fr) := by
 intro x hx cs fr hc
 rcases h.2 with ⟨rfl, _⟩ | ⟨g, cap, cur, rfl, hb, hgg, rest⟩
 ·simp [Value.ownBlock] at hx
 ·simp [Value.ownBlock] at hx
  subst hx
  rw [hgg] at hc
  simp only [Option.some.injEq, Obj.cells.injEq] at hc
  exact hne hc.2.1
theorem ownsRow_base {e : TypeId} {C n : Nat} {xs : List Value} (h : w.ownsRow base e C v n xs) : ∀ x, v.ownBlock = some x → base ≤ x := by
 intro x hx
 rcases h.2 with ⟨rfl, _⟩ | ⟨g, cap, cur, rfl, hb, hgg, rest⟩
 ·simp [Value.ownBlock] at hx
 ·simp [Value.ownBlock] at hx
  omega
theorem ownsRow_form {e : TypeId} {C n : Nat} {xs : List Value} (h : w.ownsRow base e C v n xs) : ∃ p cap, v = .slice p n cap ∧ n ≤ cap ∧ cap ≤ 9223372036854775807 := by
 rcases h.2 with ⟨rfl, rfl⟩ | ⟨g, cap, cur, rfl, hb, hgg, h1, h2, rest⟩
 ·exact ⟨none, 0, rfl, Nat.le_refl _, by omega⟩
 ·exact ⟨_, cap, rfl, h1, by simpa [maxLen] using h2⟩
theorem ownsRow_lt {e : TypeId} {C n : Nat} {xs : List Value} (h : w.ownsRow base e C v n xs) : ∀ x, v.ownBlock = some x → x < w.heap.size := by
 intro x hx
 rcases h.2 with ⟨rfl, _⟩ | ⟨g, cap, cur, rfl, hb, hgg, rest⟩
 ·simp [Value.ownBlock] at hx
 ·simp [Value.ownBlock] at hx
  subst hx
  exact (Array.getElem?_eq_some_iff.1 hgg).1
/-- behind an append of one frame -/
theorem FramesAt.snoc {v' : Value} {f : Fr1} {pv : Value} (h : FramesAt w base v l) (hp : Piece w base 5 pv (f.pay.map u8v)) (ho : w'.ownsRow base 238 4 v' (l.length + 1) (l.flatMap frC ++ frC (f, pv))) (hg : w.grownBy w' v.ownBlock) : FramesAt w' base v' (l ++ [(f, pv)]) := by
 have hM : Mods (fun x => v.ownBlock = some x) w w' := (Mods.refl _ w).grown hg (fun k hk _ => hk)
 have hty := ownsRow_ty (e' := 5) h.own (by decide)
 refine ⟨by simpa using ho, ?_⟩
 intro x hx
 rcases List.mem_append.1 hx with hx | hx
 ·exact (h.pay x hx).modsT hM hty
 ·simp at hx
  subst hx
  exact hp.modsT hM hty
end

theorem frok : ElemOkS Tryz.prog 233 238 4 48 := elemOkS (z := .agg #[.int .i64 0, .int .i64 0, .int .i64 0, .slice none 0 0]) Tryz.underlying233 (by kernel_rfl) rfl
theorem rowS_lit {w : World} {b C : Nat} {cs : Array Value} {e : TypeId} {l : List Value} (hb : b = w.heap.size) (hl : cs.toList = l) (hC : l.length = C) : RowS (w.alloc (.cells cs e)) C (.slice (some ⟨b, 0, none⟩) 1 1) 1 l := by
 subst hb hl
 refine ⟨by simpa using hC, .inr ⟨w.heap.size, 0, 1, rfl, Nat.le_refl _, by simp [maxLen], fun i x hx => ?_⟩⟩
 rw [Nat.zero_add, cell_alloc_new]
 simpa using hx

/-- frames, a number and an error -/
def RowDid (W : World) (fs : List Fr1) (u : Nat) (n : Int) (e : Ending) (w' : World) : Prop :=
 ∃ v l, e = .returned (.tuple #[v, .int .i64 (u : Int), .int .i64 n]) ∧ FramesAt w' W.heap.size v l ∧ l.map (·.1) = fs ∧ Keeps W w'

theorem piece_sl {w : World} {base : Nat} {e : TypeId} {v : Value} {l : List Value} (h : Piece w base e v l) : ∃ p n cap, v = .slice p n cap := by
 obtain ⟨p, cap, rfl, -⟩ := h.form
 exact ⟨_, _, _, rfl⟩

end Frm
end Go.Proofs.YtklbemkafdccgaaGreat

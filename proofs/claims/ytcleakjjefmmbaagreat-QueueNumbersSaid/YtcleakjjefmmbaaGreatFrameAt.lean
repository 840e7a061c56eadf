/- frame.At. -/
import Derived.Test.YtcleakjjefmmbaaGreatK12
import Derived.Test.YtcleakjjefmmbaaGreatFrameAtPlain
import Derived.Test.YtcleakjjefmmbaaGreatK02
import Derived.Test.YtcleakjjefmmbaaGreatK01
import Derived.StillTailTactics
namespace Go.Proofs.YtcleakjjefmmbaaGreat
open Go.RowKit
namespace Frm
open Oct

def frV (f : Fr1) (pv : Value) : Value := .agg #[.int .i64 f.at', .int .i64 f.len, .int .i64 f.kind, pv]
/-- a frame and an error; the payload is new -/
def AtDid (W : World) (f : Fr1) (n : Int) (e : Ending) (w' : World) : Prop :=
 ∃ pv, e = .returned (.tuple #[frV f pv, .int .i64 n]) ∧ Piece w' W.heap.size 5 pv (f.pay.map u8v) ∧ Keeps W w'

theorem run_cut_lhm {P : Program} (w : World) {t e : TypeId} (ht : P.underlying t = some (.slice e)) (hs : ∀ w, (sizeOf e).run P w = .ok 1 w) (p : Option Addr) (len cap : Nat) {kl kh km : IntKind} (l h : Nat) (h1 : l ≤ h) (h2 : h ≤ cap) :
  (Instr.slice t (.slice p len cap) (some (.int kl l)) (some (.int kh h)) (some (.int km h))).run P w = .ok (cutv p l h h) w := by
 have he : P.elem t = e := by simp [Program.elem, ht]
 rw [run_slice_lhm w t p len cap (by rw [he]; exact ht) kl kh km l h h (by omega) (by omega) (by omega) (by omega), he, hs]
 simp [Result.andThen, sliced_cutv]

theorem at_fail {W : World} {l : List UInt8} {a n : Int} (h : atE l a = n) (hn : n ≠ 0) {w' : World} (hk : Keeps W w') : AtDid W (atF l a) (atE l a) (.returned (.tuple #[.agg #[.int .i64 0, .int .i64 0, .int .i64 0, .slice none 0 0], .int .i64 n])) w' := by
 rw [atF_zero (by rw [h]; exact hn), h]
 exact ⟨_, rfl, Piece.nil _ _ _, hk⟩

set_option maxRecDepth 100000 in
set_option maxHeartbeats 2000000 in
theorem at_any (v : Value) (l : List UInt8) (a : Int) (w : World) (hr : Row w v (l.map u8v)) (hl : l.length ≤ 70368744177664) : Calls Tryz.prog 200 #[v, .int .i64 a] w (AtDid w (atF l a) (atE l a)) := by
 by_cases h1 : a < 0 ∨ (l.length : Int) < a
 ·have HX := Lib.hid (fun w' (hk : Keeps w w') => at_fail (W := w) (l := l) (a := a) (n := 1) (by simp [atE, h1]) (by decide) hk)
  obtain ⟨p, cap, rfl, hc1, hc2⟩ := hr.formB
  have h1' : a < 0 ∨ (0 ≤ a ∧ (l.length : Int) < a) := by omega
  clear h1
  rcases h1' with h | ⟨h, h'⟩
  all_goals
   go_enter Tryz.func200, Tryz.ntmps200
   go_wp2_with fail
   exact bodyPost_ret (v := .tuple #[.agg #[.int .i64 0, .int .i64 0, .int .i64 0, .slice none 0 0], .int .i64 1]) (by simp [results, Tryz.results200, go_sem]) rfl (HX.out _ ((Keeps.refl _).alloc _))
 obtain ⟨n, rfl⟩ := Int.eq_ofNat_of_zero_le (show 0 ≤ a by omega)
 have hn : n ≤ l.length := by omega
 have hd1 : decide ((n : Int) < 0) = false := by simp
 have hd2 : decide (l.length < n) = false := by simp; omega
 by_cases h2 : n = l.length
 ·have HX := Lib.hid (fun w' (hk : Keeps w w') => at_fail (W := w) (l := l) (a := n) (n := 2) (by rw [atE, if_neg h1, Int.toNat_natCast, h2, List.drop_length]) (by decide) hk)
  obtain ⟨p, cap, rfl, hc1, hc2⟩ := hr.formB
  have he : ((n : Int) == (l.length : Int)) = true := by simp [h2]
  clear h1 h2
  go_enter Tryz.func200, Tryz.ntmps200
  go_wp2_with fail
  exact bodyPost_ret (v := .tuple #[.agg #[.int .i64 0, .int .i64 0, .int .i64 0, .slice none 0 0], .int .i64 2]) (by simp [results, Tryz.results200, go_sem]) rfl (HX.out _ ((Keeps.refl _).alloc _))
 have hlt : n < l.length := by omega
 have he : ((n : Int) == (l.length : Int)) = false := by rw [beq_eq_false_iff_ne]; omega
 have hatE : atE l n = if l[n] ≠ 80 then 3 else (inner (l.drop (n + 1))).1 := by
  rw [atE, if_neg h1, Int.toNat_natCast, drop_cons' hlt]
 have hatF : atE l n = 0 → atF l n = ⟨n, 1 + (inner (l.drop (n + 1))).2.2, ((inner (l.drop (n + 1))).2.1.headD 0).toNat, (inner (l.drop (n + 1))).2.1.drop 9⟩ := fun h => by
  rw [atF, if_pos h, Int.toNat_natCast, drop_cons' hlt]
 obtain ⟨b, off, cap, rfl, hc1, hc2, HC⟩ := hr.bytesAt (by omega)
 have hcell : w.cell? ⟨b, off + n, none⟩ = some (.int .u8 (l[n].toNat : Int)) := HC.out n _ (by simp [hlt])
 have hbl := lt_of_cell hcell
 clear h1 h2
 by_cases h80 : l[n] ≠ 80
 ·have HX := Lib.hid (fun w' (hk : Keeps w w') => at_fail (W := w) (l := l) (a := n) (n := 3) (by rw [hatE, if_pos h80]) (by decide) hk)
  have hx : ((l[n].toNat : Int) != 80) = true := by
   have h2 : l[n].toNat ≠ 80 := fun h => h80 (UInt8.toNat_inj.1 h)
   rw [bne_iff_ne]; omega
  have hxl := l[n].toNat_lt
  clear hatE hatF h80
  generalize l[n] = x at *
  go_enter Tryz.func200, Tryz.ntmps200
  go_wp2_with fail
  exact bodyPost_ret (v := .tuple #[.agg #[.int .i64 0, .int .i64 0, .int .i64 0, .slice none 0 0], .int .i64 3]) (by simp [results, Tryz.results200, go_sem]) rfl (HX.out _ ((Keeps.refl _).alloc _))
 have h80 : l[n] = 80 := Classical.not_not.1 h80
 rw [if_neg (by simp [h80])] at hatE
 rw [h80] at hcell
 have hcell' : w.cell? ⟨b, off + n, none⟩ = some (.int .u8 80) := hcell
 have HEF := Lib.hid (And.intro hatE hatF)
 have HR := Lib.hid hr
 clear hcell hatE hatF h80 hr HC
 generalize hrr : l.drop (n + 1) = r at *
 have HRR := Lib.hid hrr
 clear hrr
 go_enter Tryz.func200, Tryz.ntmps200
 go_upto_region 8 with fail
 generalize hW1 : World.alloc w (.cells #[.int .i64 0, .int .i64 0, .int .i64 0, .slice none 0 0] 178) = w1
 have hK1 : Keeps w w1 := by rw [← hW1]; exact (Keeps.refl _).alloc _
 have hF1 : Blk w1 w.heap.size 178 #[.int .i64 0, .int .i64 0, .int .i64 0, .slice none 0 0] := by rw [← hW1]; exact Blk.new _ _ _ rfl
 have hsz1 : w1.heap.size = w.heap.size + 1 := by rw [← hW1]; simp
 have hrow1 := HR.out.keeps hK1
 clear hW1
 generalize hW2 : World.alloc w1 _ = w2
 have hK2 : Keeps w1 w2 := by rw [← hW2]; exact (Keeps.refl _).alloc _
 have hI2 : RdIs w1 w2 (w.heap.size + 1) (.slice (some ⟨b, off, none⟩) l.length cap) l (n + 1) (.slice none 0 0) [] := by
  refine ⟨by rw [← hW2]; exact Blk.new _ _ _ hsz1.symm, Own.nil _ _ _, ?_, hK2, by omega⟩
  rintro x (rfl | h)
  ·omega
  ·simp [Value.ownBlock] at h
 have HI2 := Lib.hid hI2
 have HF1 := Lib.hid hF1
 have HK1 := Lib.hid hK1
 have HRow1 := Lib.hid hrow1
 clear hW2 hK2 hI2 hF1 hrow1 hcell' hbl hK1
 generalize hG : w.heap.size + 1 = g at *
 have HG := Lib.hid (And.intro hG hsz1)
 generalize hF : w.heap.size = F at *
 have HF := Lib.hid hF
 have hFge : w.heap.size ≤ F := by omega
 clear hG hF hsz1
 -- any error from here on
 have HErr : Hid (∀ er w', er ≠ 0 → (inner r).1 = er → Keeps w w' → AtDid w (atF l n) (atE l n) (.returned (.tuple #[.agg #[.int .i64 0, .int .i64 0, .int .i64 0, .slice none 0 0], .int .i64 er])) w') := Lib.hid (fun er w' hne h hk => by
  exact at_fail (n := er) (by rw [HEF.out.1, h]) hne hk)
 have hFcells : ∀ w', Keeps w1 w' → (w'.cell? ⟨F, 0, none⟩ = some (.int .i64 0) ∧ w'.cell? ⟨F, 1, none⟩ = some (.int .i64 0) ∧ w'.cell? ⟨F, 2, none⟩ = some (.int .i64 0) ∧ w'.cell? ⟨F, 3, none⟩ = some (.slice none 0 0)) ∧ (w'.frozen? ⟨F, 0, none⟩ = false ∧ w'.frozen? ⟨F, 1, none⟩ = false ∧ w'.frozen? ⟨F, 2, none⟩ = false ∧ w'.frozen? ⟨F, 3, none⟩ = false) := fun w' k => by
  have h := HF1.out.keeps k
  exact ⟨⟨by rw [h.cell]; rfl, by rw [h.cell]; rfl, by rw [h.cell]; rfl, by rw [h.cell]; rfl⟩, h.frozen 0, h.frozen 1, h.frozen 2, h.frozen 3⟩
 have HFC := Lib.hid hFcells
 clear hFcells
 have HC5 : Hid (Calls Tryz.prog 245 #[.pointer (some ⟨g, 0, none⟩), .int .i64 5] w2 (ReadDid w1 g (.slice (some ⟨b, off, none⟩) l.length cap) l (n + 1) [] (rdN 5 r))) := Lib.hid (by
  have := read_any w1 g _ l (n + 1) (.slice none 0 0) [] 5 w2 HRow1.out HI2.out (by simp)
  rw [HRR.out] at this
  exact this)
 go_wp2_with fail
 refine HC5.out.mono ?_
 rintro e w3 ⟨ov3, a3, o3, rfl, hI3, hok3⟩
 by_cases h5 : (rdN 5 r).1 ≠ 0
 ·have HX := Lib.hid (fun w' (hk : Keeps w w') => HErr.out (rdN 5 r).1 w' h5 (by unfold inner; rw [if_pos h5]) hk)
  obtain ⟨⟨hf0, hf1, hf2, hf3⟩, hz0, hz1, hz2, hz3⟩ := HFC.out w3 hI3.keeps
  have hKw := HK1.out.trans hI3.keeps
  have hne : ((rdN 5 r).1 != 0) = true := by simp [h5]
  clear hI3 hok3 HErr h5
  generalize (rdN 5 r).1 = er at *
  go_wp2_with fail
  exact bodyPost_ret (v := .tuple #[.agg #[.int .i64 0, .int .i64 0, .int .i64 0, .slice none 0 0], .int .i64 er]) (by simp [results, Tryz.results200, go_sem, hf0, hf1, hf2, hf3]) rfl (HX.out _ ((((hKw.setCell (p := ⟨F, 0, none⟩) hFge _).setCell (p := ⟨F, 1, none⟩) hFge _).setCell (p := ⟨F, 2, none⟩) hFge _).setCell (p := ⟨F, 3, none⟩) hFge _))
 have h5 : (rdN 5 r).1 = 0 := Classical.not_not.1 h5
 obtain ⟨rfl, rfl⟩ := hok3 h5
 have hin5 : inner r = if 65536 < headN (rdN 5 r).2.1 then (4, [], 0)
  else if (rdN (9 + headN (rdN 5 r).2.1) r).1 ≠ 0 then rdN (9 + headN (rdN 5 r).2.1) r
  else if (Crc.more 0 ((rdN (9 + headN (rdN 5 r).2.1) r).2.1.take 5 ++ (rdN (9 + headN (rdN 5 r).2.1) r).2.1.drop 9) : Nat) ≠ getV (rdN (9 + headN (rdN 5 r).2.1) r).2.1 5 4 then (5, [], 0)
  else rdN (9 + headN (rdN 5 r).2.1) r := by unfold inner; rw [if_neg (by simp [h5])]
 have hl5 := rdN_len h5
 have hu5 := rdN_used h5
 have hsp := fun m => rdN_split (n := m) h5
 have hgb : getB (rdN 5 r).2.1 1 4 = true := by simp [getB, okk, hl5]
 have hN32 := getV4_lt (l := (rdN 5 r).2.1) (a := 1)
 rw [List.nil_append] at hI3
 rw [h5]
 rw [show getV (rdN 5 r).2.1 1 4 = headN (rdN 5 r).2.1 from rfl] at hN32
 have HG5 : Hid (∀ w' v', Row w' v' ((rdN 5 r).2.1.map u8v) → Calls Tryz.prog 246 #[v', .int .i64 1, .int .i64 4] w' fun e w'' => e = .returned (.tuple #[.int .u64 (headN (rdN 5 r).2.1 : Nat), .bool true]) ∧ w' = w'') := Lib.hid (fun w' v' h => by
  have := get_any v' _ 1 4 w' h
  rwa [hgb] at this)
 have HIn := Lib.hid hin5
 have HSp := Lib.hid hsp
 clear hin5 hsp hgb h5 hok3
 generalize (rdN 5 r).2.1 = o5 at *
 generalize (rdN 5 r).2.2 = u5 at *
 generalize headN o5 = N at *
 obtain ⟨hr0, hr1, hr2⟩ := hI3.cells
 have HI3 := Lib.hid hI3
 by_cases hbig : 65536 < N
 ·have HX := Lib.hid (fun w' (hk : Keeps w w') => HErr.out 4 w' (by decide) (by rw [HIn.out, if_pos hbig]) hk)
  obtain ⟨⟨hf0, hf1, hf2, hf3⟩, hz0, hz1, hz2, hz3⟩ := HFC.out w3 hI3.keeps
  have hKw := HK1.out.trans hI3.keeps
  clear hI3 HErr HSp HIn
  go_wp2_with fail
  refine (HG5.out w3 ov3 HI3.out.own.row).mono ?_
  rintro e w4 ⟨rfl, rfl⟩
  go_wp2_with fail
  exact bodyPost_ret (v := .tuple #[.agg #[.int .i64 0, .int .i64 0, .int .i64 0, .slice none 0 0], .int .i64 4]) (by simp [results, Tryz.results200, go_sem, hf0, hf1, hf2, hf3]) rfl (HX.out _ ((((hKw.setCell (p := ⟨F, 0, none⟩) hFge _).setCell (p := ⟨F, 1, none⟩) hFge _).setCell (p := ⟨F, 2, none⟩) hFge _).setCell (p := ⟨F, 3, none⟩) hFge _))
 have hbd : decide (65536 < N) = false := by simp; omega
 have HC9 : Hid (Calls Tryz.prog 245 #[.pointer (some ⟨g, 0, none⟩), .int .i64 (9 + (N : Int))] w3 (ReadDid w1 g (.slice (some ⟨b, off, none⟩) l.length cap) l (n + 1 + u5) o5 (rdN (4 + N) (r.drop u5)))) := Lib.hid (by
  have := read_any w1 g _ l (n + 1 + u5) ov3 o5 (4 + N) w3 HRow1.out HI3.out (by omega)
  rw [← List.drop_drop, HRR.out, hl5, show ((5 + (4 + N) : Nat) : Int) = 9 + (N : Int) from by omega] at this
  exact this)
 have hsp := HSp.out (4 + N)
 rw [show 5 + (4 + N) = 9 + N from by omega] at hsp
 have hin9 := HIn.out
 rw [if_neg hbig] at hin9
 have HIn9 := Lib.hid hin9
 clear hin9 HIn HSp hI3
 have hHI3 := HI3
 clear hHI3
 go_wp2_with fail
 refine (HG5.out w3 ov3 HI3.out.own.row).mono ?_
 rintro e w4 ⟨rfl, rfl⟩
 go_wp2_with fail
 refine HC9.out.mono ?_
 rintro e w4 ⟨ov4, a4, o4, rfl, hI4, hok4⟩
 clear hr0 hr1 hr2 HC9 HG5
 by_cases h9 : (rdN (4 + N) (r.drop u5)).1 ≠ 0
 ·have HX := Lib.hid (fun w' (hk : Keeps w w') => HErr.out (rdN (4 + N) (r.drop u5)).1 w' h9 (by rw [HIn9.out, hsp, if_pos h9]) hk)
  obtain ⟨⟨hf0, hf1, hf2, hf3⟩, hz0, hz1, hz2, hz3⟩ := HFC.out w4 hI4.keeps
  have hKw := HK1.out.trans hI4.keeps
  have hne : ((rdN (4 + N) (r.drop u5)).1 != 0) = true := by simp [h9]
  clear hI4 hok4 HErr h9 hsp HIn9
  generalize (rdN (4 + N) (r.drop u5)).1 = er at *
  go_wp2_with fail
  exact bodyPost_ret (v := .tuple #[.agg #[.int .i64 0, .int .i64 0, .int .i64 0, .slice none 0 0], .int .i64 er]) (by simp [results, Tryz.results200, go_sem, hf0, hf1, hf2, hf3]) rfl (HX.out _ ((((hKw.setCell (p := ⟨F, 0, none⟩) hFge _).setCell (p := ⟨F, 1, none⟩) hFge _).setCell (p := ⟨F, 2, none⟩) hFge _).setCell (p := ⟨F, 3, none⟩) hFge _))
 have h9 : (rdN (4 + N) (r.drop u5)).1 = 0 := Classical.not_not.1 h9
 obtain ⟨rfl, rfl⟩ := hok4 h9
 have hl9 := rdN_len h9
 have hin := HIn9.out
 rw [hsp, h9, if_neg (by simp)] at hin
 simp only at hin
 rw [h9]
 have hu9 := rdN_used h9
 rw [List.length_drop] at hu9
 have hrl : r.length = l.length - (n + 1) := by rw [← HRR.out, List.length_drop]
 clear HIn9 hsp hok4 h9
 generalize (rdN (4 + N) (r.drop u5)).2.1 = m9 at *
 generalize (rdN (4 + N) (r.drop u5)).2.2 = u9 at *
 have hlO : (o5 ++ m9).length = 9 + N := by rw [List.length_append, hl5, hl9]; omega
 generalize o5 ++ m9 = O at *
 have HIn := Lib.hid hin
 have HL := Lib.hid hlO
 have hAn : n + 1 + u5 + u9 ≤ l.length := hI4.le
 have hA0 : n + 1 + u5 + u9 = n + (1 + (u5 + u9)) := by omega
 generalize hA : n + 1 + u5 + u9 = A at *
 have HA := Lib.hid hA0
 obtain ⟨hr0, hr1, hr2⟩ := hI4.cells
 obtain ⟨go, capo, hov, -, hco1, hco2⟩ := hI4.own.form (by rw [List.length_map, hlO]; omega)
 rw [List.length_map, hlO] at hov hco1
 subst hov
 have hgb : getB O 5 4 = true := by simp [getB, okk, hlO] <;> omega
 have hglt := lt_of_cell hr0
 have HGet := Lib.hid (fun w' h => get_any (.slice (some ⟨go, 0, none⟩) (9 + N) capo) O 5 4 w' h)
 rw [hgb] at HGet
 have HI4 := Lib.hid hI4
 have hgo := hI4.own.block_lt go (by simp [Value.ownBlock])
 unfold maxLen at hco2
 have e5 : ∀ w, (Instr.slice 53 (.slice (some ⟨go, 0, none⟩) (9 + N) capo) none (some (.int .i64 5)) none).run Tryz.prog w = .ok (cutv (some ⟨go, 0, none⟩) 0 5 capo) w := fun w => run_cut_h w Tryz.underlying53 s5 _ (9 + N) capo 5 (by omega)
 have e9 : ∀ w, (Instr.slice 53 (.slice (some ⟨go, 0, none⟩) (9 + N) capo) (some (.int .i64 9)) none none).run Tryz.prog w = .ok (cutv (some ⟨go, 0, none⟩) 9 (9 + N) capo) w := fun w => run_cut_l w Tryz.underlying53 s5 _ (9 + N) capo 9 (by omega)
 have hrow5 : ∀ w', Keeps w4 w' → Row w' (cutv (some ⟨go, 0, none⟩) 0 5 capo) ((O.take 5).map u8v) ∧ Row w' (cutv (some ⟨go, 0, none⟩) 9 (9 + N) capo) ((O.drop 9).map u8v) := fun w' hk => by
  have h := (HI4.out.own.keeps hk).row
  refine ⟨by simpa [List.map_take] using h.cut (lo := 0) (hi := 5) (by omega) (by rw [List.length_map, HL.out]; omega), ?_⟩
  have := h.cut (lo := 9) (hi := 9 + N) (by omega) (by rw [List.length_map, HL.out]; omega)
  rw [List.map_drop]
  rwa [List.take_of_length_le (by rw [List.length_drop, List.length_map, HL.out]; omega)] at this
 have HSum : Hid (∀ w', Keeps w4 w' → Calls Tryz.prog 182 #[cutv (some ⟨go, 0, none⟩) 0 5 capo, cutv (some ⟨go, 0, none⟩) 9 (9 + N) capo] w' fun e w'' => e = .returned (.int .u32 (Crc.more 0 (O.take 5 ++ O.drop 9) : Nat)) ∧ Keeps w' w'') := Lib.hid (fun w' hk => sum_any _ _ _ _ w' (hrow5 w' hk).1 (hrow5 w' hk).2)
 have hsl : Crc.more 0 (O.take 5 ++ O.drop 9) < 4294967296 := Crc.more_lt _ _
 have hgl := getV4_lt (l := O) (a := 5)
 have hO0 : ∃ x, O[0]? = some x := ⟨O[0]'(by omega), List.getElem?_eq_getElem (by omega)⟩
 obtain ⟨x0, hx0⟩ := hO0
 have HX0 := Lib.hid hx0
 clear hrow5 hgb hin hl5 hl9 hlO hI4 hA hA0 hx0
 go_wp2_with fail
 refine (HGet.out w4 HI4.out.own.row).mono ?_
 rintro e w5 ⟨rfl, rfl⟩
 generalize hsm : Crc.more 0 (O.take 5 ++ O.drop 9) = sm at *
 generalize hgv : getV O 5 4 = gv at *
 have HSV := Lib.hid (And.intro hsm hgv)
 clear hsm hgv
 go_wp2_with fail
 refine wp_region_kept (by kernel_rfl) (by kernel_rfl) ?_
 repeat (go_big_quiet_step (exact Kept.call _ (HSum.out _ (Kept.h _))))
 refine wpQuiet_nil ?_
 intro w6 hw'
 have hk6 : Keeps w4 w6 := by obtain ⟨k, rfl⟩ := hw'; exact k.h
 clear hw'
 have hI6 := HI4.out.kept hk6
 obtain ⟨hr0', hr1', hr2'⟩ := hI6.cells
 have HI6 := Lib.hid hI6
 obtain ⟨⟨hf0, hf1, hf2, hf3⟩, hz0, hz1, hz2, hz3⟩ := HFC.out w6 hI6.keeps
 have hKw := HK1.out.trans hI6.keeps
 clear hr0 hr1 hr2 hI6 hk6 HSum e5 e9
 by_cases hne : sm ≠ gv
 ·have hne' : ((sm : Int) != (gv : Int)) = true := by rw [bne_iff_ne]; omega
  have HX := Lib.hid (fun w' (hk : Keeps w w') => HErr.out 5 w' (by decide) (by rw [HIn.out, if_pos hne]) hk)
  clear hne HErr
  go_wp2_with fail
  exact bodyPost_ret (v := .tuple #[.agg #[.int .i64 0, .int .i64 0, .int .i64 0, .slice none 0 0], .int .i64 5]) (by simp [results, Tryz.results200, go_sem, hf0, hf1, hf2, hf3]) rfl (HX.out _ ((((hKw.setCell (p := ⟨F, 0, none⟩) hFge _).setCell (p := ⟨F, 1, none⟩) hFge _).setCell (p := ⟨F, 2, none⟩) hFge _).setCell (p := ⟨F, 3, none⟩) hFge _))
 have hne' : ((sm : Int) != (gv : Int)) = false := by
  have : sm = gv := Classical.not_not.1 hne
  simp [this]
 have HInn : Hid (inner r = (0, O, u5 + u9)) := Lib.hid (by rw [HIn.out, if_neg hne])
 have hx0 : w6.cell? ⟨go, 0, none⟩ = some (.int .u8 (x0.toNat : Int)) := HI6.out.own.cellAt 0 _ (by rw [List.getElem?_map, HX0.out]; rfl)
 have hx0l := x0.toNat_lt
 clear hne HErr HIn HSV
 go_wp2_with fail
 obtain ⟨pz, hpz⟩ : ∃ pz, cutv (some ⟨go, 0, none⟩) 9 (9 + N) (9 + N) = .slice pz N N := ⟨_, by simp [cutv]; rfl⟩
 have HPz := Lib.hid hpz
 have ea : ∀ w, (Instr.slice 53 (.slice (some ⟨go, 0, none⟩) (9 + N) capo) (some (.int .i64 9)) (some (.int .i64 (9 + (N : Int)))) (some (.int .i64 (9 + (N : Int))))).run Tryz.prog w = .ok (.slice pz N N) w := fun w => by
  rw [← hpz, show (9 + (N : Int)) = ((9 + N : Nat) : Int) from by omega]
  exact run_cut_lhm w Tryz.underlying53 s5 (some ⟨go, 0, none⟩) (9 + N) capo 9 (9 + N) (by omega) (by omega)
 clear hpz
 have hw1 : IntKind.i64.wrap ((A : Int) - n) = (A : Int) - n := IntWalk.i64_in _ (by omega)
 have hw2 : IntKind.i64.wrap (x0.toNat : Int) = (x0.toNat : Int) := IntWalk.i64_in _ (by omega)
 have h09 : 0 < 9 + N := by omega
 have h09' : (0 : Int) < 9 + (N : Int) := by omega
 go_still_tail 30, (by kernel_rfl)
 change wpList _ _ _ _ _ (World.drew _)
 clear ea hw1 hw2 h09 h09'
 have HPc : Hid (Piece w6 w.heap.size 5 (.slice pz N N) ((O.drop 9).map u8v)) := Lib.hid (by
  have h := (HI6.out.own.raise (fun x hx => by have := HI6.out.base x (.inr hx); have := HK1.out.size; omega) : Own w6 w.heap.size 5 _ _).piece
  have h2 := (h.cutN (lo := 9) (by rw [List.length_map, HL.out]) (by omega))
  rw [HPz.out, ← List.map_drop] at h2
  exact h2)
 have HFin : Hid (atE l n = 0 ∧ atF l n = ⟨n, (A : Int) - n, (x0.toNat : Int), O.drop 9⟩) := Lib.hid (by
  have h0 : atE l n = 0 := by rw [HEF.out.1, HInn.out]
  refine ⟨h0, ?_⟩
  rw [HEF.out.2 h0, HInn.out]
  have := HA.out
  have hh : O.headD 0 = x0 := by
   have := HX0.out
   cases O with
   |nil => simp at this
   |cons y O => simp at this; simp [this]
  simp only [Fr1.mk.injEq, hh, and_true, true_and]
  omega)
 have hMod : Mods (· = F) w6 ((((w6.setCell ⟨F, 0, none⟩ (.int .i64 (n : Int))).setCell ⟨F, 1, none⟩ (.int .i64 ((A : Int) - n))).setCell ⟨F, 2, none⟩ (.int .i64 (x0.toNat : Int))).setCell ⟨F, 3, none⟩ (.slice pz N N)).drew :=
  ((((Mods.setCell (p := ⟨F, 0, none⟩) (Mods.refl (· = F) w6) (fun _ => rfl) _).setCell (p := ⟨F, 1, none⟩) (fun _ => rfl) _).setCell (p := ⟨F, 2, none⟩) (fun _ => rfl) _).setCell (p := ⟨F, 3, none⟩) (fun _ => rfl) _).drew
 have hFty : ∀ x, x = F → ∀ cs fr, w6.heap[x]? ≠ some (.cells cs 5 fr) := by
  rintro x rfl cs fr h
  have := HF1.out.keeps HI6.out.keeps
  unfold Blk at this
  rw [this] at h
  simp at h
 have HPF := Lib.hid (HPc.out.modsT hMod hFty)
 have HKF := Lib.hid (hMod.keeps hKw (fun x hx => by rw [hx]; exact hFge))
 clear hMod hFty
 go_wp2_with fail
 refine bodyPost_ret (v := .tuple #[.agg #[.int .i64 (n : Int), .int .i64 ((A : Int) - n), .int .i64 (x0.toNat : Int), .slice pz N N], .int .i64 0]) (by simp [results, Tryz.results200, go_sem, hf0, hf1, hf2, hf3]) rfl ?_
 exact ⟨.slice pz N N, by rw [HFin.out.1, HFin.out.2]; rfl, by rw [HFin.out.2]; exact HPF.out, HKF.out⟩
end Frm
end Go.Proofs.YtcleakjjefmmbaaGreat

/- What the document tells of frames: awake. -/
import Derived.Test.YtfmjlgkbohidjaaFrameScan
import Derived.Test.YtfmjlgkbohidjaaOctetAwake
import Derived.Lib.SlBytesConst
namespace Go.Proofs.Ytfmjlgkbohidjaa
open Go.RowKit
namespace Frm
open Oct
theorem wE1 : wrapE 1 0 = 0 := by decide
theorem veilPQR : veil [80, 81, 82] = [81, 0, 81, 1, 82] := by decide
theorem wrap1 : wrapL 1 [] = [80, 1, 0, 0, 0, 0, 251, 66, 222, 173] := by kernel_rfl
theorem scan1 : scanR [0, 80, 1, 0, 0, 0, 0, 251, 66, 222, 173] = ([⟨1, 10, 1, []⟩], [⟨0, 1⟩]) := by kernel_rfl
theorem ownsRow_at {w : World} {base C n : Nat} {e : TypeId} {xs : List Value} {v : Value} (h : w.ownsRow base e C v n xs) (hn : 0 < n) : ∃ g cap, v = .slice (some ⟨g, 0, none⟩) n cap ∧ base ≤ g ∧ n ≤ cap ∧ cap ≤ 9223372036854775807 ∧ ∀ i x, xs[i]? = some x → w.cell? ⟨g, i, none⟩ = some x := by
  have hc : ∀ g cap, v = .slice (some ⟨g, 0, none⟩) n cap → ∀ i x, xs[i]? = some x → w.cell? ⟨g, i, none⟩ = some x := fun g cap he i x hx => by
    subst he
    have := World.ownsRow.cells (h := h) (g := g) rfl i x hx
    rcases Nat.eq_zero_or_pos i with rfl | hi
    · simpa [Addr.add] using this
    · simpa [Addr.add, show i ≠ 0 from by omega] using this
  rcases h.2 with ⟨rfl, h0⟩ | ⟨g, cap, cur, rfl, hb, hgg, h1, h2, rest⟩
  · omega
  · exact ⟨g, cap, rfl, hb, h1, by simpa [maxLen] using h2, hc g cap rfl⟩

theorem own_lit {w : World} {base b : Nat} {cs : Array Value} {e : TypeId} {l : List Value} (hb : b = w.heap.size) (hl : cs.toList = l) (hbase : base ≤ b) (hm : l.length ≤ maxLen) : Own (w.alloc (.cells cs e)) base e (.slice (some ⟨b, 0, none⟩) l.length l.length) l := by
  subst hb hl
  have hs : cs.toList.length = cs.size := by simp
  refine ⟨by simp, .inr ⟨w.heap.size, cs.toList.length, cs, rfl, hbase, ?_, Nat.le_refl _, hm, by simp, by simp; exact List.take_of_length_le (by simp)⟩⟩
  show (w.heap.push _)[w.heap.size]? = _
  simp

theorem row_mark {w : World} {b : Nat} {cs : Array Value} {e : TypeId} {fr : Nat × Nat} {l : List Value} (hb : b = w.heap.size) (hl : cs.toList = l) (hm : l.length ≤ maxLen) : Row (w.alloc (.cells cs e fr)) (.slice (some ⟨b, 0, none⟩) l.length l.length) l := by
  subst hb hl
  exact .inr ⟨w.heap.size, 0, _, rfl, Nat.le_refl _, hm, fun i x hx => by
    rw [Nat.zero_add, cell_of_row _ _ _ cs e fr (by show (w.heap.push _)[w.heap.size]? = _; simp)]
    simpa using hx⟩
theorem map_one {l : List (Fr1 × Value)} {f : Fr1} (h : l.map (·.1) = [f]) : ∃ pv, l = [(f, pv)] := by
  cases l with
  | nil => simp at h
  | cons x l =>
    simp only [List.map_cons, List.cons.injEq, List.map_eq_nil_iff] at h
    obtain ⟨rfl, rfl⟩ := h
    exact ⟨x.2, rfl⟩

set_option maxRecDepth 100000 in
set_option maxHeartbeats 1000000 in
theorem awake_any (w : World) : Calls Try.prog 44 #[] w fun e w' => e = .returned (.bool true) ∧ Keeps w w' := by
  have C1 := Lib.hid (wrap_any 1 (.slice none 0 0) [] w (Own.nil w 0 5).row)
  rw [wrap1, List.length_nil, wE1] at C1
  have bt := bstr_toList
  go_enter Try.func44, Try.ntmps44
  go_wp2_with fail
  refine C1.out.mono ?_
  rintro e w1 ⟨b, rfl, hown1, hK1⟩
  obtain ⟨gb, cb, rfl, hgb, hcb, hcb2, -⟩ := ownsRow_at (n := 10) hown1 (by decide)
  have HO1 := Lib.hid hown1
  have HK1 := Lib.hid hK1
  have hsz1 := hK1.size
  clear hown1 hK1
  go_wp2_with (at_builtin; refine wpList_app1 (base := w.heap.size) u8ok rfl _ _ rfl (.slice (some ⟨w1.heap.size, 0, none⟩) 1 1) (.slice (some ⟨gb, 0, none⟩) 10 cb) [.int .u8 0] ([80, 1, 0, 0, 0, 0, 251, 66, 222, 173].map u8v) rfl rfl (own_lit (l := [.int .u8 0]) rfl rfl (Nat.le_trans hsz1 (Nat.le_refl _)) (by decide)) (HO1.out.row.keeps ((Keeps.refl _).alloc _)) (oneCell_map_u8 _) (by decide) (by decide) (by rw [alloc_size]; omega) ?_; intro v' w2 ho2 hg2 hf2)
  have HK2 : Hid (Keeps w w2) := Lib.hid ((HK1.out.alloc _).grown hg2 (fun x hx => by simp [Value.ownBlock] at hx; omega))
  have hgk : Keeps w1 w2 := ((Keeps.refl w1).alloc _).grown hg2 (fun x hx => by simp [Value.ownBlock] at hx; omega)
  have HO2 := Lib.hid (HO1.out.keeps hgk)
  have HS := Lib.hid (scan_any v' [0, 80, 1, 0, 0, 0, 0, 251, 66, 222, 173] w2 ho2.row (by decide))
  rw [scan1] at HS
  have hsz2 := HK2.out.size
  clear HO1 ho2 hg2 hf2 hgk HK1
  go_wp2_with fail
  refine HS.out.mono ?_
  rintro e w3 ⟨fv, fl, gv, rfl, hfl, hm, hgl, hK3⟩
  obtain ⟨pv, rfl⟩ := map_one hm
  obtain ⟨gf, cf, rfl, hgf, hcf, hcf2, hcells⟩ := ownsRow_at (n := 1) hfl.own (by decide)
  obtain ⟨gg, cg, rfl, hgg, hcg, hcg2, hgcells⟩ := ownsRow_at (n := 1) hgl (by decide)
  have hx0 := hcells 0 _ rfl
  have hx1 := hcells 1 _ rfl
  have hx2 := hcells 2 _ rfl
  have hx3 := hcells 3 _ rfl
  have hy0 := hgcells 0 _ rfl
  have hy1 := hgcells 1 _ rfl
  have HK3 := Lib.hid (HK2.out.trans hK3)
  have HO3 := Lib.hid (HO2.out.keeps hK3)
  have hsz3 := hK3.size
  clear hcells hgcells hfl hgl HO2 HS
  have s5 : ∀ w, (sizeOf 5).run Try.prog w = .ok 1 w := fun _ => rfl
  have e6 : ∀ w, (Instr.slice 22 (.slice (some ⟨gb, 0, none⟩) 10 cb) none (some (.int .i64 6)) none).run Try.prog w = .ok (cutv (some ⟨gb, 0, none⟩) 0 6 cb) w := fun w => run_cut_h w Try.underlying22 s5 _ 10 cb 6 (by omega)
  have kc := fun (w : World) (C : Array Value) (n c : Nat) => Lib.run_convert_bytes_const (P := Try.prog) w 22 5 C n c Try.underlying22 Try.underlying5
  have HW := Lib.hid (veil_any (.slice (some ⟨w3.heap.size, 0, none⟩) 3 3) [80, 81, 82] (w3.alloc (.cells #[.int .u8 80, .int .u8 81, .int .u8 82] 5 (3, 4))) (row_mark (l := [80, 81, 82].map u8v) rfl rfl (by decide)) (by decide))
  rw [veilPQR] at HW
  go_wp2_with fail
  refine HW.out.mono ?_
  rintro e w4 ⟨v4, rfl, hown4, hK4⟩
  obtain ⟨g4, c4, rfl, -, -, -, -⟩ := ownsRow_at (n := 5) hown4 (by decide)
  have hst4 := str_at (l := [81, 0, 81, 1, 82]) hown4.row
  have hK34 : Keeps w3 w4 := ((Keeps.refl w3).alloc _).trans hK4
  have hst6 := str_at (l := [80, 1, 0, 0, 0, 0]) ((HO3.out.keeps hK34).row.cut (lo := 0) (hi := 6) (by decide) (by decide))
  have hx0' := keep1 hK34 hx0
  have hx1' := keep1 hK34 hx1
  have hx2' := keep1 hK34 hx2
  have hx3' := keep1 hK34 hx3
  have hy0' := keep1 hK34 hy0
  have hy1' := keep1 hK34 hy1
  clear hown4 hx0 hx1 hx2 hx3 hy0 hy1 HW
  have HE := Lib.hid (HK3.out.trans hK34)
  clear hK34
  go_wp2_with fail
  go_ret
  exact ⟨rfl, HE.out⟩
end Frm
end Go.Proofs.Ytfmjlgkbohidjaa

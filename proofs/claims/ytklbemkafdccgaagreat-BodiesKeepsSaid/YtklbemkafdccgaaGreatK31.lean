/- Several texts in one: RecSame, RecBare. -/
import Derived.Test.YtklbemkafdccgaaGreatK26
import Derived.Test.YtklbemkafdccgaaGreatK02
import Derived.Test.YtklbemkafdccgaaGreatK00
import Derived.Test.YtklbemkafdccgaaGreatDrawn
import Derived.Deep.DeepCutAuto
import Derived.Test.YtklbemkafdccgaaGreatArrEq
import Derived.Lib.SliceRun
import Derived.Test.YtklbemkafdccgaaGreatK09
/- record.Same, record.all, bytes.Equal. -/
namespace Go.Proofs.YtklbemkafdccgaaGreat
open Go.RowKit
namespace Rcd

theorem rstr9 : Tryz.prog.underlying 9 = some .string := Tryz.underlying9
theorem rstr_at {w : World} {v : Value} {l : List UInt8} (h : Row w v (l.map u8v)) : (convert 51 9 v).run Tryz.prog w = .ok (.string (bstr l)) w := h.str Tryz.underlying51 Tryz.underlying5 rstr9

set_option maxRecDepth 100000 in
theorem equal_any (v1 v2 : Value) (l1 l2 : List UInt8) (w : World) (h1 : Row w v1 (l1.map u8v)) (h2 : Row w v2 (l2.map u8v)) :
  Calls Tryz.prog 123 #[v1, v2] w fun e w' => e = .returned (.bool (decide (l1 = l2))) ∧ w = w' := by
 have c1 := rstr_at h1
 have c2 := rstr_at h2
 obtain ⟨p1, k1, rfl, -, -⟩ := h1.form
 obtain ⟨p2, k2, rfl, -, -⟩ := h2.form
 simp only [List.length_map] at c1 c2 ⊢
 clear h1 h2
 go_enter Tryz.func123, Tryz.ntmps123
 go_wp2_with fail
 go_ret
 exact ⟨congrArg (fun b => Ending.returned (Value.bool b)) (by rw [bstr_toList, bstr_toList, Bool.eq_iff_iff]; simp), rfl⟩
theorem equal_k (v1 v2 : Value) (l1 l2 : List UInt8) (w : World) (h1 : Row w v1 (l1.map u8v)) (h2 : Row w v2 (l2.map u8v)) :
  Calls Tryz.prog 123 #[v1, v2] w fun e w' => e = .returned (.bool (decide (l1 = l2))) ∧ Keeps w w' :=
 (equal_any v1 v2 l1 l2 w h1 h2).mono fun _ _ ⟨he, hw⟩ => ⟨he, by rw [← hw]; exact Keeps.refl _⟩
def allA (r : Rec) : Array Value := #[.int .i64 r.kind, .int .i64 r.user, .int .i64 r.seq, .int .i64 r.next, .int .i64 r.base, .int .i64 r.uid, .int .i64 r.time, .int .i64 r.flags, .int .i64 r.body, .int .i64 r.size, .int .i64 r.origin]
set_option maxRecDepth 100000 in
set_option maxHeartbeats 2000000 in
theorem all_any (r : Rec) (dv : Value) (w : World) : Calls Tryz.prog 257 #[.agg (recA r dv)] w fun e w' => e = .returned (.agg (allA r)) ∧ Keeps w w' := by
 unfold recA allA
 go_enter Tryz.func257, Tryz.ntmps257
 go_wp2_with fail
 exact bodyPost_ret (by simp [results, Tryz.results257, go_sem]) rfl ⟨rfl, ((Keeps.refl _).alloc _).alloc _⟩
def allL (r : Rec) : List Int := [r.kind, r.user, r.seq, r.next, r.base, r.uid, r.time, r.flags, r.body, r.size, r.origin]
theorem allL_inj {r s : Rec} : allL r = allL s ↔ allA r = allA s := by simp [allL, allA]
theorem all_eq (r s : Rec) (w : World) : (Op.equalIn 10000 305 (.agg (allA r)) (.agg (allA s))).run Tryz.prog w = .ok (decide (allL r = allL s)) w := by
 have hi : (Tryz.prog.info? 3).isSome = true := by kernel_rfl
 cases e : Tryz.prog.info? 3 with
 |none => rw [e] at hi; cases hi
 |some i =>
  have := run_eq_ints (d := 9998) (n := 11) (i := i) Tryz.underlying305 Tryz.underlying3 e (by kernel_rfl) (by kernel_rfl) (allL r) (allL s) rfl rfl w
  exact this
theorem rec_eq {r s : Rec} : r = s ↔ allA r = allA s ∧ r.data = s.data := by
 cases r; cases s
 simp [allA]
 constructor
 ·rintro ⟨rfl, rfl, rfl, rfl, rfl, rfl, rfl, rfl, rfl, rfl, rfl, rfl⟩; simp
 ·rintro ⟨⟨rfl, rfl, rfl, rfl, rfl, rfl, rfl, rfl, rfl, rfl, rfl⟩, rfl⟩; simp
set_option maxRecDepth 100000 in
set_option maxHeartbeats 2000000 in
theorem same_any (r s : Rec) (v u : Value) (w : World) (hr : Row w v (r.data.map u8v)) (hs : Row w u (s.data.map u8v)) :
  Calls Tryz.prog 248 #[.agg (recA r v), .agg (recA s u)] w fun e w' => e = .returned (.bool (decide (r = s))) ∧ Keeps w w' := by
 have CA := Lib.hid (fun w => all_any r v w)
 have CB := Lib.hid (fun w => all_any s u w)
 have HR := Lib.hid hr
 have HS := Lib.hid hs
 clear hr hs
 unfold recA at CA CB ⊢
 have HQ := Lib.hid (fun w => all_eq r s w)
 by_cases hE : allL r = allL s
 ·rw [decide_eq_true hE] at HQ
  have HX : Hid (decide (r.data = s.data) = decide (r = s)) := Lib.hid (by rw [Bool.eq_iff_iff, decide_eq_true_eq, decide_eq_true_eq, rec_eq]; exact ⟨fun h => ⟨allL_inj.1 hE, h⟩, fun h => h.2⟩)
  go_enter Tryz.func248, Tryz.ntmps248
  go_upto_region 1 with fail
  generalize hW : World.alloc (World.alloc w _) _ = w2
  have HK : Hid (Keeps w w2) := Lib.hid (by rw [← hW]; exact ((Keeps.refl _).alloc _).alloc _)
  have AB : Blk w2 w.heap.size 154 (recA r v) := by rw [← hW]; exact (Blk.new _ _ _ rfl).alloc _
  have BB : Blk w2 (w.heap.size + 1) 154 (recA s u) := by rw [← hW]; exact Blk.new _ _ _ (by show _ = (w.heap.push _).size; simp)
  clear hW
  have a0 : w2.cell? ⟨w.heap.size, 0, none⟩ = some (.int .i64 r.kind) := by rw [AB.cell]; rfl
  have a1 : w2.cell? ⟨w.heap.size, 1, none⟩ = some (.int .i64 r.user) := by rw [AB.cell]; rfl
  have a2 : w2.cell? ⟨w.heap.size, 2, none⟩ = some (.int .i64 r.seq) := by rw [AB.cell]; rfl
  have a3 : w2.cell? ⟨w.heap.size, 3, none⟩ = some (.int .i64 r.next) := by rw [AB.cell]; rfl
  have a4 : w2.cell? ⟨w.heap.size, 4, none⟩ = some (.int .i64 r.base) := by rw [AB.cell]; rfl
  have a5 : w2.cell? ⟨w.heap.size, 5, none⟩ = some (.int .i64 r.uid) := by rw [AB.cell]; rfl
  have a6 : w2.cell? ⟨w.heap.size, 6, none⟩ = some (.int .i64 r.time) := by rw [AB.cell]; rfl
  have a7 : w2.cell? ⟨w.heap.size, 7, none⟩ = some (.int .i64 r.flags) := by rw [AB.cell]; rfl
  have a8 : w2.cell? ⟨w.heap.size, 8, none⟩ = some (.int .i64 r.body) := by rw [AB.cell]; rfl
  have a9 : w2.cell? ⟨w.heap.size, 9, none⟩ = some (.int .i64 r.size) := by rw [AB.cell]; rfl
  have a10 : w2.cell? ⟨w.heap.size, 10, none⟩ = some (.int .i64 r.origin) := by rw [AB.cell]; rfl
  have a11 : w2.cell? ⟨w.heap.size, 11, none⟩ = some (v) := by rw [AB.cell]; rfl
  have b0 : w2.cell? ⟨w.heap.size + 1, 0, none⟩ = some (.int .i64 s.kind) := by rw [BB.cell]; rfl
  have b1 : w2.cell? ⟨w.heap.size + 1, 1, none⟩ = some (.int .i64 s.user) := by rw [BB.cell]; rfl
  have b2 : w2.cell? ⟨w.heap.size + 1, 2, none⟩ = some (.int .i64 s.seq) := by rw [BB.cell]; rfl
  have b3 : w2.cell? ⟨w.heap.size + 1, 3, none⟩ = some (.int .i64 s.next) := by rw [BB.cell]; rfl
  have b4 : w2.cell? ⟨w.heap.size + 1, 4, none⟩ = some (.int .i64 s.base) := by rw [BB.cell]; rfl
  have b5 : w2.cell? ⟨w.heap.size + 1, 5, none⟩ = some (.int .i64 s.uid) := by rw [BB.cell]; rfl
  have b6 : w2.cell? ⟨w.heap.size + 1, 6, none⟩ = some (.int .i64 s.time) := by rw [BB.cell]; rfl
  have b7 : w2.cell? ⟨w.heap.size + 1, 7, none⟩ = some (.int .i64 s.flags) := by rw [BB.cell]; rfl
  have b8 : w2.cell? ⟨w.heap.size + 1, 8, none⟩ = some (.int .i64 s.body) := by rw [BB.cell]; rfl
  have b9 : w2.cell? ⟨w.heap.size + 1, 9, none⟩ = some (.int .i64 s.size) := by rw [BB.cell]; rfl
  have b10 : w2.cell? ⟨w.heap.size + 1, 10, none⟩ = some (.int .i64 s.origin) := by rw [BB.cell]; rfl
  have b11 : w2.cell? ⟨w.heap.size + 1, 11, none⟩ = some (u) := by rw [BB.cell]; rfl
  clear AB BB
  generalize hQ : w.heap.size = Q at *
  clear hQ
  refine wp_region_noPanic ?_
  refine wp_region_held_drew (S := fun w' => Keeps (w2) w') (by kernel_rfl) ((Keeps.refl _).drew) (fun _ => ?_)
  have hHeld : Keeps (w2) (w2).drew := (Keeps.refl _).drew
  refine tq 0 5 ?_ (hy := fun w' hSw => by
   have hSw : Keeps _ w' := hSw
   have h0 := keep1 hSw a0
   have h1 := keep1 hSw a1
   have h2 := keep1 hSw a2
   have h3 := keep1 hSw a3
   have h4 := keep1 hSw a4
   have h5 := keep1 hSw a5
   have h6 := keep1 hSw a6
   have h7 := keep1 hSw a7
   have h8 := keep1 hSw a8
   have h9 := keep1 hSw a9
   have h10 := keep1 hSw a10
   have h11 := keep1 hSw a11
   clear hSw
   go_simp
   try with_reducible rfl)
  refine tq 2 7 ?_ (hy := fun w' hSw => by
   have hSw : Keeps _ w' := hSw
   have h0 := keep1 hSw b0
   have h1 := keep1 hSw b1
   have h2 := keep1 hSw b2
   have h3 := keep1 hSw b3
   have h4 := keep1 hSw b4
   have h5 := keep1 hSw b5
   have h6 := keep1 hSw b6
   have h7 := keep1 hSw b7
   have h8 := keep1 hSw b8
   have h9 := keep1 hSw b9
   have h10 := keep1 hSw b10
   have h11 := keep1 hSw b11
   clear hSw
   go_simp
   try with_reducible rfl)
  refine rd1 1 (fun K hK => ?_)
  go_simp
  refine (CA.out _).mono ?_
  rintro e w3 ⟨rfl, hk⟩
  have hb : Keeps _ w3 := hHeld.trans hk
  have HK := Lib.hid (HK.out.drew.trans hk)
  have HT := Lib.hid ((Keeps.refl w2).drew.trans hk)
  go_wp2_with fail
  refine bk1 hK hb ?_
  clear hK K hHeld hb hk
  intro hHeld
  refine rd1 3 (fun K hK => ?_)
  go_simp
  refine (CB.out _).mono ?_
  rintro e w4 ⟨rfl, hk⟩
  have hb : Keeps _ w4 := hHeld.trans hk
  have HK := Lib.hid (HK.out.trans hk)
  have HT := Lib.hid (HT.out.trans hk)
  go_wp2_with fail
  refine bk1 hK hb ?_
  clear hK K hHeld hb hk
  intro hHeld
  refine tq 4 9 ?_ (hy := fun w' hSw => by
   have hSw : Keeps _ w' := hSw
   have hq := HQ.out w'
   clear hSw
   go_simp
   try with_reducible rfl)
  refine tq 5 10 ?_
  refine tq 6 11 ?_
  refine tq 7 12 ?_ (hy := fun w' hSw => by
   have hSw : Keeps _ w' := hSw
   have h11 := keep1 hSw (keep1 HT.out a11)
   clear hSw
   go_simp
   try with_reducible rfl)
  refine tq 8 13 ?_
  refine tq 9 14 ?_ (hy := fun w' hSw => by
   have hSw : Keeps _ w' := hSw
   have h11 := keep1 hSw (keep1 HT.out b11)
   clear hSw
   go_simp
   try with_reducible rfl)
  refine rd1 10 (fun K hK => ?_)
  go_simp
  refine (equal_k _ _ _ _ _ (HR.out.keeps HK.out) (HS.out.keeps HK.out)).mono ?_
  rintro e w5 ⟨rfl, hk⟩
  have hb : Keeps _ w5 := hHeld.trans hk
  have HK := Lib.hid (HK.out.trans hk)
  go_wp2_with fail
  refine bk1 hK hb ?_
  clear hK K hHeld hb hk
  intro hHeld
  refine tq 11 16 ?_
  refine tq 12 4 ?_
  refine wpAnyH_done (by kernel_rfl) ?_ _
  refine NoPanic.normal ?_
  go_wp2_with fail
  go_ret
  exact ⟨by rw [HX.out]; rfl, HK.out⟩
 ·rw [decide_eq_false hE] at HQ
  have HX : Hid (decide (r = s) = false) := Lib.hid (decide_eq_false (fun h => hE (allL_inj.2 (rec_eq.1 h).1)))
  go_enter Tryz.func248, Tryz.ntmps248
  go_upto_region 1 with fail
  generalize hW : World.alloc (World.alloc w _) _ = w2
  have HK : Hid (Keeps w w2) := Lib.hid (by rw [← hW]; exact ((Keeps.refl _).alloc _).alloc _)
  have AB : Blk w2 w.heap.size 154 (recA r v) := by rw [← hW]; exact (Blk.new _ _ _ rfl).alloc _
  have BB : Blk w2 (w.heap.size + 1) 154 (recA s u) := by rw [← hW]; exact Blk.new _ _ _ (by show _ = (w.heap.push _).size; simp)
  clear hW
  have a0 : w2.cell? ⟨w.heap.size, 0, none⟩ = some (.int .i64 r.kind) := by rw [AB.cell]; rfl
  have a1 : w2.cell? ⟨w.heap.size, 1, none⟩ = some (.int .i64 r.user) := by rw [AB.cell]; rfl
  have a2 : w2.cell? ⟨w.heap.size, 2, none⟩ = some (.int .i64 r.seq) := by rw [AB.cell]; rfl
  have a3 : w2.cell? ⟨w.heap.size, 3, none⟩ = some (.int .i64 r.next) := by rw [AB.cell]; rfl
  have a4 : w2.cell? ⟨w.heap.size, 4, none⟩ = some (.int .i64 r.base) := by rw [AB.cell]; rfl
  have a5 : w2.cell? ⟨w.heap.size, 5, none⟩ = some (.int .i64 r.uid) := by rw [AB.cell]; rfl
  have a6 : w2.cell? ⟨w.heap.size, 6, none⟩ = some (.int .i64 r.time) := by rw [AB.cell]; rfl
  have a7 : w2.cell? ⟨w.heap.size, 7, none⟩ = some (.int .i64 r.flags) := by rw [AB.cell]; rfl
  have a8 : w2.cell? ⟨w.heap.size, 8, none⟩ = some (.int .i64 r.body) := by rw [AB.cell]; rfl
  have a9 : w2.cell? ⟨w.heap.size, 9, none⟩ = some (.int .i64 r.size) := by rw [AB.cell]; rfl
  have a10 : w2.cell? ⟨w.heap.size, 10, none⟩ = some (.int .i64 r.origin) := by rw [AB.cell]; rfl
  have a11 : w2.cell? ⟨w.heap.size, 11, none⟩ = some (v) := by rw [AB.cell]; rfl
  have b0 : w2.cell? ⟨w.heap.size + 1, 0, none⟩ = some (.int .i64 s.kind) := by rw [BB.cell]; rfl
  have b1 : w2.cell? ⟨w.heap.size + 1, 1, none⟩ = some (.int .i64 s.user) := by rw [BB.cell]; rfl
  have b2 : w2.cell? ⟨w.heap.size + 1, 2, none⟩ = some (.int .i64 s.seq) := by rw [BB.cell]; rfl
  have b3 : w2.cell? ⟨w.heap.size + 1, 3, none⟩ = some (.int .i64 s.next) := by rw [BB.cell]; rfl
  have b4 : w2.cell? ⟨w.heap.size + 1, 4, none⟩ = some (.int .i64 s.base) := by rw [BB.cell]; rfl
  have b5 : w2.cell? ⟨w.heap.size + 1, 5, none⟩ = some (.int .i64 s.uid) := by rw [BB.cell]; rfl
  have b6 : w2.cell? ⟨w.heap.size + 1, 6, none⟩ = some (.int .i64 s.time) := by rw [BB.cell]; rfl
  have b7 : w2.cell? ⟨w.heap.size + 1, 7, none⟩ = some (.int .i64 s.flags) := by rw [BB.cell]; rfl
  have b8 : w2.cell? ⟨w.heap.size + 1, 8, none⟩ = some (.int .i64 s.body) := by rw [BB.cell]; rfl
  have b9 : w2.cell? ⟨w.heap.size + 1, 9, none⟩ = some (.int .i64 s.size) := by rw [BB.cell]; rfl
  have b10 : w2.cell? ⟨w.heap.size + 1, 10, none⟩ = some (.int .i64 s.origin) := by rw [BB.cell]; rfl
  have b11 : w2.cell? ⟨w.heap.size + 1, 11, none⟩ = some (u) := by rw [BB.cell]; rfl
  clear AB BB
  generalize hQ : w.heap.size = Q at *
  clear hQ
  refine wp_region_noPanic ?_
  refine wp_region_held_drew (S := fun w' => Keeps (w2) w') (by kernel_rfl) ((Keeps.refl _).drew) (fun _ => ?_)
  have hHeld : Keeps (w2) (w2).drew := (Keeps.refl _).drew
  refine tq 0 5 ?_ (hy := fun w' hSw => by
   have hSw : Keeps _ w' := hSw
   have h0 := keep1 hSw a0
   have h1 := keep1 hSw a1
   have h2 := keep1 hSw a2
   have h3 := keep1 hSw a3
   have h4 := keep1 hSw a4
   have h5 := keep1 hSw a5
   have h6 := keep1 hSw a6
   have h7 := keep1 hSw a7
   have h8 := keep1 hSw a8
   have h9 := keep1 hSw a9
   have h10 := keep1 hSw a10
   have h11 := keep1 hSw a11
   clear hSw
   go_simp
   try with_reducible rfl)
  refine tq 2 7 ?_ (hy := fun w' hSw => by
   have hSw : Keeps _ w' := hSw
   have h0 := keep1 hSw b0
   have h1 := keep1 hSw b1
   have h2 := keep1 hSw b2
   have h3 := keep1 hSw b3
   have h4 := keep1 hSw b4
   have h5 := keep1 hSw b5
   have h6 := keep1 hSw b6
   have h7 := keep1 hSw b7
   have h8 := keep1 hSw b8
   have h9 := keep1 hSw b9
   have h10 := keep1 hSw b10
   have h11 := keep1 hSw b11
   clear hSw
   go_simp
   try with_reducible rfl)
  refine rd1 1 (fun K hK => ?_)
  go_simp
  refine (CA.out _).mono ?_
  rintro e w3 ⟨rfl, hk⟩
  have hb : Keeps _ w3 := hHeld.trans hk
  have HK := Lib.hid (HK.out.drew.trans hk)
  have HT := Lib.hid ((Keeps.refl w2).drew.trans hk)
  go_wp2_with fail
  refine bk1 hK hb ?_
  clear hK K hHeld hb hk
  intro hHeld
  refine rd1 3 (fun K hK => ?_)
  go_simp
  refine (CB.out _).mono ?_
  rintro e w4 ⟨rfl, hk⟩
  have hb : Keeps _ w4 := hHeld.trans hk
  have HK := Lib.hid (HK.out.trans hk)
  have HT := Lib.hid (HT.out.trans hk)
  go_wp2_with fail
  refine bk1 hK hb ?_
  clear hK K hHeld hb hk
  intro hHeld
  refine tq 4 9 ?_ (hy := fun w' hSw => by
   have hSw : Keeps _ w' := hSw
   have hq := HQ.out w'
   clear hSw
   go_simp
   try with_reducible rfl)
  refine tq 5 10 ?_
  refine wpAnyH_take (i := 6) (v := undef) (by rfl) (by kernel_rfl) (by kernel_rfl) (by kernel_rfl) (by intro _ _ _ h; exact h) (Or.inr ⟨by kernel_rfl, rfl⟩) (by assumption) ?rest15
  change wpAnyH _ _ _ _ _ _ _ (Act.put _ (some 11) _) _
  try simp only [Act.put, List.setIfInBounds_toArray, List.set_cons_zero, List.set_cons_succ]
  refine wpAnyH_take (i := 7) (v := undef) (by rfl) (by kernel_rfl) (by kernel_rfl) (by kernel_rfl) (by intro _ _ _ h; exact h) (Or.inr ⟨by kernel_rfl, rfl⟩) (by assumption) ?rest16
  change wpAnyH _ _ _ _ _ _ _ (Act.put _ (some 12) _) _
  try simp only [Act.put, List.setIfInBounds_toArray, List.set_cons_zero, List.set_cons_succ]
  refine wpAnyH_take (i := 8) (v := undef) (by rfl) (by kernel_rfl) (by kernel_rfl) (by kernel_rfl) (by intro _ _ _ h; exact h) (Or.inr ⟨by kernel_rfl, rfl⟩) (by assumption) ?rest17
  change wpAnyH _ _ _ _ _ _ _ (Act.put _ (some 13) _) _
  try simp only [Act.put, List.setIfInBounds_toArray, List.set_cons_zero, List.set_cons_succ]
  refine wpAnyH_take (i := 9) (v := undef) (by rfl) (by kernel_rfl) (by kernel_rfl) (by kernel_rfl) (by intro _ _ _ h; exact h) (Or.inr ⟨by kernel_rfl, rfl⟩) (by assumption) ?rest18
  change wpAnyH _ _ _ _ _ _ _ (Act.put _ (some 14) _) _
  try simp only [Act.put, List.setIfInBounds_toArray, List.set_cons_zero, List.set_cons_succ]
  refine wpAnyH_take (i := 10) (v := undef) (by rfl) (by kernel_rfl) (by kernel_rfl) (by kernel_rfl) (by intro _ _ _ h; exact h) (Or.inr ⟨by kernel_rfl, rfl⟩) (by assumption) ?rest19
  change wpAnyH _ _ _ _ _ _ _ (Act.put _ (some 15) _) _
  try simp only [Act.put, List.setIfInBounds_toArray, List.set_cons_zero, List.set_cons_succ]
  refine tq 11 16 ?_
  refine tq 12 4 ?_
  refine wpAnyH_done (by kernel_rfl) ?_ _
  refine NoPanic.normal ?_
  go_wp2_with fail
  go_ret
  exact ⟨by rw [HX.out]; rfl, HK.out⟩
end Rcd
end Go.Proofs.YtklbemkafdccgaaGreat

/- record.bare and record.Check: which records are right. -/
namespace Go.Proofs.YtklbemkafdccgaaGreat
open Go.RowKit
namespace Rcd

/-- the fields of the record in block b, in block g -/
def PartsAt (w : World) (g b : Nat) (l : List Part) : Prop := ∃ cs, Blk w g 247 cs ∧ cs.toList = l.flatMap (partC b)
theorem PartsAt.keeps {w w' : World} {g b : Nat} {l : List Part} (h : PartsAt w g b l) (k : Keeps w w') : PartsAt w' g b l := let ⟨cs, h1, h2⟩ := h; ⟨cs, h1.keeps k, h2⟩
theorem PartsAt.mods {w w' : World} {g b : Nat} {l : List Part} {S : Nat → Prop} (h : PartsAt w g b l) (k : Mods S w w') (hn : ¬ S g) : PartsAt w' g b l := let ⟨cs, h1, h2⟩ := h; ⟨cs, h1.mods k hn, h2⟩
theorem PartsAt.lt {w : World} {g b : Nat} {l : List Part} (h : PartsAt w g b l) : g < w.heap.size := let ⟨_, h1, _⟩ := h; h1.lt
theorem PartsAt.one {w : World} {g b : Nat} {l : List Part} (h : PartsAt w g b l) {j : Nat} (hj : j < l.length) :
  w.cell? ⟨g, j * 4, none⟩ = some (.int .i64 l[j].width) ∧ w.cell? ⟨g, j * 4 + 1, none⟩ = some (.int .i64 l[j].low) ∧ w.cell? ⟨g, j * 4 + 2, none⟩ = some (.int .i64 l[j].high) ∧ w.cell? ⟨g, j * 4 + 3, none⟩ = some (.pointer (some ⟨b, l[j].off, none⟩)) := by
 obtain ⟨cs, h1, h2⟩ := h
 have hc : ∀ i, cs[i]? = (l.flatMap (partC b))[i]? := fun i => by rw [← h2, Array.getElem?_toList]
 have hf : ∀ i, i < 4 → (l.flatMap (partC b))[j * 4 + i]? = (partC b l[j])[i]? := fun i hi => flat_get (partC_len b) l j i _ (List.getElem?_eq_getElem hj) hi
 refine ⟨?_, ?_, ?_, ?_⟩
 ·rw [h1.cell, hc]; exact hf 0 (by omega)
 ·rw [h1.cell, hc]; exact hf 1 (by omega)
 ·rw [h1.cell, hc]; exact hf 2 (by omega)
 ·rw [h1.cell, hc]; exact hf 3 (by omega)
theorem PartsRet.some {b : Nat} {k : Int} {w : World} {e : Ending} {w' : World} (h : PartsRet b k w e w') (hk : 1 ≤ k ∧ k ≤ 6) : ∃ g, e = .returned (.slice (some ⟨g, 0, none⟩) (partsL k).length (partsL k).length) ∧ w.heap.size ≤ g ∧ PartsAt w' g b (partsL k) ∧ Keeps w w' := by
 obtain ⟨v, rfl, -, h2, hK⟩ := h
 have hne : partsL k ≠ [] := by
  have : k = 1 ∨ k = 2 ∨ k = 3 ∨ k = 4 ∨ k = 5 ∨ k = 6 := by omega
  rcases this with rfl | rfl | rfl | rfl | rfl | rfl <;> decide
 obtain ⟨g, rfl, hg, cs, hb, hcs⟩ := h2 hne
 exact ⟨g, rfl, hg, ⟨cs, hb, hcs⟩, hK⟩
theorem partsL_len (k : Int) : (partsL k).length ≤ 6 := by
 unfold partsL
 repeat' split
 all_goals decide
theorem rec12 {w : World} {b : Nat} {r : Rec} {v : Value} (h : Blk w b 154 (recA r v)) :
  w.cell? ⟨b, 0, none⟩ = some (.int .i64 r.kind) ∧ w.cell? ⟨b, 1, none⟩ = some (.int .i64 r.user) ∧ w.cell? ⟨b, 2, none⟩ = some (.int .i64 r.seq) ∧ w.cell? ⟨b, 3, none⟩ = some (.int .i64 r.next) ∧ w.cell? ⟨b, 4, none⟩ = some (.int .i64 r.base) ∧ w.cell? ⟨b, 5, none⟩ = some (.int .i64 r.uid) ∧ w.cell? ⟨b, 6, none⟩ = some (.int .i64 r.time) ∧ w.cell? ⟨b, 7, none⟩ = some (.int .i64 r.flags) ∧ w.cell? ⟨b, 8, none⟩ = some (.int .i64 r.body) ∧ w.cell? ⟨b, 9, none⟩ = some (.int .i64 r.size) ∧ w.cell? ⟨b, 10, none⟩ = some (.int .i64 r.origin) ∧ w.cell? ⟨b, 11, none⟩ = some (v) := by
 refine ⟨?_, ?_, ?_, ?_, ?_, ?_, ?_, ?_, ?_, ?_, ?_, ?_⟩ <;> (rw [h.cell]; rfl)
theorem recA_at (r : Rec) (v : Value) {o : Nat} (h : o < 11) : (recA r v)[o]? = some (.int .i64 (fld r o)) := by
 have : o = 0 ∨ o = 1 ∨ o = 2 ∨ o = 3 ∨ o = 4 ∨ o = 5 ∨ o = 6 ∨ o = 7 ∨ o = 8 ∨ o = 9 ∨ o = 10 := by omega
 rcases this with rfl | rfl | rfl | rfl | rfl | rfl | rfl | rfl | rfl | rfl | rfl <;> rfl
theorem bareA_size (r : Rec) : ∀ l, (bareA r l).size = 12
 | [] => rfl
 |p :: l => by rw [bareA, Array.size_setIfInBounds, bareA_size r l]
theorem bareA_has (r : Rec) (l : List Part) {o : Nat} (h : o < 12) : ∃ x, (bareA r l)[o]? = some x := ⟨_, Array.getElem?_eq_getElem (by rw [bareA_size]; exact h)⟩
theorem bareA_next (r : Rec) (l : List Part) {j : Nat} (hj : j < l.length) : bareA r (l.take (j + 1)).reverse = (bareA r (l.take j).reverse).setIfInBounds l[j].off (.int .i64 (fld r l[j].off)) := by
 rw [List.take_succ_eq_append_getElem hj, List.reverse_append]
 rfl
set_option maxRecDepth 100000 in
set_option maxHeartbeats 2000000 in
theorem bare_any (r : Rec) (v : Value) (w : World) (hr : Row w v (r.data.map u8v)) (hk : 1 ≤ r.kind ∧ r.kind ≤ 6) :
  Calls Tryz.prog 220 #[.agg (recA r v)] w fun e w' => e = .returned (.bool (decide (r = bare r))) ∧ Keeps w w' := by
 obtain ⟨pv, nv, cv, rfl⟩ : ∃ p n c, v = .slice p n c := let ⟨p, c, h, _⟩ := hr.form; ⟨p, _, c, h⟩
 have HR := Lib.hid hr
 have HK1 := Lib.hid hk
 clear hr hk
 have HRA := Lib.hid (fun o h => recA_at r (.slice pv nv cv) (o := o) h)
 have HSM := Lib.hid (fun w h => same_any r (bare r) (.slice pv nv cv) (.slice pv nv cv) w h)
 have HSN := Lib.hid (fun w h => same_any r (bare r) (.slice pv nv cv) (.slice none 0 0) w h)
 unfold recA
 go_enter Tryz.func220, Tryz.ntmps220
 go_upto_region 2 with fail
 generalize hW : World.alloc (World.alloc w _) _ = w1
 have HK := Lib.hid (show Keeps w w1 from by rw [← hW]; exact ((Keeps.refl _).alloc _).alloc _)
 have hA : Blk w1 w.heap.size 154 (recA r (.slice pv nv cv)) := by rw [← hW]; exact (Blk.new _ _ _ rfl).alloc _
 have hB : Blk w1 (w.heap.size + 1) 154 (bareA r []) := by rw [← hW]; exact Blk.new _ _ _ (by rw [asz])
 have HSz := Lib.hid (Nat.le_refl w.heap.size)
 have HA := Lib.hid hA
 have HB := Lib.hid hB
 clear hW hA hB
 obtain ⟨Q, hQ⟩ : ∃ Q, Q = w.heap.size := ⟨_, rfl⟩
 rw [← hQ] at HA HB ⊢
 have HQ := Lib.hid hQ
 clear hQ HSz
 go_wp2_with fail
 refine (parts_any Q _ r.kind w1 HA.out rfl).mono ?_
 rintro e w2 h2
 obtain ⟨g1, rfl, hg1, hp1, hk2⟩ := h2.some HK1.out
 have HK := Lib.hid (HK.out.trans hk2)
 have HA := Lib.hid (HA.out.keeps hk2)
 have HG1 := Lib.hid (show Q + 1 < g1 from Nat.lt_of_lt_of_le HB.out.lt hg1)
 have HB := Lib.hid (HB.out.keeps hk2)
 have HP1 := Lib.hid hp1
 clear hp1 hk2 h2 hg1
 go_wp2_with fail
 refine (parts_any (Q + 1) _ r.kind w2 HB.out rfl).mono ?_
 rintro e w3 h3
 obtain ⟨g2, rfl, hg2, hp2, hk3⟩ := h3.some HK1.out
 have HG2 := Lib.hid (show Q + 1 < g2 from Nat.lt_of_lt_of_le HB.out.lt hg2)
 have HK := Lib.hid (HK.out.trans hk3)
 have HA := Lib.hid (HA.out.keeps hk3)
 have HB := Lib.hid (HB.out.keeps hk3)
 have HP1 := Lib.hid (HP1.out.keeps hk3)
 have HP2 := Lib.hid hp2
 clear hp2 hk3 h3 hg2
 have hlen := partsL_len r.kind
 have HO := Lib.hid (partsL_off (k := r.kind))
 have HBF := Lib.hid (fun h => bareA_all (r := r) HK1.out.1 h)
 have HBS := Lib.hid (fun h => bareA_six (r := r) h (.slice pv nv cv))
 generalize partsL r.kind = l at *
 go_wp2_with fail
 go_loopw [13] (fun i wr => ∃ j : Nat, i = .int .i64 (j : Int) ∧ j ≤ l.length ∧ Hid (Keeps w wr ∧ Blk wr Q 154 (recA r (.slice pv nv cv)) ∧ Blk wr (Q + 1) 154 (bareA r (l.take j).reverse) ∧ PartsAt wr g1 Q l ∧ PartsAt wr g2 (Q + 1) l)) (fun i _ => l.length - (intOf i).toNat)
 case atStart => exact ⟨0, rfl, Nat.zero_le _, Lib.hid ⟨HK.out, HA.out, HB.out, HP1.out, HP2.out⟩⟩
 case round =>
  obtain ⟨j, rfl, hj, HH⟩ := hrel
  clear HK HA HB HP1 HP2
  by_cases hlt : j < l.length
  ·obtain ⟨a0, a1, a2, a3⟩ := HH.out.2.2.2.2.one hlt
   obtain ⟨-, -, -, b3⟩ := HH.out.2.2.2.1.one hlt
   have hoff := HO.out l[j] (List.getElem_mem hlt)
   have HN := Lib.hid (bareA_next r l hlt)
   generalize l[j] = p at *
   go_upto_region 6 with fail
   obtain ⟨wy, hwy⟩ : ∃ wy, wy = World.alloc wr (Obj.cells #[.int .i64 p.width, .int .i64 p.low, .int .i64 p.high, .pointer (some ⟨Q + 1, p.off, none⟩)] 247) := ⟨_, rfl⟩
   have hky : Keeps wr wy := by rw [hwy]; exact (Keeps.refl _).alloc _
   have hcy : wy.cell? ⟨wr.heap.size, 3, none⟩ = some (.pointer (some ⟨Q + 1, p.off, none⟩)) := by rw [hwy, (Blk.new wr _ _ rfl).cell]; rfl
   have hb3 := keep1 hky b3
   have hqy : wy.cell? ⟨Q, p.off, none⟩ = some (.int .i64 (fld r p.off)) := by rw [(HH.out.2.1.keeps hky).cell]; exact HRA.out _ hoff.2
   obtain ⟨x, hx⟩ := bareA_has r (l.take j).reverse (o := p.off) (by omega)
   have HX := Lib.hid hx
   have hne1 : ¬ wr.heap.size = Q + 1 := by have := HH.out.2.2.1.lt; omega
   have hne2 : ¬ g1 = Q + 1 := by have := HG1.out; omega
   have hne3 : ¬ Q = Q + 1 := by omega
   have hne4 : ¬ g2 = Q + 1 := by have := HG2.out; omega
   have HBd := Lib.hid ((HH.out.2.2.1.keeps hky).drew)
   have HKy := Lib.hid hky
   rw [← hwy]
   clear hwy a0 a1 a2 a3 b3 hx hky
   refine wp_region_noPanic ?_
   refine wp_region_held_drew (S := fun w' => Mods (· = Q + 1) wy w') (by kernel_rfl) ((Mods.refl (· = Q + 1) wy).drew) (fun _ => ?_)
   have hHeld : Mods (· = Q + 1) wy (wy).drew := (Mods.refl (· = Q + 1) wy).drew
   generalize World.drew wy = xs at *
   refine tq 0 18 ?_
   refine tq 1 19 ?_ (hy := fun w' hSw => by
    have hSw : Mods (· = Q + 1) wy w' := hSw
    have hc := hSw.cell hcy hne1
    clear hSw
    go_simp
    try with_reducible rfl)
   refine tq 2 20 ?_
   refine tq 3 21 ?_
   refine tq 4 22 ?_
   refine tq 5 23 ?_
   refine tq 6 24 ?_ (hy := fun w' hSw => by
    have hSw : Mods (· = Q + 1) wy w' := hSw
    have hc := hSw.cell hb3 hne2
    clear hSw
    go_simp
    try with_reducible rfl)
   refine tq 7 25 ?_
   refine tq 8 26 ?_ (hy := fun w' hSw => by
    have hSw : Mods (· = Q + 1) wy w' := hSw
    have hc := hSw.cell hqy hne3
    clear hSw
    go_simp
    try with_reducible rfl)
   refine tq 9 27 ?_
   refine rd1 10 (fun K hK => ?_)
   have hx : World.cell? xs ⟨Q + 1, p.off, none⟩ = some x := by rw [HBd.out.cell]; exact HX.out
   have hz : World.frozen? xs ⟨Q + 1, p.off, none⟩ = false := HBd.out.frozen _
   go_simp
   have hb := hHeld.setCell (p := ⟨Q + 1, p.off, none⟩) (fun _ => rfl) (.int .i64 (fld r p.off))
   have HBd := Lib.hid (HBd.out.set_ p.off (.int .i64 (fld r p.off)))
   clear hx hz
   generalize World.setCell xs ⟨Q + 1, p.off, none⟩ (.int .i64 (fld r p.off)) = w6 at *
   refine bkm hK hb ?_
   clear hK K hHeld
   have hHeld : Mods (· = Q + 1) wy w6 := hb
   clear hb
   refine wpAnyH_done (by kernel_rfl) ?_ _
   refine NoPanic.normal ?_
   go_wp2_with fail
   go_roundw
   case rel =>
    refine ⟨j + 1, by simp, by omega, Lib.hid ⟨hHeld.keeps (HH.out.1.trans HKy.out) (fun x hx => by have := HQ.out; omega), (HH.out.2.1.keeps HKy.out).mods hHeld hne3, by rw [HN.out]; exact HBd.out, (HH.out.2.2.2.1.keeps HKy.out).mods hHeld hne2, (HH.out.2.2.2.2.keeps HKy.out).mods hHeld hne4⟩⟩
   case measure =>
    simp only [intOf]
    omega
  ·obtain rfl : j = l.length := by omega
   have hA := HH.out.2.1
   have hB := HH.out.2.2.1
   have hK := HH.out.1
   rw [List.take_length] at hB
   have HKw := Lib.hid hK
   have HAw := Lib.hid hA
   have HBw := Lib.hid hB
   obtain ⟨a0, a1, a2, a3, a4, a5, a6, a7, a8, a9, a10, a11⟩ := rec12 hA
   clear HH hA hB hK
   by_cases h6 : r.kind = 6
   ·have HE := HBS.out h6
    have h6' : (r.kind == 6) = true := by simp [h6]
    have H6 := Lib.hid h6
    clear h6
    obtain ⟨x, hx⟩ := bareA_has r l.reverse (o := 11) (by omega)
    have hx' : wr.cell? ⟨Q + 1, 11, none⟩ = some x := by rw [HBw.out.cell]; exact hx
    have hz' : wr.frozen? ⟨Q + 1, 11, none⟩ = false := HBw.out.frozen _
    clear hx
    go_upto_region 9 with fail
    go_upto_region 10 with fail
    obtain ⟨wz, hwz⟩ : ∃ wz, wz = World.setCell wr ⟨Q + 1, 11, none⟩ (.slice pv nv cv) := ⟨_, rfl⟩
    have HBz : Hid (Blk wz (Q + 1) 154 (recA (bare r) (.slice pv nv cv))) := Lib.hid (by rw [← HE, hwz]; exact HBw.out.set_ 11 _)
    have HAz : Hid (Blk wz Q 154 (recA r (.slice pv nv cv))) := Lib.hid (by rw [hwz]; exact HAw.out.far (p := ⟨Q + 1, 11, none⟩) (by show Q ≠ Q + 1; omega) _)
    have HKz : Hid (Keeps w wz) := Lib.hid (by rw [hwz]; exact HKw.out.setCell (p := ⟨Q + 1, 11, none⟩) (by show _ ≤ Q + 1; have := HQ.out; omega) _)
    rw [← hwz]
    clear hwz a0 a1 a2 a3 a4 a5 a6 a7 a8 a9 a10 a11 hx' hz' HE
    obtain ⟨a0, a1, a2, a3, a4, a5, a6, a7, a8, a9, a10, a11⟩ := rec12 HAz.out
    obtain ⟨b0, b1, b2, b3, b4, b5, b6, b7, b8, b9, b10, b11⟩ := rec12 HBz.out
    go_wp2_with fail
    refine (HSM.out wz (HR.out.keeps HKz.out) (by rw [bare_six H6.out]; exact HR.out.keeps HKz.out)).mono ?_
    rintro e w9 ⟨rfl, hk9⟩
    go_wp2_with fail
    go_ret
    exact ⟨rfl, HKz.out.trans hk9⟩
   ·have HE := HBF.out (by have := HK1.out.2; omega)
    have h6' : (r.kind == 6) = false := by simp [h6]
    have H6 := Lib.hid h6
    clear h6
    rw [HE] at HBw
    obtain ⟨b0, b1, b2, b3, b4, b5, b6, b7, b8, b9, b10, b11⟩ := rec12 HBw.out
    go_wp2_with fail
    refine (HSN.out wr (HR.out.keeps HKw.out) (.inl ⟨none, 0, rfl, by rw [bare_data H6.out HK1.out]; rfl, Nat.zero_le _, fun _ => rfl⟩)).mono ?_
    rintro e w9 ⟨rfl, hk9⟩
    go_wp2_with fail
    go_ret
    exact ⟨rfl, HKw.out.trans hk9⟩

set_option maxRecDepth 100000 in
set_option maxHeartbeats 2000000 in
theorem check_any (r : Rec) (v : Value) (w : World) (hr : Row w v (r.data.map u8v)) :
  Calls Tryz.prog 183 #[.agg (recA r v)] w fun e w' => e = .returned (.int .i64 (chk r)) ∧ Keeps w w' := by
 obtain ⟨pv, cv, rfl, -, -⟩ := hr.form
 have hnl : (List.map u8v r.data).length = r.data.length := by simp
 rw [hnl] at hr ⊢
 clear hnl
 have HR := Lib.hid hr
 clear hr
 have HRA := Lib.hid (fun o h => recA_at r (.slice pv r.data.length cv) (o := o) h)
 have HBA := Lib.hid (fun w h k => bare_any r (.slice pv r.data.length cv) w h k)
 unfold recA
 go_enter Tryz.func183, Tryz.ntmps183
 go_upto_region 1 with fail
 generalize hW : World.alloc w _ = w1
 have HK := Lib.hid (show Keeps w w1 from by rw [← hW]; exact (Keeps.refl _).alloc _)
 have HA := Lib.hid (show Blk w1 w.heap.size 154 (recA r (.slice pv r.data.length cv)) from by rw [← hW]; exact Blk.new _ _ _ rfl)
 clear hW
 obtain ⟨Q, hQ⟩ : ∃ Q, Q = w.heap.size := ⟨_, rfl⟩
 rw [← hQ] at HA ⊢
 clear hQ
 by_cases hk : 1 ≤ r.kind ∧ r.kind ≤ 6
 ·go_wp2_with fail
  refine (parts_any Q _ r.kind w1 HA.out rfl).mono ?_
  rintro e w2 h2
  obtain ⟨g1, rfl, hg1, hp1, hk2⟩ := h2.some hk
  have HK := Lib.hid (HK.out.trans hk2)
  have HA := Lib.hid (HA.out.keeps hk2)
  have HP1 := Lib.hid hp1
  have HK1 := Lib.hid hk
  clear hp1 hk2 h2 hg1 hk
  have hlen := partsL_len r.kind
  have HO := Lib.hid (partsL_off (k := r.kind))
  have HC : Hid (chk r = if (partsL r.kind).all (okP r) = false then 1 else if r.kind = 6 ∧ 32768 < r.data.length then 4 else if r = bare r then 0 else 3) := Lib.hid (by unfold chk within; rw [if_neg (by have := HK1.out; omega)])
  generalize partsL r.kind = l at *
  have hnil : ∀ W, (binOp .eql 242 (.slice (some ⟨g1, 0, none⟩) l.length l.length) (.slice none 0 0)).run Tryz.prog W = .ok (.bool false) W := fun W => Lib.run_eql_slice_nil W _ _ _ _ _ _ _ Tryz.underlying242
  go_wp2_with fail
  go_loopw [11] (fun i wr => ∃ j : Nat, i = .int .i64 (j : Int) ∧ j ≤ l.length ∧ Hid ((∀ p ∈ l.take j, okP r p = true) ∧ Keeps w2 wr)) (fun i _ => l.length - (intOf i).toNat)
  case atStart => exact ⟨0, rfl, Nat.zero_le _, Lib.hid ⟨by simp, Keeps.refl _⟩⟩
  case round =>
   obtain ⟨j, rfl, hj, HH⟩ := hrel
   by_cases hlt : j < l.length
   ·obtain ⟨a0, a1, a2, a3⟩ := (HP1.out.keeps HH.out.2).one hlt
    have hoff := HO.out l[j] (List.getElem_mem hlt)
    have hq : wr.cell? ⟨Q, l[j].off, none⟩ = some (.int .i64 (fld r l[j].off)) := by rw [(HA.out.keeps HH.out.2).cell]; exact HRA.out _ hoff.2
    have HN : Hid (okP r l[j] = true → ∀ p ∈ l.take (j + 1), okP r p = true) := Lib.hid (fun h p hp => by
     rw [List.take_succ_eq_append_getElem hlt, List.mem_append] at hp
     rcases hp with hp | hp
     ·exact HH.out.1 p hp
     ·rw [List.mem_singleton.1 hp]; exact h)
    have HF : Hid (okP r l[j] = false → chk r = 1) := Lib.hid (fun h => by
     rw [HC.out, if_pos]
     rw [List.all_eq_false]
     exact ⟨l[j], List.getElem_mem hlt, by rw [h]; decide⟩)
    unfold okP at HN HF
    generalize l[j] = p at *
    generalize hfr : fld r p.off = x at *
    clear hfr
    go_upto_region 7 with fail
    obtain ⟨wy, hwy⟩ : ∃ wy, wy = World.alloc wr (Obj.cells #[.int .i64 p.width, .int .i64 p.low, .int .i64 p.high, .pointer (some ⟨Q, p.off, none⟩)] 247) := ⟨_, rfl⟩
    have hky : Keeps wr wy := by rw [hwy]; exact (Keeps.refl _).alloc _
    have hcy1 : wy.cell? ⟨wr.heap.size, 1, none⟩ = some (.int .i64 p.low) := by rw [hwy, (Blk.new wr _ _ rfl).cell]; rfl
    have hcy2 : wy.cell? ⟨wr.heap.size, 2, none⟩ = some (.int .i64 p.high) := by rw [hwy, (Blk.new wr _ _ rfl).cell]; rfl
    have hcy3 : wy.cell? ⟨wr.heap.size, 3, none⟩ = some (.pointer (some ⟨Q, p.off, none⟩)) := by rw [hwy, (Blk.new wr _ _ rfl).cell]; rfl
    have hqy := keep1 hky hq
    rw [← hwy]
    clear hwy a0 a1 a2 a3 hq
    have HKy := Lib.hid (HH.out.2.trans hky)
    by_cases hlo : p.low ≤ x
    ·have hl1 : decide (x < p.low) = false := decide_eq_false (by omega)
     by_cases hhi : x ≤ p.high
     ·have hl2 : decide (p.high < x) = false := decide_eq_false (by omega)
      have HN := Lib.hid (HN.out (by rw [decide_eq_true hlo, decide_eq_true hhi]; rfl))
      clear HF hlo hhi
      refine wp_region_noPanic ?_
      refine wp_region_held_drew (S := fun w' => Keeps (wy) w') (by kernel_rfl) ((Keeps.refl _).drew) (fun _ => ?_)
      have hHeld : Keeps (wy) (wy).drew := (Keeps.refl _).drew
      refine tq 0 15 ?_
      refine tq 1 16 ?_ (hy := fun w' hSw => by
       have hSw : Keeps _ w' := hSw
       have h0 := keep1 hSw hcy3
       clear hSw
       go_simp
       try with_reducible rfl)
      refine tq 2 17 ?_
      refine tq 3 18 ?_ (hy := fun w' hSw => by
       have hSw : Keeps _ w' := hSw
       have h0 := keep1 hSw hqy
       clear hSw
       go_simp
       try with_reducible rfl)
      refine tq 4 19 ?_
      refine tq 5 20 ?_ (hy := fun w' hSw => by
       have hSw : Keeps _ w' := hSw
       have h0 := keep1 hSw hcy1
       clear hSw
       go_simp
       try with_reducible rfl)
      refine tq 6 21 ?_
      refine tq 7 22 ?_
      refine tq 8 23 ?_
      refine tq 9 24 ?_ (hy := fun w' hSw => by
       have hSw : Keeps _ w' := hSw
       have h0 := keep1 hSw hcy3
       clear hSw
       go_simp
       try with_reducible rfl)
      refine tq 10 25 ?_
      refine tq 11 26 ?_ (hy := fun w' hSw => by
       have hSw : Keeps _ w' := hSw
       have h0 := keep1 hSw hqy
       clear hSw
       go_simp
       try with_reducible rfl)
      refine tq 12 27 ?_
      refine tq 13 28 ?_ (hy := fun w' hSw => by
       have hSw : Keeps _ w' := hSw
       have h0 := keep1 hSw hcy2
       clear hSw
       go_simp
       try with_reducible rfl)
      refine tq 14 29 ?_
      refine tq 15 30 ?_
      refine wpAnyH_done (by kernel_rfl) ?_ _
      refine NoPanic.normal ?_
      go_wp2_with fail
      go_roundw
      case rel => exact ⟨j + 1, by simp, by omega, Lib.hid ⟨HN.out, HKy.out.drew⟩⟩
      case measure =>
       simp only [intOf]
       omega
     ·have hl2 : decide (p.high < x) = true := decide_eq_true (by omega)
      have HF := Lib.hid (HF.out (by rw [decide_eq_true hlo, decide_eq_false hhi]; rfl))
      clear HN hlo hhi
      refine wp_region_noPanic ?_
      refine wp_region_held_drew (S := fun w' => Keeps (wy) w') (by kernel_rfl) ((Keeps.refl _).drew) (fun _ => ?_)
      have hHeld : Keeps (wy) (wy).drew := (Keeps.refl _).drew
      refine tq 0 15 ?_
      refine tq 1 16 ?_ (hy := fun w' hSw => by
       have hSw : Keeps _ w' := hSw
       have h0 := keep1 hSw hcy3
       clear hSw
       go_simp
       try with_reducible rfl)
      refine tq 2 17 ?_
      refine tq 3 18 ?_ (hy := fun w' hSw => by
       have hSw : Keeps _ w' := hSw
       have h0 := keep1 hSw hqy
       clear hSw
       go_simp
       try with_reducible rfl)
      refine tq 4 19 ?_
      refine tq 5 20 ?_ (hy := fun w' hSw => by
       have hSw : Keeps _ w' := hSw
       have h0 := keep1 hSw hcy1
       clear hSw
       go_simp
       try with_reducible rfl)
      refine tq 6 21 ?_
      refine tq 7 22 ?_
      refine tq 8 23 ?_
      refine tq 9 24 ?_ (hy := fun w' hSw => by
       have hSw : Keeps _ w' := hSw
       have h0 := keep1 hSw hcy3
       clear hSw
       go_simp
       try with_reducible rfl)
      refine tq 10 25 ?_
      refine tq 11 26 ?_ (hy := fun w' hSw => by
       have hSw : Keeps _ w' := hSw
       have h0 := keep1 hSw hqy
       clear hSw
       go_simp
       try with_reducible rfl)
      refine tq 12 27 ?_
      refine tq 13 28 ?_ (hy := fun w' hSw => by
       have hSw : Keeps _ w' := hSw
       have h0 := keep1 hSw hcy2
       clear hSw
       go_simp
       try with_reducible rfl)
      refine tq 14 29 ?_
      refine tq 15 30 ?_
      refine wpAnyH_done (by kernel_rfl) ?_ _
      refine NoPanic.normal ?_
      go_wp2_with fail
      go_ret
      exact ⟨(congrArg (fun n => Ending.returned (Value.int .i64 n)) HF.out).symm, HK.out.trans HKy.out.drew⟩
    ·have hl1 : decide (x < p.low) = true := decide_eq_true (by omega)
     have HF := Lib.hid (HF.out (by rw [decide_eq_false hlo]; rfl))
     clear HN hlo
     refine wp_region_noPanic ?_
     refine wp_region_held_drew (S := fun w' => Keeps (wy) w') (by kernel_rfl) ((Keeps.refl _).drew) (fun _ => ?_)
     have hHeld : Keeps (wy) (wy).drew := (Keeps.refl _).drew
     refine tq 0 15 ?_
     refine tq 1 16 ?_ (hy := fun w' hSw => by
      have hSw : Keeps _ w' := hSw
      have h0 := keep1 hSw hcy3
      clear hSw
      go_simp
      try with_reducible rfl)
     refine tq 2 17 ?_
     refine tq 3 18 ?_ (hy := fun w' hSw => by
      have hSw : Keeps _ w' := hSw
      have h0 := keep1 hSw hqy
      clear hSw
      go_simp
      try with_reducible rfl)
     refine tq 4 19 ?_
     refine tq 5 20 ?_ (hy := fun w' hSw => by
      have hSw : Keeps _ w' := hSw
      have h0 := keep1 hSw hcy1
      clear hSw
      go_simp
      try with_reducible rfl)
     refine tq 6 21 ?_
     refine tq 7 22 ?_
     refine wpAnyH_take (i := 8) (v := undef) (by rfl) (by kernel_rfl) (by kernel_rfl) (by kernel_rfl) (by intro _ _ _ h; exact h) (Or.inr ⟨by kernel_rfl, rfl⟩) (by assumption) ?rest51
     change wpAnyH _ _ _ _ _ _ _ (Act.put _ (some 23) _) _
     try simp only [Act.put, List.setIfInBounds_toArray, List.set_cons_zero, List.set_cons_succ]
     refine wpAnyH_take (i := 9) (v := undef) (by rfl) (by kernel_rfl) (by kernel_rfl) (by kernel_rfl) (by intro _ _ _ h; exact h) (Or.inr ⟨by kernel_rfl, rfl⟩) (by assumption) ?rest52
     change wpAnyH _ _ _ _ _ _ _ (Act.put _ (some 24) _) _
     try simp only [Act.put, List.setIfInBounds_toArray, List.set_cons_zero, List.set_cons_succ]
     refine wpAnyH_take (i := 10) (v := undef) (by rfl) (by kernel_rfl) (by kernel_rfl) (by kernel_rfl) (by intro _ _ _ h; exact h) (Or.inr ⟨by kernel_rfl, rfl⟩) (by assumption) ?rest53
     change wpAnyH _ _ _ _ _ _ _ (Act.put _ (some 25) _) _
     try simp only [Act.put, List.setIfInBounds_toArray, List.set_cons_zero, List.set_cons_succ]
     refine wpAnyH_take (i := 11) (v := undef) (by rfl) (by kernel_rfl) (by kernel_rfl) (by kernel_rfl) (by intro _ _ _ h; exact h) (Or.inr ⟨by kernel_rfl, rfl⟩) (by assumption) ?rest54
     change wpAnyH _ _ _ _ _ _ _ (Act.put _ (some 26) _) _
     try simp only [Act.put, List.setIfInBounds_toArray, List.set_cons_zero, List.set_cons_succ]
     refine wpAnyH_take (i := 12) (v := undef) (by rfl) (by kernel_rfl) (by kernel_rfl) (by kernel_rfl) (by intro _ _ _ h; exact h) (Or.inr ⟨by kernel_rfl, rfl⟩) (by assumption) ?rest55
     change wpAnyH _ _ _ _ _ _ _ (Act.put _ (some 27) _) _
     try simp only [Act.put, List.setIfInBounds_toArray, List.set_cons_zero, List.set_cons_succ]
     refine wpAnyH_take (i := 13) (v := undef) (by rfl) (by kernel_rfl) (by kernel_rfl) (by kernel_rfl) (by intro _ _ _ h; exact h) (Or.inr ⟨by kernel_rfl, rfl⟩) (by assumption) ?rest56
     change wpAnyH _ _ _ _ _ _ _ (Act.put _ (some 28) _) _
     try simp only [Act.put, List.setIfInBounds_toArray, List.set_cons_zero, List.set_cons_succ]
     refine wpAnyH_take (i := 14) (v := undef) (by rfl) (by kernel_rfl) (by kernel_rfl) (by kernel_rfl) (by intro _ _ _ h; exact h) (Or.inr ⟨by kernel_rfl, rfl⟩) (by assumption) ?rest57
     change wpAnyH _ _ _ _ _ _ _ (Act.put _ (some 29) _) _
     try simp only [Act.put, List.setIfInBounds_toArray, List.set_cons_zero, List.set_cons_succ]
     refine tq 15 30 ?_
     refine wpAnyH_done (by kernel_rfl) ?_ _
     refine NoPanic.normal ?_
     go_wp2_with fail
     go_ret
     exact ⟨(congrArg (fun n => Ending.returned (Value.int .i64 n)) HF.out).symm, HK.out.trans HKy.out.drew⟩
   ·obtain rfl : j = l.length := by omega
    have hall : l.all (okP r) = true := by rw [List.all_eq_true]; intro p hp; exact HH.out.1 p (by rw [List.take_length]; exact hp)
    have HC2 : Hid (chk r = if r.kind = 6 ∧ 32768 < r.data.length then 4 else if r = bare r then 0 else 3) := Lib.hid (by rw [HC.out, hall, if_neg (by decide)])
    have HKr := Lib.hid (HK.out.trans HH.out.2)
    have HAr := Lib.hid (HA.out.keeps HH.out.2)
    clear HC hall HH
    obtain ⟨a0, a1, a2, a3, a4, a5, a6, a7, a8, a9, a10, a11⟩ := rec12 HAr.out
    by_cases h6 : r.kind = 6 ∧ 32768 < r.data.length
    ·have h6' : (r.kind == 6) = true := by simp [h6.1]
     have h7' : decide (32768 < (r.data.length : Int)) = true := decide_eq_true (by omega)
     have HC3 := HC2.out
     rw [if_pos h6] at HC3
     have HC4 := Lib.hid HC3
     clear h6 HC3
     go_wp2_with fail
     go_ret
     exact ⟨(congrArg (fun n => Ending.returned (Value.int .i64 n)) HC4.out).symm, HKr.out⟩
    ·have HC3 := HC2.out
     rw [if_neg h6] at HC3
     have HC4 := Lib.hid HC3
     clear HC3
     have HBC := Lib.hid (HBA.out wr (HR.out.keeps HKr.out) HK1.out)
     have go : ∀ b : Bool, decide (r = bare r) = b → chk r = (if b then 0 else 3) := fun b hb => by
      rw [HC4.out]
      by_cases h : r = bare r
      ·rw [decide_eq_true h] at hb; subst hb; rw [if_pos h]; rfl
      ·rw [decide_eq_false h] at hb; subst hb; rw [if_neg h]; rfl
     have GO := Lib.hid go
     clear go
     generalize decide (r = bare r) = bb at *
     by_cases k6 : r.kind = 6
     ·have h6' : (r.kind == 6) = true := by simp [k6]
      have h7' : decide (32768 < (r.data.length : Int)) = false := decide_eq_false (by omega)
      clear h6 k6
      go_wp2_with fail
      refine HBC.out.mono ?_
      rintro e w9 ⟨rfl, hk9⟩
      have HE := Lib.hid (GO.out bb rfl)
      cases bb with
      |true =>
       go_wp2_with fail
       go_ret
       exact ⟨(congrArg (fun n => Ending.returned (Value.int .i64 n)) HE.out).symm, HKr.out.trans hk9⟩
      |false =>
       go_wp2_with fail
       go_ret
       exact ⟨(congrArg (fun n => Ending.returned (Value.int .i64 n)) HE.out).symm, HKr.out.trans hk9⟩
     ·have h6' : (r.kind == 6) = false := by simp [k6]
      clear h6 k6
      go_wp2_with fail
      refine HBC.out.mono ?_
      rintro e w9 ⟨rfl, hk9⟩
      have HE := Lib.hid (GO.out bb rfl)
      cases bb with
      |true =>
       go_wp2_with fail
       go_ret
       exact ⟨(congrArg (fun n => Ending.returned (Value.int .i64 n)) HE.out).symm, HKr.out.trans hk9⟩
      |false =>
       go_wp2_with fail
       go_ret
       exact ⟨(congrArg (fun n => Ending.returned (Value.int .i64 n)) HE.out).symm, HKr.out.trans hk9⟩
 ·have HC : Hid (chk r = 16) := Lib.hid (by unfold chk; rw [if_pos (by omega)])
  have HN : Hid (partsL r.kind = []) := Lib.hid (partsL_nil (by omega))
  clear hk
  have hnil : ∀ W, (binOp .eql 242 (.slice none 0 0) (.slice none 0 0)).run Tryz.prog W = .ok (.bool true) W := fun W => Lib.run_eql_slice_nil W _ _ _ _ _ _ _ Tryz.underlying242
  go_wp2_with fail
  refine (parts_any Q _ r.kind w1 HA.out rfl).mono ?_
  rintro e w2 ⟨v2, rfl, hv, -, hk2⟩
  obtain rfl := hv HN.out
  clear hv
  go_wp2_with fail
  go_ret
  exact ⟨(congrArg (fun n => Ending.returned (Value.int .i64 n)) HC.out).symm, HK.out.trans hk2⟩
end Rcd
end Go.Proofs.YtklbemkafdccgaaGreat

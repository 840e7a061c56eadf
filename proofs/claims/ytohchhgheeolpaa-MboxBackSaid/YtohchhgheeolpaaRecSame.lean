/- record.Same, record.all, bytes.Equal. -/
import Derived.Test.YtohchhgheeolpaaRecOpen
import Derived.Test.YtohchhgheeolpaaK02
import Derived.Test.YtohchhgheeolpaaK00
import Derived.Test.YtohchhgheeolpaaCells
import Derived.Test.YtohchhgheeolpaaDrawn
import Derived.Deep.DeepCutAuto
import Derived.Test.YtohchhgheeolpaaArrEq
namespace Go.Proofs.Ytohchhgheeolpaa
open Go.RowKit
namespace Rcd

theorem rstr9 : Try.prog.underlying 9 = some .string := Try.underlying9
theorem rstr_at {w : World} {v : Value} {l : List UInt8} (h : Row w v (l.map u8v)) : (convert 22 9 v).run Try.prog w = .ok (.string (bstr l)) w := h.str Try.underlying22 Try.underlying5 rstr9

set_option maxRecDepth 100000 in
theorem equal_any (v1 v2 : Value) (l1 l2 : List UInt8) (w : World) (h1 : Row w v1 (l1.map u8v)) (h2 : Row w v2 (l2.map u8v)) :
    Calls Try.prog 123 #[v1, v2] w fun e w' => e = .returned (.bool (decide (l1 = l2))) ∧ w = w' := by
  have c1 := rstr_at h1
  have c2 := rstr_at h2
  obtain ⟨p1, k1, rfl, -, -⟩ := h1.form
  obtain ⟨p2, k2, rfl, -, -⟩ := h2.form
  simp only [List.length_map] at c1 c2 ⊢
  clear h1 h2
  go_enter Try.func123, Try.ntmps123
  go_wp2_with fail
  go_ret
  exact ⟨congrArg (fun b => Ending.returned (Value.bool b)) (by rw [bstr_toList, bstr_toList, Bool.eq_iff_iff]; simp), rfl⟩
theorem equal_k (v1 v2 : Value) (l1 l2 : List UInt8) (w : World) (h1 : Row w v1 (l1.map u8v)) (h2 : Row w v2 (l2.map u8v)) :
    Calls Try.prog 123 #[v1, v2] w fun e w' => e = .returned (.bool (decide (l1 = l2))) ∧ Keeps w w' :=
  (equal_any v1 v2 l1 l2 w h1 h2).mono fun _ _ ⟨he, hw⟩ => ⟨he, by rw [← hw]; exact Keeps.refl _⟩
def allA (r : Rec) : Array Value := #[.int .i64 r.kind, .int .i64 r.user, .int .i64 r.seq, .int .i64 r.next, .int .i64 r.base, .int .i64 r.uid, .int .i64 r.time, .int .i64 r.flags, .int .i64 r.body, .int .i64 r.size, .int .i64 r.origin]
set_option maxRecDepth 100000 in
set_option maxHeartbeats 2000000 in
theorem all_any (r : Rec) (dv : Value) (w : World) : Calls Try.prog 233 #[.agg (recA r dv)] w fun e w' => e = .returned (.agg (allA r)) ∧ Keeps w w' := by
  unfold recA allA
  go_enter Try.func233, Try.ntmps233
  go_wp2_with fail
  exact bodyPost_ret (by simp [results, Try.results233, go_sem]) rfl ⟨rfl, ((Keeps.refl _).alloc _).alloc _⟩
def allL (r : Rec) : List Int := [r.kind, r.user, r.seq, r.next, r.base, r.uid, r.time, r.flags, r.body, r.size, r.origin]
theorem allL_inj {r s : Rec} : allL r = allL s ↔ allA r = allA s := by simp [allL, allA]
theorem all_eq (r s : Rec) (w : World) : (Op.equalIn 10000 286 (.agg (allA r)) (.agg (allA s))).run Try.prog w = .ok (decide (allL r = allL s)) w := by
  have hi : (Try.prog.info? 3).isSome = true := by kernel_rfl
  cases e : Try.prog.info? 3 with
  | none => rw [e] at hi; cases hi
  | some i =>
    have := run_eq_ints (d := 9998) (n := 11) (i := i) Try.underlying286 Try.underlying3 e (by kernel_rfl) (by kernel_rfl) (allL r) (allL s) rfl rfl w
    exact this
theorem rec_eq {r s : Rec} : r = s ↔ allA r = allA s ∧ r.data = s.data := by
  cases r; cases s
  simp [allA]
  constructor
  · rintro ⟨rfl, rfl, rfl, rfl, rfl, rfl, rfl, rfl, rfl, rfl, rfl, rfl⟩; simp
  · rintro ⟨⟨rfl, rfl, rfl, rfl, rfl, rfl, rfl, rfl, rfl, rfl, rfl⟩, rfl⟩; simp
set_option maxRecDepth 100000 in
set_option maxHeartbeats 2000000 in
theorem same_any (r s : Rec) (v u : Value) (w : World) (hr : Row w v (r.data.map u8v)) (hs : Row w u (s.data.map u8v)) :
    Calls Try.prog 217 #[.agg (recA r v), .agg (recA s u)] w fun e w' => e = .returned (.bool (decide (r = s))) ∧ Keeps w w' := by
  have CA := Lib.hid (fun w => all_any r v w)
  have CB := Lib.hid (fun w => all_any s u w)
  have HR := Lib.hid hr
  have HS := Lib.hid hs
  clear hr hs
  unfold recA at CA CB ⊢
  have HQ := Lib.hid (fun w => all_eq r s w)
  by_cases hE : allL r = allL s
  · rw [decide_eq_true hE] at HQ
    have HX : Hid (decide (r.data = s.data) = decide (r = s)) := Lib.hid (by rw [Bool.eq_iff_iff, decide_eq_true_eq, decide_eq_true_eq, rec_eq]; exact ⟨fun h => ⟨allL_inj.1 hE, h⟩, fun h => h.2⟩)
    go_enter Try.func217, Try.ntmps217
    go_upto_region 1 with fail
    generalize hW : World.alloc (World.alloc w _) _ = w2
    have HK : Hid (Keeps w w2) := Lib.hid (by rw [← hW]; exact ((Keeps.refl _).alloc _).alloc _)
    have AB : Blk w2 w.heap.size 82 (recA r v) := by rw [← hW]; exact (Blk.new _ _ _ rfl).alloc _
    have BB : Blk w2 (w.heap.size + 1) 82 (recA s u) := by rw [← hW]; exact Blk.new _ _ _ (by show _ = (w.heap.push _).size; simp)
    clear hW
    have a0 : w2.cell? ⟨w.heap.size, 0, none⟩ = some (.int .i64 r.kind) := by rw [AB.cell]; rfl
    have a1 : w2.cell? ⟨w.heap.size, 1, none⟩ = some (.int .i64 r.user) := by rw [AB.cell]; rfl
    have a2 : w2.cell? ⟨w.heap.size, 2, none⟩ = some (.int .i64 r.seq) := by rw [AB.cell]; rfl
    have a3 : w2.cell? ⟨w.heap.size, 3, none⟩ = some (.int .i64 r.next) := by rw [AB.cell]; rfl
    have a4 : w2.cell? ⟨w.heap.size, 4, none⟩ = some (.int .i64 r.base) := by rw [AB.cell]; rfl
    have a5 : w2.cell? ⟨w.heap.size, 5, none⟩ = some (.int .i64 r.uid) := by rw [AB.cell]; rfl
    have a6 : w2.cell? ⟨w.heap.size, 6, none⟩ = some (.int .i64 r.time) := by rw [AB.cell]; rfl
    have a7 : w2.cell? ⟨w.heap.size, 7, none⟩ = some (.int .i64 r.flags) := by rw [AB.cell]; rfl
    have a8 : w2.cell? ⟨w.heap.size, 8, none⟩ = some (.int .i64 r.body) := by rw [AB.cell]; rfl
    have a9 : w2.cell? ⟨w.heap.size, 9, none⟩ = some (.int .i64 r.size) := by rw [AB.cell]; rfl
    have a10 : w2.cell? ⟨w.heap.size, 10, none⟩ = some (.int .i64 r.origin) := by rw [AB.cell]; rfl
    have a11 : w2.cell? ⟨w.heap.size, 11, none⟩ = some (v) := by rw [AB.cell]; rfl
    have b0 : w2.cell? ⟨w.heap.size + 1, 0, none⟩ = some (.int .i64 s.kind) := by rw [BB.cell]; rfl
    have b1 : w2.cell? ⟨w.heap.size + 1, 1, none⟩ = some (.int .i64 s.user) := by rw [BB.cell]; rfl
    have b2 : w2.cell? ⟨w.heap.size + 1, 2, none⟩ = some (.int .i64 s.seq) := by rw [BB.cell]; rfl
    have b3 : w2.cell? ⟨w.heap.size + 1, 3, none⟩ = some (.int .i64 s.next) := by rw [BB.cell]; rfl
    have b4 : w2.cell? ⟨w.heap.size + 1, 4, none⟩ = some (.int .i64 s.base) := by rw [BB.cell]; rfl
    have b5 : w2.cell? ⟨w.heap.size + 1, 5, none⟩ = some (.int .i64 s.uid) := by rw [BB.cell]; rfl
    have b6 : w2.cell? ⟨w.heap.size + 1, 6, none⟩ = some (.int .i64 s.time) := by rw [BB.cell]; rfl
    have b7 : w2.cell? ⟨w.heap.size + 1, 7, none⟩ = some (.int .i64 s.flags) := by rw [BB.cell]; rfl
    have b8 : w2.cell? ⟨w.heap.size + 1, 8, none⟩ = some (.int .i64 s.body) := by rw [BB.cell]; rfl
    have b9 : w2.cell? ⟨w.heap.size + 1, 9, none⟩ = some (.int .i64 s.size) := by rw [BB.cell]; rfl
    have b10 : w2.cell? ⟨w.heap.size + 1, 10, none⟩ = some (.int .i64 s.origin) := by rw [BB.cell]; rfl
    have b11 : w2.cell? ⟨w.heap.size + 1, 11, none⟩ = some (u) := by rw [BB.cell]; rfl
    clear AB BB
    generalize hQ : w.heap.size = Q at *
    clear hQ
    refine wp_region_noPanic ?_
    refine wp_region_held_drew (S := fun w' => Keeps (w2) w') (by kernel_rfl) ((Keeps.refl _).drew) (fun _ => ?_)
    have hHeld : Keeps (w2) (w2).drew := (Keeps.refl _).drew
    refine wpAnyH_take (i := 0) (v := ?vv1) (by rfl) (by kernel_rfl) (by kernel_rfl) (by kernel_rfl) (by intro _ _ _ h; exact h) (Or.inl ⟨by kernel_rfl, ?hy1⟩) (by assumption) ?rest1
    case hy1 =>
      intro w' hSw
      have hSw : Keeps _ w' := hSw
      have h0 := keep1 hSw a0
      have h1 := keep1 hSw a1
      have h2 := keep1 hSw a2
      have h3 := keep1 hSw a3
      have h4 := keep1 hSw a4
      have h5 := keep1 hSw a5
      have h6 := keep1 hSw a6
      have h7 := keep1 hSw a7
      have h8 := keep1 hSw a8
      have h9 := keep1 hSw a9
      have h10 := keep1 hSw a10
      have h11 := keep1 hSw a11
      clear hSw
      go_simp
      try with_reducible rfl
    change wpAnyH _ _ _ _ _ _ _ (Act.put _ (some 5) _) _
    try simp only [Act.put, List.setIfInBounds_toArray, List.set_cons_zero, List.set_cons_succ]
    refine wpAnyH_take (i := 2) (v := ?vv2) (by rfl) (by kernel_rfl) (by kernel_rfl) (by kernel_rfl) (by intro _ _ _ h; exact h) (Or.inl ⟨by kernel_rfl, ?hy2⟩) (by assumption) ?rest2
    case hy2 =>
      intro w' hSw
      have hSw : Keeps _ w' := hSw
      have h0 := keep1 hSw b0
      have h1 := keep1 hSw b1
      have h2 := keep1 hSw b2
      have h3 := keep1 hSw b3
      have h4 := keep1 hSw b4
      have h5 := keep1 hSw b5
      have h6 := keep1 hSw b6
      have h7 := keep1 hSw b7
      have h8 := keep1 hSw b8
      have h9 := keep1 hSw b9
      have h10 := keep1 hSw b10
      have h11 := keep1 hSw b11
      clear hSw
      go_simp
      try with_reducible rfl
    change wpAnyH _ _ _ _ _ _ _ (Act.put _ (some 7) _) _
    try simp only [Act.put, List.setIfInBounds_toArray, List.set_cons_zero, List.set_cons_succ]
    refine wpAnyH_ready (rs := [1]) (by kernel_rfl) (by simp) ?_
    refine AllReadyH.cons (o := _) rfl (fun K hK => ?_) AllReadyH.nil
    go_simp
    refine (CA.out _).mono ?_
    rintro e w3 ⟨rfl, hk⟩
    have hb : Keeps _ w3 := hHeld.trans hk
    have HK := Lib.hid (HK.out.drew.trans hk)
    have HT := Lib.hid ((Keeps.refl w2).drew.trans hk)
    go_wp2_with fail
    refine hK.out _ _ hb (fun _ => ?_)
    clear hK K
    try simp only [Act.put, List.setIfInBounds_toArray, List.set_cons_zero, List.set_cons_succ]
    refine wpAnyH_more (S' := fun w' => Keeps w3 w') (fun _ h => hb.trans h) ?_
    clear hHeld hb hk
    have hHeld : Keeps w3 w3 := Keeps.refl _
    refine wpAnyH_ready (rs := [3]) (by kernel_rfl) (by simp) ?_
    refine AllReadyH.cons (o := _) rfl (fun K hK => ?_) AllReadyH.nil
    go_simp
    refine (CB.out _).mono ?_
    rintro e w4 ⟨rfl, hk⟩
    have hb : Keeps _ w4 := hHeld.trans hk
    have HK := Lib.hid (HK.out.trans hk)
    have HT := Lib.hid (HT.out.trans hk)
    go_wp2_with fail
    refine hK.out _ _ hb (fun _ => ?_)
    clear hK K
    try simp only [Act.put, List.setIfInBounds_toArray, List.set_cons_zero, List.set_cons_succ]
    refine wpAnyH_more (S' := fun w' => Keeps w4 w') (fun _ h => hb.trans h) ?_
    clear hHeld hb hk
    have hHeld : Keeps w4 w4 := Keeps.refl _
    refine wpAnyH_take (i := 4) (v := ?vv3) (by rfl) (by kernel_rfl) (by kernel_rfl) (by kernel_rfl) (by intro _ _ _ h; exact h) (Or.inl ⟨by kernel_rfl, ?hy3⟩) (by assumption) ?rest3
    case hy3 =>
      intro w' hSw
      have hSw : Keeps _ w' := hSw
      have hq := HQ.out w'
      clear hSw
      go_simp
      try with_reducible rfl
    change wpAnyH _ _ _ _ _ _ _ (Act.put _ (some 9) _) _
    try simp only [Act.put, List.setIfInBounds_toArray, List.set_cons_zero, List.set_cons_succ]
    refine wpAnyH_take (i := 5) (v := ?vv4) (by rfl) (by kernel_rfl) (by kernel_rfl) (by kernel_rfl) (by intro _ _ _ h; exact h) (Or.inl ⟨by kernel_rfl, ?hy4⟩) (by assumption) ?rest4
    case hy4 =>
      intro w' hSw
      have hSw : Keeps _ w' := hSw
      clear hSw
      go_simp
      try with_reducible rfl
    change wpAnyH _ _ _ _ _ _ _ (Act.put _ (some 10) _) _
    try simp only [Act.put, List.setIfInBounds_toArray, List.set_cons_zero, List.set_cons_succ]
    refine wpAnyH_take (i := 6) (v := ?vv5) (by rfl) (by kernel_rfl) (by kernel_rfl) (by kernel_rfl) (by intro _ _ _ h; exact h) (Or.inl ⟨by kernel_rfl, ?hy5⟩) (by assumption) ?rest5
    case hy5 =>
      intro w' hSw
      have hSw : Keeps _ w' := hSw
      clear hSw
      go_simp
      try with_reducible rfl
    change wpAnyH _ _ _ _ _ _ _ (Act.put _ (some 11) _) _
    try simp only [Act.put, List.setIfInBounds_toArray, List.set_cons_zero, List.set_cons_succ]
    refine wpAnyH_take (i := 7) (v := ?vv6) (by rfl) (by kernel_rfl) (by kernel_rfl) (by kernel_rfl) (by intro _ _ _ h; exact h) (Or.inl ⟨by kernel_rfl, ?hy6⟩) (by assumption) ?rest6
    case hy6 =>
      intro w' hSw
      have hSw : Keeps _ w' := hSw
      have h11 := keep1 hSw (keep1 HT.out a11)
      clear hSw
      go_simp
      try with_reducible rfl
    change wpAnyH _ _ _ _ _ _ _ (Act.put _ (some 12) _) _
    try simp only [Act.put, List.setIfInBounds_toArray, List.set_cons_zero, List.set_cons_succ]
    refine wpAnyH_take (i := 8) (v := ?vv7) (by rfl) (by kernel_rfl) (by kernel_rfl) (by kernel_rfl) (by intro _ _ _ h; exact h) (Or.inl ⟨by kernel_rfl, ?hy7⟩) (by assumption) ?rest7
    case hy7 =>
      intro w' hSw
      have hSw : Keeps _ w' := hSw
      clear hSw
      go_simp
      try with_reducible rfl
    change wpAnyH _ _ _ _ _ _ _ (Act.put _ (some 13) _) _
    try simp only [Act.put, List.setIfInBounds_toArray, List.set_cons_zero, List.set_cons_succ]
    refine wpAnyH_take (i := 9) (v := ?vv8) (by rfl) (by kernel_rfl) (by kernel_rfl) (by kernel_rfl) (by intro _ _ _ h; exact h) (Or.inl ⟨by kernel_rfl, ?hy8⟩) (by assumption) ?rest8
    case hy8 =>
      intro w' hSw
      have hSw : Keeps _ w' := hSw
      have h11 := keep1 hSw (keep1 HT.out b11)
      clear hSw
      go_simp
      try with_reducible rfl
    change wpAnyH _ _ _ _ _ _ _ (Act.put _ (some 14) _) _
    try simp only [Act.put, List.setIfInBounds_toArray, List.set_cons_zero, List.set_cons_succ]
    refine wpAnyH_ready (rs := [10]) (by kernel_rfl) (by simp) ?_
    refine AllReadyH.cons (o := _) rfl (fun K hK => ?_) AllReadyH.nil
    go_simp
    refine (equal_k _ _ _ _ _ (HR.out.keeps HK.out) (HS.out.keeps HK.out)).mono ?_
    rintro e w5 ⟨rfl, hk⟩
    have hb : Keeps _ w5 := hHeld.trans hk
    have HK := Lib.hid (HK.out.trans hk)
    go_wp2_with fail
    refine hK.out _ _ hb (fun _ => ?_)
    clear hK K
    try simp only [Act.put, List.setIfInBounds_toArray, List.set_cons_zero, List.set_cons_succ]
    refine wpAnyH_more (S' := fun w' => Keeps w5 w') (fun _ h => hb.trans h) ?_
    clear hHeld hb hk
    have hHeld : Keeps w5 w5 := Keeps.refl _
    refine wpAnyH_take (i := 11) (v := ?vv9) (by rfl) (by kernel_rfl) (by kernel_rfl) (by kernel_rfl) (by intro _ _ _ h; exact h) (Or.inl ⟨by kernel_rfl, ?hy9⟩) (by assumption) ?rest9
    case hy9 =>
      intro w' hSw
      have hSw : Keeps _ w' := hSw
      clear hSw
      go_simp
      try with_reducible rfl
    change wpAnyH _ _ _ _ _ _ _ (Act.put _ (some 16) _) _
    try simp only [Act.put, List.setIfInBounds_toArray, List.set_cons_zero, List.set_cons_succ]
    refine wpAnyH_take (i := 12) (v := ?vv10) (by rfl) (by kernel_rfl) (by kernel_rfl) (by kernel_rfl) (by intro _ _ _ h; exact h) (Or.inl ⟨by kernel_rfl, ?hy10⟩) (by assumption) ?rest10
    case hy10 =>
      intro w' hSw
      have hSw : Keeps _ w' := hSw
      clear hSw
      go_simp
      try with_reducible rfl
    change wpAnyH _ _ _ _ _ _ _ (Act.put _ (some 4) _) _
    try simp only [Act.put, List.setIfInBounds_toArray, List.set_cons_zero, List.set_cons_succ]
    refine wpAnyH_done (by kernel_rfl) ?_ _
    refine NoPanic.normal ?_
    go_wp2_with fail
    go_ret
    exact ⟨by rw [HX.out]; rfl, HK.out⟩
  · rw [decide_eq_false hE] at HQ
    have HX : Hid (decide (r = s) = false) := Lib.hid (decide_eq_false (fun h => hE (allL_inj.2 (rec_eq.1 h).1)))
    go_enter Try.func217, Try.ntmps217
    go_upto_region 1 with fail
    generalize hW : World.alloc (World.alloc w _) _ = w2
    have HK : Hid (Keeps w w2) := Lib.hid (by rw [← hW]; exact ((Keeps.refl _).alloc _).alloc _)
    have AB : Blk w2 w.heap.size 82 (recA r v) := by rw [← hW]; exact (Blk.new _ _ _ rfl).alloc _
    have BB : Blk w2 (w.heap.size + 1) 82 (recA s u) := by rw [← hW]; exact Blk.new _ _ _ (by show _ = (w.heap.push _).size; simp)
    clear hW
    have a0 : w2.cell? ⟨w.heap.size, 0, none⟩ = some (.int .i64 r.kind) := by rw [AB.cell]; rfl
    have a1 : w2.cell? ⟨w.heap.size, 1, none⟩ = some (.int .i64 r.user) := by rw [AB.cell]; rfl
    have a2 : w2.cell? ⟨w.heap.size, 2, none⟩ = some (.int .i64 r.seq) := by rw [AB.cell]; rfl
    have a3 : w2.cell? ⟨w.heap.size, 3, none⟩ = some (.int .i64 r.next) := by rw [AB.cell]; rfl
    have a4 : w2.cell? ⟨w.heap.size, 4, none⟩ = some (.int .i64 r.base) := by rw [AB.cell]; rfl
    have a5 : w2.cell? ⟨w.heap.size, 5, none⟩ = some (.int .i64 r.uid) := by rw [AB.cell]; rfl
    have a6 : w2.cell? ⟨w.heap.size, 6, none⟩ = some (.int .i64 r.time) := by rw [AB.cell]; rfl
    have a7 : w2.cell? ⟨w.heap.size, 7, none⟩ = some (.int .i64 r.flags) := by rw [AB.cell]; rfl
    have a8 : w2.cell? ⟨w.heap.size, 8, none⟩ = some (.int .i64 r.body) := by rw [AB.cell]; rfl
    have a9 : w2.cell? ⟨w.heap.size, 9, none⟩ = some (.int .i64 r.size) := by rw [AB.cell]; rfl
    have a10 : w2.cell? ⟨w.heap.size, 10, none⟩ = some (.int .i64 r.origin) := by rw [AB.cell]; rfl
    have a11 : w2.cell? ⟨w.heap.size, 11, none⟩ = some (v) := by rw [AB.cell]; rfl
    have b0 : w2.cell? ⟨w.heap.size + 1, 0, none⟩ = some (.int .i64 s.kind) := by rw [BB.cell]; rfl
    have b1 : w2.cell? ⟨w.heap.size + 1, 1, none⟩ = some (.int .i64 s.user) := by rw [BB.cell]; rfl
    have b2 : w2.cell? ⟨w.heap.size + 1, 2, none⟩ = some (.int .i64 s.seq) := by rw [BB.cell]; rfl
    have b3 : w2.cell? ⟨w.heap.size + 1, 3, none⟩ = some (.int .i64 s.next) := by rw [BB.cell]; rfl
    have b4 : w2.cell? ⟨w.heap.size + 1, 4, none⟩ = some (.int .i64 s.base) := by rw [BB.cell]; rfl
    have b5 : w2.cell? ⟨w.heap.size + 1, 5, none⟩ = some (.int .i64 s.uid) := by rw [BB.cell]; rfl
    have b6 : w2.cell? ⟨w.heap.size + 1, 6, none⟩ = some (.int .i64 s.time) := by rw [BB.cell]; rfl
    have b7 : w2.cell? ⟨w.heap.size + 1, 7, none⟩ = some (.int .i64 s.flags) := by rw [BB.cell]; rfl
    have b8 : w2.cell? ⟨w.heap.size + 1, 8, none⟩ = some (.int .i64 s.body) := by rw [BB.cell]; rfl
    have b9 : w2.cell? ⟨w.heap.size + 1, 9, none⟩ = some (.int .i64 s.size) := by rw [BB.cell]; rfl
    have b10 : w2.cell? ⟨w.heap.size + 1, 10, none⟩ = some (.int .i64 s.origin) := by rw [BB.cell]; rfl
    have b11 : w2.cell? ⟨w.heap.size + 1, 11, none⟩ = some (u) := by rw [BB.cell]; rfl
    clear AB BB
    generalize hQ : w.heap.size = Q at *
    clear hQ
    refine wp_region_noPanic ?_
    refine wp_region_held_drew (S := fun w' => Keeps (w2) w') (by kernel_rfl) ((Keeps.refl _).drew) (fun _ => ?_)
    have hHeld : Keeps (w2) (w2).drew := (Keeps.refl _).drew
    refine wpAnyH_take (i := 0) (v := ?vv11) (by rfl) (by kernel_rfl) (by kernel_rfl) (by kernel_rfl) (by intro _ _ _ h; exact h) (Or.inl ⟨by kernel_rfl, ?hy11⟩) (by assumption) ?rest11
    case hy11 =>
      intro w' hSw
      have hSw : Keeps _ w' := hSw
      have h0 := keep1 hSw a0
      have h1 := keep1 hSw a1
      have h2 := keep1 hSw a2
      have h3 := keep1 hSw a3
      have h4 := keep1 hSw a4
      have h5 := keep1 hSw a5
      have h6 := keep1 hSw a6
      have h7 := keep1 hSw a7
      have h8 := keep1 hSw a8
      have h9 := keep1 hSw a9
      have h10 := keep1 hSw a10
      have h11 := keep1 hSw a11
      clear hSw
      go_simp
      try with_reducible rfl
    change wpAnyH _ _ _ _ _ _ _ (Act.put _ (some 5) _) _
    try simp only [Act.put, List.setIfInBounds_toArray, List.set_cons_zero, List.set_cons_succ]
    refine wpAnyH_take (i := 2) (v := ?vv12) (by rfl) (by kernel_rfl) (by kernel_rfl) (by kernel_rfl) (by intro _ _ _ h; exact h) (Or.inl ⟨by kernel_rfl, ?hy12⟩) (by assumption) ?rest12
    case hy12 =>
      intro w' hSw
      have hSw : Keeps _ w' := hSw
      have h0 := keep1 hSw b0
      have h1 := keep1 hSw b1
      have h2 := keep1 hSw b2
      have h3 := keep1 hSw b3
      have h4 := keep1 hSw b4
      have h5 := keep1 hSw b5
      have h6 := keep1 hSw b6
      have h7 := keep1 hSw b7
      have h8 := keep1 hSw b8
      have h9 := keep1 hSw b9
      have h10 := keep1 hSw b10
      have h11 := keep1 hSw b11
      clear hSw
      go_simp
      try with_reducible rfl
    change wpAnyH _ _ _ _ _ _ _ (Act.put _ (some 7) _) _
    try simp only [Act.put, List.setIfInBounds_toArray, List.set_cons_zero, List.set_cons_succ]
    refine wpAnyH_ready (rs := [1]) (by kernel_rfl) (by simp) ?_
    refine AllReadyH.cons (o := _) rfl (fun K hK => ?_) AllReadyH.nil
    go_simp
    refine (CA.out _).mono ?_
    rintro e w3 ⟨rfl, hk⟩
    have hb : Keeps _ w3 := hHeld.trans hk
    have HK := Lib.hid (HK.out.drew.trans hk)
    have HT := Lib.hid ((Keeps.refl w2).drew.trans hk)
    go_wp2_with fail
    refine hK.out _ _ hb (fun _ => ?_)
    clear hK K
    try simp only [Act.put, List.setIfInBounds_toArray, List.set_cons_zero, List.set_cons_succ]
    refine wpAnyH_more (S' := fun w' => Keeps w3 w') (fun _ h => hb.trans h) ?_
    clear hHeld hb hk
    have hHeld : Keeps w3 w3 := Keeps.refl _
    refine wpAnyH_ready (rs := [3]) (by kernel_rfl) (by simp) ?_
    refine AllReadyH.cons (o := _) rfl (fun K hK => ?_) AllReadyH.nil
    go_simp
    refine (CB.out _).mono ?_
    rintro e w4 ⟨rfl, hk⟩
    have hb : Keeps _ w4 := hHeld.trans hk
    have HK := Lib.hid (HK.out.trans hk)
    have HT := Lib.hid (HT.out.trans hk)
    go_wp2_with fail
    refine hK.out _ _ hb (fun _ => ?_)
    clear hK K
    try simp only [Act.put, List.setIfInBounds_toArray, List.set_cons_zero, List.set_cons_succ]
    refine wpAnyH_more (S' := fun w' => Keeps w4 w') (fun _ h => hb.trans h) ?_
    clear hHeld hb hk
    have hHeld : Keeps w4 w4 := Keeps.refl _
    refine wpAnyH_take (i := 4) (v := ?vv13) (by rfl) (by kernel_rfl) (by kernel_rfl) (by kernel_rfl) (by intro _ _ _ h; exact h) (Or.inl ⟨by kernel_rfl, ?hy13⟩) (by assumption) ?rest13
    case hy13 =>
      intro w' hSw
      have hSw : Keeps _ w' := hSw
      have hq := HQ.out w'
      clear hSw
      go_simp
      try with_reducible rfl
    change wpAnyH _ _ _ _ _ _ _ (Act.put _ (some 9) _) _
    try simp only [Act.put, List.setIfInBounds_toArray, List.set_cons_zero, List.set_cons_succ]
    refine wpAnyH_take (i := 5) (v := ?vv14) (by rfl) (by kernel_rfl) (by kernel_rfl) (by kernel_rfl) (by intro _ _ _ h; exact h) (Or.inl ⟨by kernel_rfl, ?hy14⟩) (by assumption) ?rest14
    case hy14 =>
      intro w' hSw
      have hSw : Keeps _ w' := hSw
      clear hSw
      go_simp
      try with_reducible rfl
    change wpAnyH _ _ _ _ _ _ _ (Act.put _ (some 10) _) _
    try simp only [Act.put, List.setIfInBounds_toArray, List.set_cons_zero, List.set_cons_succ]
    refine wpAnyH_take (i := 6) (v := undef) (by rfl) (by kernel_rfl) (by kernel_rfl) (by kernel_rfl) (by intro _ _ _ h; exact h) (Or.inr ⟨by kernel_rfl, rfl⟩) (by assumption) ?rest15
    change wpAnyH _ _ _ _ _ _ _ (Act.put _ (some 11) _) _
    try simp only [Act.put, List.setIfInBounds_toArray, List.set_cons_zero, List.set_cons_succ]
    refine wpAnyH_take (i := 7) (v := undef) (by rfl) (by kernel_rfl) (by kernel_rfl) (by kernel_rfl) (by intro _ _ _ h; exact h) (Or.inr ⟨by kernel_rfl, rfl⟩) (by assumption) ?rest16
    change wpAnyH _ _ _ _ _ _ _ (Act.put _ (some 12) _) _
    try simp only [Act.put, List.setIfInBounds_toArray, List.set_cons_zero, List.set_cons_succ]
    refine wpAnyH_take (i := 8) (v := undef) (by rfl) (by kernel_rfl) (by kernel_rfl) (by kernel_rfl) (by intro _ _ _ h; exact h) (Or.inr ⟨by kernel_rfl, rfl⟩) (by assumption) ?rest17
    change wpAnyH _ _ _ _ _ _ _ (Act.put _ (some 13) _) _
    try simp only [Act.put, List.setIfInBounds_toArray, List.set_cons_zero, List.set_cons_succ]
    refine wpAnyH_take (i := 9) (v := undef) (by rfl) (by kernel_rfl) (by kernel_rfl) (by kernel_rfl) (by intro _ _ _ h; exact h) (Or.inr ⟨by kernel_rfl, rfl⟩) (by assumption) ?rest18
    change wpAnyH _ _ _ _ _ _ _ (Act.put _ (some 14) _) _
    try simp only [Act.put, List.setIfInBounds_toArray, List.set_cons_zero, List.set_cons_succ]
    refine wpAnyH_take (i := 10) (v := undef) (by rfl) (by kernel_rfl) (by kernel_rfl) (by kernel_rfl) (by intro _ _ _ h; exact h) (Or.inr ⟨by kernel_rfl, rfl⟩) (by assumption) ?rest19
    change wpAnyH _ _ _ _ _ _ _ (Act.put _ (some 15) _) _
    try simp only [Act.put, List.setIfInBounds_toArray, List.set_cons_zero, List.set_cons_succ]
    refine wpAnyH_take (i := 11) (v := ?vv20) (by rfl) (by kernel_rfl) (by kernel_rfl) (by kernel_rfl) (by intro _ _ _ h; exact h) (Or.inl ⟨by kernel_rfl, ?hy20⟩) (by assumption) ?rest20
    case hy20 =>
      intro w' hSw
      have hSw : Keeps _ w' := hSw
      clear hSw
      go_simp
      try with_reducible rfl
    change wpAnyH _ _ _ _ _ _ _ (Act.put _ (some 16) _) _
    try simp only [Act.put, List.setIfInBounds_toArray, List.set_cons_zero, List.set_cons_succ]
    refine wpAnyH_take (i := 12) (v := ?vv21) (by rfl) (by kernel_rfl) (by kernel_rfl) (by kernel_rfl) (by intro _ _ _ h; exact h) (Or.inl ⟨by kernel_rfl, ?hy21⟩) (by assumption) ?rest21
    case hy21 =>
      intro w' hSw
      have hSw : Keeps _ w' := hSw
      clear hSw
      go_simp
      try with_reducible rfl
    change wpAnyH _ _ _ _ _ _ _ (Act.put _ (some 4) _) _
    try simp only [Act.put, List.setIfInBounds_toArray, List.set_cons_zero, List.set_cons_succ]
    refine wpAnyH_done (by kernel_rfl) ?_ _
    refine NoPanic.normal ?_
    go_wp2_with fail
    go_ret
    exact ⟨by rw [HX.out]; rfl, HK.out⟩
end Rcd
end Go.Proofs.Ytohchhgheeolpaa

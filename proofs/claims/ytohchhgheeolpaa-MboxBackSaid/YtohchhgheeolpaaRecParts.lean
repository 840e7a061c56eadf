/- record.parts: the fields that a kind tells. -/
import Derived.Test.YtohchhgheeolpaaRecOpen
import Derived.Test.YtohchhgheeolpaaK02
import Derived.Test.YtohchhgheeolpaaK00
import Derived.Test.YtohchhgheeolpaaCells
import Derived.Test.YtohchhgheeolpaaDrawn
import Derived.Deep.DeepCutAuto
namespace Go.Proofs.Ytohchhgheeolpaa
open Go.RowKit
namespace Rcd

/-- a field in memory, of the record in block b -/
def partC (b : Nat) (p : Part) : List Value := [.int .i64 p.width, .int .i64 p.low, .int .i64 p.high, .pointer (some ⟨b, p.off, none⟩)]
theorem partC_len (b : Nat) (p : Part) : (partC b p).length = 4 := rfl
/-- the fields, as they are handed back -/
def PartsRet (b : Nat) (k : Int) (w : World) (e : Ending) (w' : World) : Prop :=
  ∃ v, e = .returned v ∧ (partsL k = [] → v = .slice none 0 0) ∧ (partsL k ≠ [] → ∃ g, v = .slice (some ⟨g, 0, none⟩) (partsL k).length (partsL k).length ∧ w.heap.size ≤ g ∧ ∃ cs, Blk w' g 247 cs ∧ cs.toList = (partsL k).flatMap (partC b)) ∧ Keeps w w'

theorem asz (w : World) (o : Obj) : (w.alloc o).heap.size = w.heap.size + 1 := by show (w.heap.push o).size = _; simp
theorem parts_ret {b : Nat} {k : Int} {w x : World} {l : List Part} {v : Value} {cs : Array Value} {n : Nat} (hl : partsL k = l) (hne : l ≠ []) (hn : n = l.length) (hv : v = .slice (some ⟨x.heap.size, 0, none⟩) n n) (hcs : cs.toList = l.flatMap (partC b)) (hK : Keeps w x) :
    PartsRet b k w (.returned v) (x.alloc (.cells cs 247)) := by
  subst hn hl hv
  exact ⟨_, rfl, fun h => absurd h hne, fun _ => ⟨_, rfl, hK.size, cs, Blk.new _ _ _ rfl, hcs⟩, hK.alloc _⟩

set_option maxRecDepth 100000 in
set_option maxHeartbeats 2000000 in
theorem parts_any (b : Nat) (cs : Array Value) (k : Int) (w : World) (hb : Blk w b 82 cs) (hk : cs[0]? = some (.int .i64 k)) :
    Calls Try.prog 185 #[.pointer (some ⟨b, 0, none⟩)] w (PartsRet b k w) := by
  go_enter Try.func185, Try.ntmps185
  go_upto_region 5 with fail
  generalize hW : World.alloc (World.alloc (World.alloc (World.alloc w _) _) _) _ = w4
  have hK : Keeps w w4 := by rw [← hW]; exact ((((Keeps.refl _).alloc _).alloc _).alloc _).alloc _
  have hB0 : Blk w4 w.heap.size 247 (partC b pUid).toArray := by rw [← hW]; exact (((Blk.new _ _ _ rfl).alloc _).alloc _).alloc _
  have hB1 : Blk w4 (w.heap.size + 1) 247 (partC b pFlags).toArray := by rw [← hW]; exact ((Blk.new _ _ _ (by rw [asz])).alloc _).alloc _
  have hB2 : Blk w4 (w.heap.size + 1 + 1) 247 (partC b pBody).toArray := by rw [← hW]; exact (Blk.new _ _ _ (by rw [asz, asz])).alloc _
  have hB3 : Blk w4 (w.heap.size + 1 + 1 + 1) 247 (partC b pNext).toArray := by rw [← hW]; exact Blk.new _ _ _ (by rw [asz, asz, asz])
  clear hW
  have hcell : w4.cell? ⟨b, 0, none⟩ = some (.int .i64 k) := by rw [(hb.keeps hK).cell]; exact hk
  have c00 : w4.cell? ⟨w.heap.size, 0, none⟩ = some (.int .i64 4) := by rw [hB0.cell]; rfl
  have c01 : w4.cell? ⟨w.heap.size, 1, none⟩ = some (.int .i64 1) := by rw [hB0.cell]; rfl
  have c02 : w4.cell? ⟨w.heap.size, 2, none⟩ = some (.int .i64 2147483648) := by rw [hB0.cell]; rfl
  have c03 : w4.cell? ⟨w.heap.size, 3, none⟩ = some (.pointer (some ⟨b, 5, none⟩)) := by rw [hB0.cell]; rfl
  have c10 : w4.cell? ⟨w.heap.size + 1, 0, none⟩ = some (.int .i64 1) := by rw [hB1.cell]; rfl
  have c11 : w4.cell? ⟨w.heap.size + 1, 1, none⟩ = some (.int .i64 0) := by rw [hB1.cell]; rfl
  have c12 : w4.cell? ⟨w.heap.size + 1, 2, none⟩ = some (.int .i64 31) := by rw [hB1.cell]; rfl
  have c13 : w4.cell? ⟨w.heap.size + 1, 3, none⟩ = some (.pointer (some ⟨b, 7, none⟩)) := by rw [hB1.cell]; rfl
  have c20 : w4.cell? ⟨w.heap.size + 1 + 1, 0, none⟩ = some (.int .i64 4) := by rw [hB2.cell]; rfl
  have c21 : w4.cell? ⟨w.heap.size + 1 + 1, 1, none⟩ = some (.int .i64 1) := by rw [hB2.cell]; rfl
  have c22 : w4.cell? ⟨w.heap.size + 1 + 1, 2, none⟩ = some (.int .i64 2147483648) := by rw [hB2.cell]; rfl
  have c23 : w4.cell? ⟨w.heap.size + 1 + 1, 3, none⟩ = some (.pointer (some ⟨b, 8, none⟩)) := by rw [hB2.cell]; rfl
  have c30 : w4.cell? ⟨w.heap.size + 1 + 1 + 1, 0, none⟩ = some (.int .i64 4) := by rw [hB3.cell]; rfl
  have c31 : w4.cell? ⟨w.heap.size + 1 + 1 + 1, 1, none⟩ = some (.int .i64 1) := by rw [hB3.cell]; rfl
  have c32 : w4.cell? ⟨w.heap.size + 1 + 1 + 1, 2, none⟩ = some (.int .i64 2147483649) := by rw [hB3.cell]; rfl
  have c33 : w4.cell? ⟨w.heap.size + 1 + 1 + 1, 3, none⟩ = some (.pointer (some ⟨b, 3, none⟩)) := by rw [hB3.cell]; rfl
  clear hB0 hB1 hB2 hB3 hb hk
  have hsz := hK.size
  have HKw := Lib.hid hK
  by_cases k1 : k = 1
  · subst k1
    go_upto_region 7 with fail
    refine wp_region_noPanic ?_
    refine wp_region_held_drew (S := fun w' => Keeps w4 w') (by kernel_rfl) ((Keeps.refl w4).drew) (fun _ => ?_)
    have hHeld : Keeps w4 (w4).drew := (Keeps.refl w4).drew
    generalize World.drew w4 = xs at *
    refine wpAnyH_take (i := 0) (v := ?vv1) (by rfl) (by kernel_rfl) (by kernel_rfl) (by kernel_rfl) (by intro _ _ _ h; exact h) (Or.inl ⟨by kernel_rfl, ?hy1⟩) (by assumption) ?rest1
    case hy1 =>
      intro w' hSw
      have hSw : Keeps w4 w' := hSw
      clear hSw
      go_simp
      try with_reducible rfl
    change wpAnyH _ _ _ _ _ _ _ (Act.put _ (some 29) _) _
    try simp only [Act.put, List.setIfInBounds_toArray, List.set_cons_zero, List.set_cons_succ]
    refine wpAnyH_take (i := 1) (v := ?vv2) (by rfl) (by kernel_rfl) (by kernel_rfl) (by kernel_rfl) (by intro _ _ _ h; exact h) (Or.inl ⟨by kernel_rfl, ?hy2⟩) (by assumption) ?rest2
    case hy2 =>
      intro w' hSw
      have hSw : Keeps w4 w' := hSw
      clear hSw
      go_simp
      try with_reducible rfl
    change wpAnyH _ _ _ _ _ _ _ (Act.put _ (some 30) _) _
    try simp only [Act.put, List.setIfInBounds_toArray, List.set_cons_zero, List.set_cons_succ]
    refine wpAnyH_take (i := 2) (v := ?vv3) (by rfl) (by kernel_rfl) (by kernel_rfl) (by kernel_rfl) (by intro _ _ _ h; exact h) (Or.inl ⟨by kernel_rfl, ?hy3⟩) (by assumption) ?rest3
    case hy3 =>
      intro w' hSw
      have hSw : Keeps w4 w' := hSw
      clear hSw
      go_simp
      try with_reducible rfl
    change wpAnyH _ _ _ _ _ _ _ (Act.put _ (some 31) _) _
    try simp only [Act.put, List.setIfInBounds_toArray, List.set_cons_zero, List.set_cons_succ]
    refine wpAnyH_take (i := 3) (v := ?vv4) (by rfl) (by kernel_rfl) (by kernel_rfl) (by kernel_rfl) (by intro _ _ _ h; exact h) (Or.inl ⟨by kernel_rfl, ?hy4⟩) (by assumption) ?rest4
    case hy4 =>
      intro w' hSw
      have hSw : Keeps w4 w' := hSw
      clear hSw
      go_simp
      try with_reducible rfl
    change wpAnyH _ _ _ _ _ _ _ (Act.put _ (some 32) _) _
    try simp only [Act.put, List.setIfInBounds_toArray, List.set_cons_zero, List.set_cons_succ]
    refine wpAnyH_take (i := 4) (v := ?vv5) (by rfl) (by kernel_rfl) (by kernel_rfl) (by kernel_rfl) (by intro _ _ _ h; exact h) (Or.inl ⟨by kernel_rfl, ?hy5⟩) (by assumption) ?rest5
    case hy5 =>
      intro w' hSw
      have hSw : Keeps w4 w' := hSw
      clear hSw
      go_simp
      try with_reducible rfl
    change wpAnyH _ _ _ _ _ _ _ (Act.put _ (some 33) _) _
    try simp only [Act.put, List.setIfInBounds_toArray, List.set_cons_zero, List.set_cons_succ]
    refine wpAnyH_take (i := 5) (v := ?vv6) (by rfl) (by kernel_rfl) (by kernel_rfl) (by kernel_rfl) (by intro _ _ _ h; exact h) (Or.inl ⟨by kernel_rfl, ?hy6⟩) (by assumption) ?rest6
    case hy6 =>
      intro w' hSw
      have hSw : Keeps w4 w' := hSw
      clear hSw
      go_simp
      try with_reducible rfl
    change wpAnyH _ _ _ _ _ _ _ (Act.put _ (some 34) _) _
    try simp only [Act.put, List.setIfInBounds_toArray, List.set_cons_zero, List.set_cons_succ]
    refine wpAnyH_take (i := 6) (v := ?vv7) (by rfl) (by kernel_rfl) (by kernel_rfl) (by kernel_rfl) (by intro _ _ _ h; exact h) (Or.inl ⟨by kernel_rfl, ?hy7⟩) (by assumption) ?rest7
    case hy7 =>
      intro w' hSw
      have hSw : Keeps w4 w' := hSw
      clear hSw
      go_simp
      try with_reducible rfl
    change wpAnyH _ _ _ _ _ _ _ (Act.put _ (some 35) _) _
    try simp only [Act.put, List.setIfInBounds_toArray, List.set_cons_zero, List.set_cons_succ]
    refine wpAnyH_take (i := 7) (v := ?vv8) (by rfl) (by kernel_rfl) (by kernel_rfl) (by kernel_rfl) (by intro _ _ _ h; exact h) (Or.inl ⟨by kernel_rfl, ?hy8⟩) (by assumption) ?rest8
    case hy8 =>
      intro w' hSw
      have hSw : Keeps w4 w' := hSw
      clear hSw
      go_simp
      try with_reducible rfl
    change wpAnyH _ _ _ _ _ _ _ (Act.put _ (some 36) _) _
    try simp only [Act.put, List.setIfInBounds_toArray, List.set_cons_zero, List.set_cons_succ]
    refine wpAnyH_take (i := 8) (v := ?vv9) (by rfl) (by kernel_rfl) (by kernel_rfl) (by kernel_rfl) (by intro _ _ _ h; exact h) (Or.inl ⟨by kernel_rfl, ?hy9⟩) (by assumption) ?rest9
    case hy9 =>
      intro w' hSw
      have hSw : Keeps w4 w' := hSw
      have h0 := keep1 hSw c30
      have h1 := keep1 hSw c31
      have h2 := keep1 hSw c32
      have h3 := keep1 hSw c33
      clear hSw
      go_simp
      try with_reducible rfl
    change wpAnyH _ _ _ _ _ _ _ (Act.put _ (some 37) _) _
    try simp only [Act.put, List.setIfInBounds_toArray, List.set_cons_zero, List.set_cons_succ]
    refine wpAnyH_take (i := 9) (v := ?vv10) (by rfl) (by kernel_rfl) (by kernel_rfl) (by kernel_rfl) (by intro _ _ _ h; exact h) (Or.inl ⟨by kernel_rfl, ?hy10⟩) (by assumption) ?rest10
    case hy10 =>
      intro w' hSw
      have hSw : Keeps w4 w' := hSw
      clear hSw
      go_simp
      try with_reducible rfl
    change wpAnyH _ _ _ _ _ _ _ (Act.put _ (some 38) _) _
    try simp only [Act.put, List.setIfInBounds_toArray, List.set_cons_zero, List.set_cons_succ]
    refine wpAnyH_take (i := 10) (v := ?vv11) (by rfl) (by kernel_rfl) (by kernel_rfl) (by kernel_rfl) (by intro _ _ _ h; exact h) (Or.inl ⟨by kernel_rfl, ?hy11⟩) (by assumption) ?rest11
    case hy11 =>
      intro w' hSw
      have hSw : Keeps w4 w' := hSw
      clear hSw
      go_simp
      try with_reducible rfl
    change wpAnyH _ _ _ _ _ _ _ (Act.put _ (some 39) _) _
    try simp only [Act.put, List.setIfInBounds_toArray, List.set_cons_zero, List.set_cons_succ]
    refine wpAnyH_take (i := 11) (v := ?vv12) (by rfl) (by kernel_rfl) (by kernel_rfl) (by kernel_rfl) (by intro _ _ _ h; exact h) (Or.inl ⟨by kernel_rfl, ?hy12⟩) (by assumption) ?rest12
    case hy12 =>
      intro w' hSw
      have hSw : Keeps w4 w' := hSw
      clear hSw
      go_simp
      try with_reducible rfl
    change wpAnyH _ _ _ _ _ _ _ (Act.put _ (some 40) _) _
    try simp only [Act.put, List.setIfInBounds_toArray, List.set_cons_zero, List.set_cons_succ]
    refine wpAnyH_take (i := 12) (v := ?vv13) (by rfl) (by kernel_rfl) (by kernel_rfl) (by kernel_rfl) (by intro _ _ _ h; exact h) (Or.inl ⟨by kernel_rfl, ?hy13⟩) (by assumption) ?rest13
    case hy13 =>
      intro w' hSw
      have hSw : Keeps w4 w' := hSw
      clear hSw
      go_simp
      try with_reducible rfl
    change wpAnyH _ _ _ _ _ _ _ (Act.put _ (some 41) _) _
    try simp only [Act.put, List.setIfInBounds_toArray, List.set_cons_zero, List.set_cons_succ]
    refine wpAnyH_ready (rs := [13]) (by kernel_rfl) (by simp) ?_
    refine AllReadyH.cons (o := _) rfl (fun K hK => ?_) ?_
    · go_simp
      have hb := hHeld.alloc (.cells #[.int .i64 2, .int .i64 1, .int .i64 999, .pointer (some ⟨b, 1, none⟩), .int .i64 4, .int .i64 1, .int .i64 2147483648, .pointer (some ⟨b, 2, none⟩), .int .i64 4, .int .i64 1, .int .i64 2147483649, .pointer (some ⟨b, 3, none⟩), .int .i64 4, .int .i64 0, .int .i64 2147483648, .pointer (some ⟨b, 4, none⟩)] 247)
      have PR := Lib.hid (parts_ret (b := b) (k := 1) (w := w) (cs := #[.int .i64 2, .int .i64 1, .int .i64 999, .pointer (some ⟨b, 1, none⟩), .int .i64 4, .int .i64 1, .int .i64 2147483648, .pointer (some ⟨b, 2, none⟩), .int .i64 4, .int .i64 1, .int .i64 2147483649, .pointer (some ⟨b, 3, none⟩), .int .i64 4, .int .i64 0, .int .i64 2147483648, .pointer (some ⟨b, 4, none⟩)]) (l := [⟨2, 1, 999, 1⟩, ⟨4, 1, 2147483648, 2⟩, ⟨4, 1, 2147483649, 3⟩, ⟨4, 0, 2147483648, 4⟩]) (n := 4) rfl (by decide) rfl rfl rfl (HKw.out.trans hHeld))
      generalize World.alloc xs (.cells #[.int .i64 2, .int .i64 1, .int .i64 999, .pointer (some ⟨b, 1, none⟩), .int .i64 4, .int .i64 1, .int .i64 2147483648, .pointer (some ⟨b, 2, none⟩), .int .i64 4, .int .i64 1, .int .i64 2147483649, .pointer (some ⟨b, 3, none⟩), .int .i64 4, .int .i64 0, .int .i64 2147483648, .pointer (some ⟨b, 4, none⟩)] 247) = xb at *
      refine hK.out _ _ hb (fun _ => ?_)
      clear hK K hHeld
      have hHeld : Keeps w4 xb := hb
      clear hb
      try simp only [Act.put, List.setIfInBounds_toArray, List.set_cons_zero, List.set_cons_succ]
      refine wpAnyH_take (i := 14) (v := ?vv14) (by rfl) (by kernel_rfl) (by kernel_rfl) (by kernel_rfl) (by intro _ _ _ h; exact h) (Or.inl ⟨by kernel_rfl, ?hy14⟩) (by assumption) ?rest14
      case hy14 =>
        intro w' hSw
        have hSw : Keeps w4 w' := hSw
        clear hSw
        go_simp
        try with_reducible rfl
      change wpAnyH _ _ _ _ _ _ _ (Act.put _ (some 2) _) _
      try simp only [Act.put, List.setIfInBounds_toArray, List.set_cons_zero, List.set_cons_succ]
      refine wpAnyH_done (by kernel_rfl) ?_ _
      refine NoPanic.normal ?_
      go_wp2_with fail
      go_ret
      exact PR.out
    exact AllReadyH.nil
  by_cases k2 : k = 2
  · subst k2
    go_upto_region 9 with fail
    refine wp_region_noPanic ?_
    refine wp_region_held_drew (S := fun w' => Keeps w4 w') (by kernel_rfl) ((Keeps.refl w4).drew) (fun _ => ?_)
    have hHeld : Keeps w4 (w4).drew := (Keeps.refl w4).drew
    generalize World.drew w4 = xs at *
    refine wpAnyH_take (i := 0) (v := ?vv15) (by rfl) (by kernel_rfl) (by kernel_rfl) (by kernel_rfl) (by intro _ _ _ h; exact h) (Or.inl ⟨by kernel_rfl, ?hy15⟩) (by assumption) ?rest15
    case hy15 =>
      intro w' hSw
      have hSw : Keeps w4 w' := hSw
      have h0 := keep1 hSw c00
      have h1 := keep1 hSw c01
      have h2 := keep1 hSw c02
      have h3 := keep1 hSw c03
      clear hSw
      go_simp
      try with_reducible rfl
    change wpAnyH _ _ _ _ _ _ _ (Act.put _ (some 45) _) _
    try simp only [Act.put, List.setIfInBounds_toArray, List.set_cons_zero, List.set_cons_succ]
    refine wpAnyH_take (i := 1) (v := ?vv16) (by rfl) (by kernel_rfl) (by kernel_rfl) (by kernel_rfl) (by intro _ _ _ h; exact h) (Or.inl ⟨by kernel_rfl, ?hy16⟩) (by assumption) ?rest16
    case hy16 =>
      intro w' hSw
      have hSw : Keeps w4 w' := hSw
      clear hSw
      go_simp
      try with_reducible rfl
    change wpAnyH _ _ _ _ _ _ _ (Act.put _ (some 46) _) _
    try simp only [Act.put, List.setIfInBounds_toArray, List.set_cons_zero, List.set_cons_succ]
    refine wpAnyH_take (i := 2) (v := ?vv17) (by rfl) (by kernel_rfl) (by kernel_rfl) (by kernel_rfl) (by intro _ _ _ h; exact h) (Or.inl ⟨by kernel_rfl, ?hy17⟩) (by assumption) ?rest17
    case hy17 =>
      intro w' hSw
      have hSw : Keeps w4 w' := hSw
      clear hSw
      go_simp
      try with_reducible rfl
    change wpAnyH _ _ _ _ _ _ _ (Act.put _ (some 47) _) _
    try simp only [Act.put, List.setIfInBounds_toArray, List.set_cons_zero, List.set_cons_succ]
    refine wpAnyH_take (i := 3) (v := ?vv18) (by rfl) (by kernel_rfl) (by kernel_rfl) (by kernel_rfl) (by intro _ _ _ h; exact h) (Or.inl ⟨by kernel_rfl, ?hy18⟩) (by assumption) ?rest18
    case hy18 =>
      intro w' hSw
      have hSw : Keeps w4 w' := hSw
      clear hSw
      go_simp
      try with_reducible rfl
    change wpAnyH _ _ _ _ _ _ _ (Act.put _ (some 48) _) _
    try simp only [Act.put, List.setIfInBounds_toArray, List.set_cons_zero, List.set_cons_succ]
    refine wpAnyH_take (i := 4) (v := ?vv19) (by rfl) (by kernel_rfl) (by kernel_rfl) (by kernel_rfl) (by intro _ _ _ h; exact h) (Or.inl ⟨by kernel_rfl, ?hy19⟩) (by assumption) ?rest19
    case hy19 =>
      intro w' hSw
      have hSw : Keeps w4 w' := hSw
      clear hSw
      go_simp
      try with_reducible rfl
    change wpAnyH _ _ _ _ _ _ _ (Act.put _ (some 49) _) _
    try simp only [Act.put, List.setIfInBounds_toArray, List.set_cons_zero, List.set_cons_succ]
    refine wpAnyH_take (i := 5) (v := ?vv20) (by rfl) (by kernel_rfl) (by kernel_rfl) (by kernel_rfl) (by intro _ _ _ h; exact h) (Or.inl ⟨by kernel_rfl, ?hy20⟩) (by assumption) ?rest20
    case hy20 =>
      intro w' hSw
      have hSw : Keeps w4 w' := hSw
      have h0 := keep1 hSw c10
      have h1 := keep1 hSw c11
      have h2 := keep1 hSw c12
      have h3 := keep1 hSw c13
      clear hSw
      go_simp
      try with_reducible rfl
    change wpAnyH _ _ _ _ _ _ _ (Act.put _ (some 50) _) _
    try simp only [Act.put, List.setIfInBounds_toArray, List.set_cons_zero, List.set_cons_succ]
    refine wpAnyH_take (i := 6) (v := ?vv21) (by rfl) (by kernel_rfl) (by kernel_rfl) (by kernel_rfl) (by intro _ _ _ h; exact h) (Or.inl ⟨by kernel_rfl, ?hy21⟩) (by assumption) ?rest21
    case hy21 =>
      intro w' hSw
      have hSw : Keeps w4 w' := hSw
      have h0 := keep1 hSw c20
      have h1 := keep1 hSw c21
      have h2 := keep1 hSw c22
      have h3 := keep1 hSw c23
      clear hSw
      go_simp
      try with_reducible rfl
    change wpAnyH _ _ _ _ _ _ _ (Act.put _ (some 51) _) _
    try simp only [Act.put, List.setIfInBounds_toArray, List.set_cons_zero, List.set_cons_succ]
    refine wpAnyH_take (i := 7) (v := ?vv22) (by rfl) (by kernel_rfl) (by kernel_rfl) (by kernel_rfl) (by intro _ _ _ h; exact h) (Or.inl ⟨by kernel_rfl, ?hy22⟩) (by assumption) ?rest22
    case hy22 =>
      intro w' hSw
      have hSw : Keeps w4 w' := hSw
      clear hSw
      go_simp
      try with_reducible rfl
    change wpAnyH _ _ _ _ _ _ _ (Act.put _ (some 52) _) _
    try simp only [Act.put, List.setIfInBounds_toArray, List.set_cons_zero, List.set_cons_succ]
    refine wpAnyH_take (i := 8) (v := ?vv23) (by rfl) (by kernel_rfl) (by kernel_rfl) (by kernel_rfl) (by intro _ _ _ h; exact h) (Or.inl ⟨by kernel_rfl, ?hy23⟩) (by assumption) ?rest23
    case hy23 =>
      intro w' hSw
      have hSw : Keeps w4 w' := hSw
      clear hSw
      go_simp
      try with_reducible rfl
    change wpAnyH _ _ _ _ _ _ _ (Act.put _ (some 53) _) _
    try simp only [Act.put, List.setIfInBounds_toArray, List.set_cons_zero, List.set_cons_succ]
    refine wpAnyH_take (i := 9) (v := ?vv24) (by rfl) (by kernel_rfl) (by kernel_rfl) (by kernel_rfl) (by intro _ _ _ h; exact h) (Or.inl ⟨by kernel_rfl, ?hy24⟩) (by assumption) ?rest24
    case hy24 =>
      intro w' hSw
      have hSw : Keeps w4 w' := hSw
      clear hSw
      go_simp
      try with_reducible rfl
    change wpAnyH _ _ _ _ _ _ _ (Act.put _ (some 54) _) _
    try simp only [Act.put, List.setIfInBounds_toArray, List.set_cons_zero, List.set_cons_succ]
    refine wpAnyH_take (i := 10) (v := ?vv25) (by rfl) (by kernel_rfl) (by kernel_rfl) (by kernel_rfl) (by intro _ _ _ h; exact h) (Or.inl ⟨by kernel_rfl, ?hy25⟩) (by assumption) ?rest25
    case hy25 =>
      intro w' hSw
      have hSw : Keeps w4 w' := hSw
      clear hSw
      go_simp
      try with_reducible rfl
    change wpAnyH _ _ _ _ _ _ _ (Act.put _ (some 55) _) _
    try simp only [Act.put, List.setIfInBounds_toArray, List.set_cons_zero, List.set_cons_succ]
    refine wpAnyH_take (i := 11) (v := ?vv26) (by rfl) (by kernel_rfl) (by kernel_rfl) (by kernel_rfl) (by intro _ _ _ h; exact h) (Or.inl ⟨by kernel_rfl, ?hy26⟩) (by assumption) ?rest26
    case hy26 =>
      intro w' hSw
      have hSw : Keeps w4 w' := hSw
      clear hSw
      go_simp
      try with_reducible rfl
    change wpAnyH _ _ _ _ _ _ _ (Act.put _ (some 56) _) _
    try simp only [Act.put, List.setIfInBounds_toArray, List.set_cons_zero, List.set_cons_succ]
    refine wpAnyH_take (i := 12) (v := ?vv27) (by rfl) (by kernel_rfl) (by kernel_rfl) (by kernel_rfl) (by intro _ _ _ h; exact h) (Or.inl ⟨by kernel_rfl, ?hy27⟩) (by assumption) ?rest27
    case hy27 =>
      intro w' hSw
      have hSw : Keeps w4 w' := hSw
      clear hSw
      go_simp
      try with_reducible rfl
    change wpAnyH _ _ _ _ _ _ _ (Act.put _ (some 57) _) _
    try simp only [Act.put, List.setIfInBounds_toArray, List.set_cons_zero, List.set_cons_succ]
    refine wpAnyH_take (i := 13) (v := ?vv28) (by rfl) (by kernel_rfl) (by kernel_rfl) (by kernel_rfl) (by intro _ _ _ h; exact h) (Or.inl ⟨by kernel_rfl, ?hy28⟩) (by assumption) ?rest28
    case hy28 =>
      intro w' hSw
      have hSw : Keeps w4 w' := hSw
      clear hSw
      go_simp
      try with_reducible rfl
    change wpAnyH _ _ _ _ _ _ _ (Act.put _ (some 58) _) _
    try simp only [Act.put, List.setIfInBounds_toArray, List.set_cons_zero, List.set_cons_succ]
    refine wpAnyH_take (i := 14) (v := ?vv29) (by rfl) (by kernel_rfl) (by kernel_rfl) (by kernel_rfl) (by intro _ _ _ h; exact h) (Or.inl ⟨by kernel_rfl, ?hy29⟩) (by assumption) ?rest29
    case hy29 =>
      intro w' hSw
      have hSw : Keeps w4 w' := hSw
      clear hSw
      go_simp
      try with_reducible rfl
    change wpAnyH _ _ _ _ _ _ _ (Act.put _ (some 59) _) _
    try simp only [Act.put, List.setIfInBounds_toArray, List.set_cons_zero, List.set_cons_succ]
    refine wpAnyH_ready (rs := [15]) (by kernel_rfl) (by simp) ?_
    refine AllReadyH.cons (o := _) rfl (fun K hK => ?_) ?_
    · go_simp
      have hb := hHeld.alloc (.cells #[.int .i64 4, .int .i64 1, .int .i64 2147483648, .pointer (some ⟨b, 5, none⟩), .int .i64 8, .int .i64 0, .int .i64 4503599627370496, .pointer (some ⟨b, 6, none⟩), .int .i64 1, .int .i64 0, .int .i64 31, .pointer (some ⟨b, 7, none⟩), .int .i64 4, .int .i64 1, .int .i64 2147483648, .pointer (some ⟨b, 8, none⟩), .int .i64 4, .int .i64 0, .int .i64 32768, .pointer (some ⟨b, 9, none⟩), .int .i64 8, .int .i64 0, .int .i64 9007199254740992, .pointer (some ⟨b, 10, none⟩)] 247)
      have PR := Lib.hid (parts_ret (b := b) (k := 2) (w := w) (cs := #[.int .i64 4, .int .i64 1, .int .i64 2147483648, .pointer (some ⟨b, 5, none⟩), .int .i64 8, .int .i64 0, .int .i64 4503599627370496, .pointer (some ⟨b, 6, none⟩), .int .i64 1, .int .i64 0, .int .i64 31, .pointer (some ⟨b, 7, none⟩), .int .i64 4, .int .i64 1, .int .i64 2147483648, .pointer (some ⟨b, 8, none⟩), .int .i64 4, .int .i64 0, .int .i64 32768, .pointer (some ⟨b, 9, none⟩), .int .i64 8, .int .i64 0, .int .i64 9007199254740992, .pointer (some ⟨b, 10, none⟩)]) (l := [⟨4, 1, 2147483648, 5⟩, ⟨8, 0, 4503599627370496, 6⟩, ⟨1, 0, 31, 7⟩, ⟨4, 1, 2147483648, 8⟩, ⟨4, 0, 32768, 9⟩, ⟨8, 0, 9007199254740992, 10⟩]) (n := 6) rfl (by decide) rfl rfl rfl (HKw.out.trans hHeld))
      generalize World.alloc xs (.cells #[.int .i64 4, .int .i64 1, .int .i64 2147483648, .pointer (some ⟨b, 5, none⟩), .int .i64 8, .int .i64 0, .int .i64 4503599627370496, .pointer (some ⟨b, 6, none⟩), .int .i64 1, .int .i64 0, .int .i64 31, .pointer (some ⟨b, 7, none⟩), .int .i64 4, .int .i64 1, .int .i64 2147483648, .pointer (some ⟨b, 8, none⟩), .int .i64 4, .int .i64 0, .int .i64 32768, .pointer (some ⟨b, 9, none⟩), .int .i64 8, .int .i64 0, .int .i64 9007199254740992, .pointer (some ⟨b, 10, none⟩)] 247) = xb at *
      refine hK.out _ _ hb (fun _ => ?_)
      clear hK K hHeld
      have hHeld : Keeps w4 xb := hb
      clear hb
      try simp only [Act.put, List.setIfInBounds_toArray, List.set_cons_zero, List.set_cons_succ]
      refine wpAnyH_take (i := 16) (v := ?vv30) (by rfl) (by kernel_rfl) (by kernel_rfl) (by kernel_rfl) (by intro _ _ _ h; exact h) (Or.inl ⟨by kernel_rfl, ?hy30⟩) (by assumption) ?rest30
      case hy30 =>
        intro w' hSw
        have hSw : Keeps w4 w' := hSw
        clear hSw
        go_simp
        try with_reducible rfl
      change wpAnyH _ _ _ _ _ _ _ (Act.put _ (some 2) _) _
      try simp only [Act.put, List.setIfInBounds_toArray, List.set_cons_zero, List.set_cons_succ]
      refine wpAnyH_done (by kernel_rfl) ?_ _
      refine NoPanic.normal ?_
      go_wp2_with fail
      go_ret
      exact PR.out
    exact AllReadyH.nil
  by_cases k3 : k = 3
  · subst k3
    go_wp2_with fail
    go_ret
    exact parts_ret (l := [pUid]) rfl (by decide) rfl rfl rfl hK
  by_cases k4 : k = 4
  · subst k4
    go_wp2_with fail
    go_ret
    exact parts_ret (l := [pUid, pFlags]) rfl (by decide) rfl rfl rfl hK
  by_cases k5 : k = 5
  · subst k5
    go_wp2_with fail
    go_ret
    exact parts_ret (l := [pNext]) rfl (by decide) rfl rfl rfl hK
  by_cases k6 : k = 6
  · subst k6
    go_wp2_with fail
    go_ret
    exact parts_ret (l := [pBody]) rfl (by decide) rfl rfl rfl hK
  have hn : partsL k = [] := by unfold partsL; rw [if_neg k1, if_neg k2, if_neg k3, if_neg k4, if_neg k5, if_neg k6]
  go_wp2_with fail
  go_ret
  exact ⟨_, rfl, fun _ => rfl, fun h => absurd hn h, hK⟩
end Rcd
end Go.Proofs.Ytohchhgheeolpaa

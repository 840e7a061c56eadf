/- law04's do, but for Boot. -/
import Derived.Test.YtchjncnolmiejaaK38
import Derived.Test.YtchjncnolmiejaaK40
namespace Go.Proofs.Ytchjncnolmiejaa
open Go.RowKit
namespace Rf
open Vd
open Go.Maps
def actD (d : Dsk) (x : Vd.Act) : Dsk :=
  if x.kind = 0 then (createD d x.a).1 else if x.kind = 1 then (appendD d x.a x.b).1 else if x.kind = 2 then (pwriteD d x.a x.n x.b).1
  else if x.kind = 3 then (syncD d x.a).1 else if x.kind = 4 then (renameD d x.a x.b).1 else if x.kind = 5 then (unlinkD d x.a).1
  else if x.kind = 6 then (syncDirD d).1 else if x.kind = 7 then { d with fail := failT x.n x.code } else if x.kind = 8 then { d with crash := setT x.n 11 } else d
def TwoDo (W : World) (g : Nat) (d : Dsk) (m k : Nat) (e : Ending) (w' : World) : Prop := ∃ b r, e = .returned (.bool b) ∧ TwoAt [] W w' g d m r k
theorem armR_in {n e : Int} (h : -9223372036854775808 ≤ n ∧ n ≤ 9223372036854775807) : -1 ≤ armR n e ∧ armR n e ≤ 9223372036854775807 := by
  unfold armR
  split <;> omega
theorem failingR_in {n e : Int} (h : -9223372036854775808 ≤ n ∧ n ≤ 9223372036854775807) : -1 ≤ failingR n e ∧ failingR n e ≤ 9223372036854775807 := by
  unfold failingR
  split
  · omega
  · exact armR_in h
theorem bstr_data (l : List UInt8) : (bstr l).data.toList = l := by simp [bstr]
theorem wf_in {n : Int} (h : (Lit.int .i64 n).wf = true) : -9223372036854775808 ≤ n ∧ n ≤ 9223372036854775807 := by simpa [Lit.wf, IntKind.min, IntKind.max, IntKind.signed, IntKind.bits] using h
theorem str_bytes_lt {P : Program} (w : World) {t e u : TypeId} (ht : P.underlying t = some (.slice e)) (he : P.underlying e = some (.int .u8)) (hu : P.underlying u = some .string) (s : ByteArray) (hs : s.size ≤ maxLen) :
    ∃ c w', (convert u t (.string s)).run P w = .ok (.slice (some ⟨w.heap.size, 0, none⟩) s.size c) w' ∧ Row w' (.slice (some ⟨w.heap.size, 0, none⟩) s.size c) (s.data.toList.map u8v) ∧ Keeps w w' ∧ w.heap.size < w'.heap.size := by
  obtain ⟨c, w', h1, h2, h3⟩ := str_bytes w ht he hu s hs
  refine ⟨c, w', h1, h2, h3, ?_⟩
  have h4 := Lib.run_convert_string_bytes w u t e s hu ht he
  rw [h1] at h4
  simp only [Result.ok.injEq] at h4
  rw [h4.2, Lib.bytesWorld_size]
  omega
theorem TwoAt.traps {L : List Nat} {W w : World} {g m : Nat} {d : Dsk} {r : RDsk} {k : Nat} (h : TwoAt L W w g d m r k) : (-1 ≤ r.fail ∧ r.fail ≤ 9223372036854775807) ∧ (-1 ≤ r.crash ∧ r.crash ≤ 9223372036854775807) := by
  obtain ⟨S, M, h⟩ := h
  obtain ⟨fv, nv, sv, wv, fw, hh⟩ := h.ref
  exact ⟨hh.fit.t1, hh.fit.t2⟩
section
variable {W w : World} {g m : Nat} {d : Dsk} {r : RDsk} {k : Nat}
set_option maxRecDepth 100000 in
set_option maxHeartbeats 4000000 in
theorem do0_any (h : TwoAt [] W w g d m r k) (hk : k ≤ 80000) (xk : Int) (hkind : xk = 0) (xa xb : Str) (xn xc : Int) (pk : Option Addr) (nk ck : Nat) (hxa : xa.length ≤ 1000) (hxb : xb.length ≤ 1000) (hxn : (Lit.int .i64 xn).wf = true) : Calls Try.prog 19 #[.pointer (some ⟨g, 0, none⟩), .pointer (some ⟨m, 0, none⟩), .agg #[.int .i64 xk, .string (bstr xa), .string (bstr xb), .int .i64 xn, .int .i64 xc, .slice pk nk ck]] w (TwoDo W g ((createD d xa).1) m (k + 6)) := by
  have H := Lib.hid h
  have HWN := Lib.hid hxn
  have hni := wf_in hxn
  have hza := bstr_size xa
  have hzb := bstr_size xb
  have hml : (1000 : Nat) ≤ maxLen := by decide
  clear h hxn
  subst hkind
  go_enter Try.func19, Try.ntmps19
  go_upto_region 3 with fail
  generalize hW : World.alloc w _ = w1
  have HK1 := Lib.hid (show Keeps w w1 from by rw [← hW]; exact (Keeps.refl _).alloc _)
  have HQ1 := Lib.hid (show Blk w1 w.heap.size 36 #[.int .i64 0, .string (bstr xa), .string (bstr xb), .int .i64 xn, .int .i64 xc, .slice pk nk ck] from by rw [← hW]; exact Blk.new _ _ _ rfl)
  clear hW
  have HT1 := Lib.hid (H.out.aside HK1.out (Nat.le_refl _) HQ1.out.lt)
  obtain ⟨q, hq⟩ : ∃ q, q = w.heap.size := ⟨_, rfl⟩
  rw [← hq] at HQ1 HT1 ⊢
  clear hq
  have HT := Lib.hid (HT1.out.keeps (Keeps.refl w1).drew)
  refine wp_region_noPanic ?_
  refine wp_region_held_drew (S := fun w' => Mods (fun y => y ≠ q) w1 w') (by kernel_rfl) ((Mods.refl (fun y => y ≠ q) w1).drew) (fun _ => ?_)
  have hHeld : Mods (fun y => y ≠ q) w1 (w1).drew := (Mods.refl (fun y => y ≠ q) w1).drew
  generalize World.drew w1 = xs at *
  refine wpAnyH_take (i := 0) (v := ?vv1) (by rfl) (by kernel_rfl) (by kernel_rfl) (by kernel_rfl) (by intro _ _ _ h; exact h) (Or.inl ⟨by kernel_rfl, ?hy1⟩) (by assumption) ?rest1
  case hy1 =>
    intro w' hSw
    have hSw : Mods (fun y => y ≠ q) w1 w' := hSw
    clear hSw
    go_simp
    try with_reducible rfl
  change wpAnyH _ _ _ _ _ _ _ (Act.put _ (some 11) _) _
  try simp only [Act.put, List.setIfInBounds_toArray, List.set_cons_zero, List.set_cons_succ]
  refine wpAnyH_take (i := 1) (v := ?vv2) (by rfl) (by kernel_rfl) (by kernel_rfl) (by kernel_rfl) (by intro _ _ _ h; exact h) (Or.inl ⟨by kernel_rfl, ?hy2⟩) (by assumption) ?rest2
  case hy2 =>
    intro w' hSw
    have hSw : Mods (fun y => y ≠ q) w1 w' := hSw
    clear hSw
    go_simp
    try with_reducible rfl
  change wpAnyH _ _ _ _ _ _ _ (Act.put _ (some 12) _) _
  try simp only [Act.put, List.setIfInBounds_toArray, List.set_cons_zero, List.set_cons_succ]
  refine wpAnyH_take (i := 2) (v := ?vv3) (by rfl) (by kernel_rfl) (by kernel_rfl) (by kernel_rfl) (by intro _ _ _ h; exact h) (Or.inl ⟨by kernel_rfl, ?hy3⟩) (by assumption) ?rest3
  case hy3 =>
    intro w' hSw
    have hSw : Mods (fun y => y ≠ q) w1 w' := hSw
    have hBq := HQ1.out.mods hSw (fun e => e rfl)
    have hx1 : World.cell? w' ⟨q, 1, none⟩ = some (.string (bstr xa)) := by rw [hBq.cell]; rfl
    clear hSw
    go_simp
    try with_reducible rfl
  change wpAnyH _ _ _ _ _ _ _ (Act.put _ (some 13) _) _
  try simp only [Act.put, List.setIfInBounds_toArray, List.set_cons_zero, List.set_cons_succ]
  refine wpAnyH_take (i := 4) (v := ?vv4) (by rfl) (by kernel_rfl) (by kernel_rfl) (by kernel_rfl) (by intro _ _ _ h; exact h) (Or.inl ⟨by kernel_rfl, ?hy4⟩) (by assumption) ?rest4
  case hy4 =>
    intro w' hSw
    have hSw : Mods (fun y => y ≠ q) w1 w' := hSw
    clear hSw
    go_simp
    try with_reducible rfl
  change wpAnyH _ _ _ _ _ _ _ (Act.put _ (some 15) _) _
  try simp only [Act.put, List.setIfInBounds_toArray, List.set_cons_zero, List.set_cons_succ]
  refine wpAnyH_take (i := 5) (v := ?vv5) (by rfl) (by kernel_rfl) (by kernel_rfl) (by kernel_rfl) (by intro _ _ _ h; exact h) (Or.inl ⟨by kernel_rfl, ?hy5⟩) (by assumption) ?rest5
  case hy5 =>
    intro w' hSw
    have hSw : Mods (fun y => y ≠ q) w1 w' := hSw
    clear hSw
    go_simp
    try with_reducible rfl
  change wpAnyH _ _ _ _ _ _ _ (Act.put _ (some 16) _) _
  try simp only [Act.put, List.setIfInBounds_toArray, List.set_cons_zero, List.set_cons_succ]
  refine wpAnyH_take (i := 6) (v := ?vv6) (by rfl) (by kernel_rfl) (by kernel_rfl) (by kernel_rfl) (by intro _ _ _ h; exact h) (Or.inl ⟨by kernel_rfl, ?hy6⟩) (by assumption) ?rest6
  case hy6 =>
    intro w' hSw
    have hSw : Mods (fun y => y ≠ q) w1 w' := hSw
    have hBq := HQ1.out.mods hSw (fun e => e rfl)
    have hx1 : World.cell? w' ⟨q, 1, none⟩ = some (.string (bstr xa)) := by rw [hBq.cell]; rfl
    clear hSw
    go_simp
    try with_reducible rfl
  change wpAnyH _ _ _ _ _ _ _ (Act.put _ (some 17) _) _
  try simp only [Act.put, List.setIfInBounds_toArray, List.set_cons_zero, List.set_cons_succ]
  refine wpAnyH_ready (rs := [3]) (by kernel_rfl) (by simp) ?_
  refine AllReadyH.cons (o := _) rfl (fun K hK => ?_) ?_
  · go_simp
    refine (create_two HT.out (by omega) xa (by omega)).mono ?_
    rintro e y1 ⟨rfl, h2, hm2⟩
    have HT := Lib.hid h2
    have hb := hHeld.trans hm2 (fun y hy _ e => hy.2 (by rw [e]; simp))
    clear h2 hm2
    go_wp2_with fail
    refine hK.out _ _ hb (fun _ => ?_)
    clear hK K hHeld
    have hHeld : Mods (fun y => y ≠ q) w1 y1 := hb
    clear hb
    try simp only [Act.put, List.setIfInBounds_toArray, List.set_cons_zero, List.set_cons_succ]
    refine wpAnyH_ready (rs := [7]) (by kernel_rfl) (by simp) ?_
    refine AllReadyH.cons (o := _) rfl (fun K hK => ?_) ?_
    · go_simp
      refine (rcreate_two HT.out (by omega) xa (by omega)).mono ?_
      rintro e y2 ⟨rfl, h2, hm2⟩
      have HT := Lib.hid h2
      have hb := hHeld.trans hm2 (fun y hy _ e => hy.2 (by rw [e]; simp))
      clear h2 hm2
      go_wp2_with fail
      refine hK.out _ _ hb (fun _ => ?_)
      clear hK K hHeld
      have hHeld : Mods (fun y => y ≠ q) w1 y2 := hb
      clear hb
      try simp only [Act.put, List.setIfInBounds_toArray, List.set_cons_zero, List.set_cons_succ]
      refine wpAnyH_take (i := 8) (v := ?vv7) (by rfl) (by kernel_rfl) (by kernel_rfl) (by kernel_rfl) (by intro _ _ _ h; exact h) (Or.inl ⟨by kernel_rfl, ?hy7⟩) (by assumption) ?rest7
      case hy7 =>
        intro w' hSw
        have hSw : Mods (fun y => y ≠ q) w1 w' := hSw
        clear hSw
        go_simp
        try with_reducible rfl
      change wpAnyH _ _ _ _ _ _ _ (Act.put _ (some 19) _) _
      try simp only [Act.put, List.setIfInBounds_toArray, List.set_cons_zero, List.set_cons_succ]
      refine wpAnyH_take (i := 9) (v := ?vv8) (by rfl) (by kernel_rfl) (by kernel_rfl) (by kernel_rfl) (by intro _ _ _ h; exact h) (Or.inl ⟨by kernel_rfl, ?hy8⟩) (by assumption) ?rest8
      case hy8 =>
        intro w' hSw
        have hSw : Mods (fun y => y ≠ q) w1 w' := hSw
        clear hSw
        go_simp
        try with_reducible rfl
      change wpAnyH _ _ _ _ _ _ _ (Act.put _ (some 6) _) _
      try simp only [Act.put, List.setIfInBounds_toArray, List.set_cons_zero, List.set_cons_succ]
      refine wpAnyH_done (by kernel_rfl) ?_ _
      refine NoPanic.normal ?_
      go_wp2_with fail
      go_ret
      exact ⟨_, _, rfl, (HT.out.drop (fun y hy => absurd hy (List.not_mem_nil))).more (by omega)⟩
    exact AllReadyH.nil
  exact AllReadyH.nil
set_option maxRecDepth 100000 in
set_option maxHeartbeats 4000000 in
theorem do3_any (h : TwoAt [] W w g d m r k) (hk : k ≤ 80000) (xk : Int) (hkind : xk = 3) (xa xb : Str) (xn xc : Int) (pk : Option Addr) (nk ck : Nat) (hxa : xa.length ≤ 1000) (hxb : xb.length ≤ 1000) (hxn : (Lit.int .i64 xn).wf = true) : Calls Try.prog 19 #[.pointer (some ⟨g, 0, none⟩), .pointer (some ⟨m, 0, none⟩), .agg #[.int .i64 xk, .string (bstr xa), .string (bstr xb), .int .i64 xn, .int .i64 xc, .slice pk nk ck]] w (TwoDo W g ((syncD d xa).1) m (k + 6)) := by
  have H := Lib.hid h
  have HWN := Lib.hid hxn
  have hni := wf_in hxn
  have hza := bstr_size xa
  have hzb := bstr_size xb
  have hml : (1000 : Nat) ≤ maxLen := by decide
  clear h hxn
  subst hkind
  go_enter Try.func19, Try.ntmps19
  go_upto_region 9 with fail
  generalize hW : World.alloc w _ = w1
  have HK1 := Lib.hid (show Keeps w w1 from by rw [← hW]; exact (Keeps.refl _).alloc _)
  have HQ1 := Lib.hid (show Blk w1 w.heap.size 36 #[.int .i64 3, .string (bstr xa), .string (bstr xb), .int .i64 xn, .int .i64 xc, .slice pk nk ck] from by rw [← hW]; exact Blk.new _ _ _ rfl)
  clear hW
  have HT1 := Lib.hid (H.out.aside HK1.out (Nat.le_refl _) HQ1.out.lt)
  obtain ⟨q, hq⟩ : ∃ q, q = w.heap.size := ⟨_, rfl⟩
  rw [← hq] at HQ1 HT1 ⊢
  clear hq
  have HT := Lib.hid (HT1.out.keeps (Keeps.refl w1).drew)
  refine wp_region_noPanic ?_
  refine wp_region_held_drew (S := fun w' => Mods (fun y => y ≠ q) w1 w') (by kernel_rfl) ((Mods.refl (fun y => y ≠ q) w1).drew) (fun _ => ?_)
  have hHeld : Mods (fun y => y ≠ q) w1 (w1).drew := (Mods.refl (fun y => y ≠ q) w1).drew
  generalize World.drew w1 = xs at *
  refine wpAnyH_take (i := 0) (v := ?vv9) (by rfl) (by kernel_rfl) (by kernel_rfl) (by kernel_rfl) (by intro _ _ _ h; exact h) (Or.inl ⟨by kernel_rfl, ?hy9⟩) (by assumption) ?rest9
  case hy9 =>
    intro w' hSw
    have hSw : Mods (fun y => y ≠ q) w1 w' := hSw
    clear hSw
    go_simp
    try with_reducible rfl
  change wpAnyH _ _ _ _ _ _ _ (Act.put _ (some 60) _) _
  try simp only [Act.put, List.setIfInBounds_toArray, List.set_cons_zero, List.set_cons_succ]
  refine wpAnyH_take (i := 1) (v := ?vv10) (by rfl) (by kernel_rfl) (by kernel_rfl) (by kernel_rfl) (by intro _ _ _ h; exact h) (Or.inl ⟨by kernel_rfl, ?hy10⟩) (by assumption) ?rest10
  case hy10 =>
    intro w' hSw
    have hSw : Mods (fun y => y ≠ q) w1 w' := hSw
    clear hSw
    go_simp
    try with_reducible rfl
  change wpAnyH _ _ _ _ _ _ _ (Act.put _ (some 61) _) _
  try simp only [Act.put, List.setIfInBounds_toArray, List.set_cons_zero, List.set_cons_succ]
  refine wpAnyH_take (i := 2) (v := ?vv11) (by rfl) (by kernel_rfl) (by kernel_rfl) (by kernel_rfl) (by intro _ _ _ h; exact h) (Or.inl ⟨by kernel_rfl, ?hy11⟩) (by assumption) ?rest11
  case hy11 =>
    intro w' hSw
    have hSw : Mods (fun y => y ≠ q) w1 w' := hSw
    have hBq := HQ1.out.mods hSw (fun e => e rfl)
    have hx1 : World.cell? w' ⟨q, 1, none⟩ = some (.string (bstr xa)) := by rw [hBq.cell]; rfl
    clear hSw
    go_simp
    try with_reducible rfl
  change wpAnyH _ _ _ _ _ _ _ (Act.put _ (some 62) _) _
  try simp only [Act.put, List.setIfInBounds_toArray, List.set_cons_zero, List.set_cons_succ]
  refine wpAnyH_take (i := 4) (v := ?vv12) (by rfl) (by kernel_rfl) (by kernel_rfl) (by kernel_rfl) (by intro _ _ _ h; exact h) (Or.inl ⟨by kernel_rfl, ?hy12⟩) (by assumption) ?rest12
  case hy12 =>
    intro w' hSw
    have hSw : Mods (fun y => y ≠ q) w1 w' := hSw
    clear hSw
    go_simp
    try with_reducible rfl
  change wpAnyH _ _ _ _ _ _ _ (Act.put _ (some 64) _) _
  try simp only [Act.put, List.setIfInBounds_toArray, List.set_cons_zero, List.set_cons_succ]
  refine wpAnyH_take (i := 5) (v := ?vv13) (by rfl) (by kernel_rfl) (by kernel_rfl) (by kernel_rfl) (by intro _ _ _ h; exact h) (Or.inl ⟨by kernel_rfl, ?hy13⟩) (by assumption) ?rest13
  case hy13 =>
    intro w' hSw
    have hSw : Mods (fun y => y ≠ q) w1 w' := hSw
    clear hSw
    go_simp
    try with_reducible rfl
  change wpAnyH _ _ _ _ _ _ _ (Act.put _ (some 65) _) _
  try simp only [Act.put, List.setIfInBounds_toArray, List.set_cons_zero, List.set_cons_succ]
  refine wpAnyH_take (i := 6) (v := ?vv14) (by rfl) (by kernel_rfl) (by kernel_rfl) (by kernel_rfl) (by intro _ _ _ h; exact h) (Or.inl ⟨by kernel_rfl, ?hy14⟩) (by assumption) ?rest14
  case hy14 =>
    intro w' hSw
    have hSw : Mods (fun y => y ≠ q) w1 w' := hSw
    have hBq := HQ1.out.mods hSw (fun e => e rfl)
    have hx1 : World.cell? w' ⟨q, 1, none⟩ = some (.string (bstr xa)) := by rw [hBq.cell]; rfl
    clear hSw
    go_simp
    try with_reducible rfl
  change wpAnyH _ _ _ _ _ _ _ (Act.put _ (some 66) _) _
  try simp only [Act.put, List.setIfInBounds_toArray, List.set_cons_zero, List.set_cons_succ]
  refine wpAnyH_ready (rs := [3]) (by kernel_rfl) (by simp) ?_
  refine AllReadyH.cons (o := _) rfl (fun K hK => ?_) ?_
  · go_simp
    refine (sync_two HT.out (by omega) xa (by omega)).mono ?_
    rintro e y1 ⟨rfl, h2, hm2⟩
    have HT := Lib.hid h2
    have hb := hHeld.trans hm2 (fun y hy _ e => hy.2 (by rw [e]; simp))
    clear h2 hm2
    go_wp2_with fail
    refine hK.out _ _ hb (fun _ => ?_)
    clear hK K hHeld
    have hHeld : Mods (fun y => y ≠ q) w1 y1 := hb
    clear hb
    try simp only [Act.put, List.setIfInBounds_toArray, List.set_cons_zero, List.set_cons_succ]
    refine wpAnyH_ready (rs := [7]) (by kernel_rfl) (by simp) ?_
    refine AllReadyH.cons (o := _) rfl (fun K hK => ?_) ?_
    · go_simp
      refine (rsync_two HT.out (by omega) xa).mono ?_
      rintro e y2 ⟨rfl, h2, hm2⟩
      have HT := Lib.hid h2
      have hb := hHeld.trans hm2 (fun y hy _ e => hy.2 (by rw [e]; simp))
      clear h2 hm2
      go_wp2_with fail
      refine hK.out _ _ hb (fun _ => ?_)
      clear hK K hHeld
      have hHeld : Mods (fun y => y ≠ q) w1 y2 := hb
      clear hb
      try simp only [Act.put, List.setIfInBounds_toArray, List.set_cons_zero, List.set_cons_succ]
      refine wpAnyH_take (i := 8) (v := ?vv15) (by rfl) (by kernel_rfl) (by kernel_rfl) (by kernel_rfl) (by intro _ _ _ h; exact h) (Or.inl ⟨by kernel_rfl, ?hy15⟩) (by assumption) ?rest15
      case hy15 =>
        intro w' hSw
        have hSw : Mods (fun y => y ≠ q) w1 w' := hSw
        clear hSw
        go_simp
        try with_reducible rfl
      change wpAnyH _ _ _ _ _ _ _ (Act.put _ (some 68) _) _
      try simp only [Act.put, List.setIfInBounds_toArray, List.set_cons_zero, List.set_cons_succ]
      refine wpAnyH_take (i := 9) (v := ?vv16) (by rfl) (by kernel_rfl) (by kernel_rfl) (by kernel_rfl) (by intro _ _ _ h; exact h) (Or.inl ⟨by kernel_rfl, ?hy16⟩) (by assumption) ?rest16
      case hy16 =>
        intro w' hSw
        have hSw : Mods (fun y => y ≠ q) w1 w' := hSw
        clear hSw
        go_simp
        try with_reducible rfl
      change wpAnyH _ _ _ _ _ _ _ (Act.put _ (some 6) _) _
      try simp only [Act.put, List.setIfInBounds_toArray, List.set_cons_zero, List.set_cons_succ]
      refine wpAnyH_done (by kernel_rfl) ?_ _
      refine NoPanic.normal ?_
      go_wp2_with fail
      go_ret
      exact ⟨_, _, rfl, (HT.out.drop (fun y hy => absurd hy (List.not_mem_nil))).more (by omega)⟩
    exact AllReadyH.nil
  exact AllReadyH.nil
set_option maxRecDepth 100000 in
set_option maxHeartbeats 4000000 in
theorem do4_any (h : TwoAt [] W w g d m r k) (hk : k ≤ 80000) (xk : Int) (hkind : xk = 4) (xa xb : Str) (xn xc : Int) (pk : Option Addr) (nk ck : Nat) (hxa : xa.length ≤ 1000) (hxb : xb.length ≤ 1000) (hxn : (Lit.int .i64 xn).wf = true) : Calls Try.prog 19 #[.pointer (some ⟨g, 0, none⟩), .pointer (some ⟨m, 0, none⟩), .agg #[.int .i64 xk, .string (bstr xa), .string (bstr xb), .int .i64 xn, .int .i64 xc, .slice pk nk ck]] w (TwoDo W g ((renameD d xa xb).1) m (k + 6)) := by
  have H := Lib.hid h
  have HWN := Lib.hid hxn
  have hni := wf_in hxn
  have hza := bstr_size xa
  have hzb := bstr_size xb
  have hml : (1000 : Nat) ≤ maxLen := by decide
  clear h hxn
  subst hkind
  go_enter Try.func19, Try.ntmps19
  go_upto_region 11 with fail
  generalize hW : World.alloc w _ = w1
  have HK1 := Lib.hid (show Keeps w w1 from by rw [← hW]; exact (Keeps.refl _).alloc _)
  have HQ1 := Lib.hid (show Blk w1 w.heap.size 36 #[.int .i64 4, .string (bstr xa), .string (bstr xb), .int .i64 xn, .int .i64 xc, .slice pk nk ck] from by rw [← hW]; exact Blk.new _ _ _ rfl)
  clear hW
  have HT1 := Lib.hid (H.out.aside HK1.out (Nat.le_refl _) HQ1.out.lt)
  obtain ⟨q, hq⟩ : ∃ q, q = w.heap.size := ⟨_, rfl⟩
  rw [← hq] at HQ1 HT1 ⊢
  clear hq
  have HT := Lib.hid (HT1.out.keeps (Keeps.refl w1).drew)
  refine wp_region_noPanic ?_
  refine wp_region_held_drew (S := fun w' => Mods (fun y => y ≠ q) w1 w') (by kernel_rfl) ((Mods.refl (fun y => y ≠ q) w1).drew) (fun _ => ?_)
  have hHeld : Mods (fun y => y ≠ q) w1 (w1).drew := (Mods.refl (fun y => y ≠ q) w1).drew
  generalize World.drew w1 = xs at *
  refine wpAnyH_take (i := 0) (v := ?vv17) (by rfl) (by kernel_rfl) (by kernel_rfl) (by kernel_rfl) (by intro _ _ _ h; exact h) (Or.inl ⟨by kernel_rfl, ?hy17⟩) (by assumption) ?rest17
  case hy17 =>
    intro w' hSw
    have hSw : Mods (fun y => y ≠ q) w1 w' := hSw
    clear hSw
    go_simp
    try with_reducible rfl
  change wpAnyH _ _ _ _ _ _ _ (Act.put _ (some 71) _) _
  try simp only [Act.put, List.setIfInBounds_toArray, List.set_cons_zero, List.set_cons_succ]
  refine wpAnyH_take (i := 1) (v := ?vv18) (by rfl) (by kernel_rfl) (by kernel_rfl) (by kernel_rfl) (by intro _ _ _ h; exact h) (Or.inl ⟨by kernel_rfl, ?hy18⟩) (by assumption) ?rest18
  case hy18 =>
    intro w' hSw
    have hSw : Mods (fun y => y ≠ q) w1 w' := hSw
    clear hSw
    go_simp
    try with_reducible rfl
  change wpAnyH _ _ _ _ _ _ _ (Act.put _ (some 72) _) _
  try simp only [Act.put, List.setIfInBounds_toArray, List.set_cons_zero, List.set_cons_succ]
  refine wpAnyH_take (i := 2) (v := ?vv19) (by rfl) (by kernel_rfl) (by kernel_rfl) (by kernel_rfl) (by intro _ _ _ h; exact h) (Or.inl ⟨by kernel_rfl, ?hy19⟩) (by assumption) ?rest19
  case hy19 =>
    intro w' hSw
    have hSw : Mods (fun y => y ≠ q) w1 w' := hSw
    have hBq := HQ1.out.mods hSw (fun e => e rfl)
    have hx1 : World.cell? w' ⟨q, 1, none⟩ = some (.string (bstr xa)) := by rw [hBq.cell]; rfl
    clear hSw
    go_simp
    try with_reducible rfl
  change wpAnyH _ _ _ _ _ _ _ (Act.put _ (some 73) _) _
  try simp only [Act.put, List.setIfInBounds_toArray, List.set_cons_zero, List.set_cons_succ]
  refine wpAnyH_take (i := 3) (v := ?vv20) (by rfl) (by kernel_rfl) (by kernel_rfl) (by kernel_rfl) (by intro _ _ _ h; exact h) (Or.inl ⟨by kernel_rfl, ?hy20⟩) (by assumption) ?rest20
  case hy20 =>
    intro w' hSw
    have hSw : Mods (fun y => y ≠ q) w1 w' := hSw
    clear hSw
    go_simp
    try with_reducible rfl
  change wpAnyH _ _ _ _ _ _ _ (Act.put _ (some 74) _) _
  try simp only [Act.put, List.setIfInBounds_toArray, List.set_cons_zero, List.set_cons_succ]
  refine wpAnyH_take (i := 4) (v := ?vv21) (by rfl) (by kernel_rfl) (by kernel_rfl) (by kernel_rfl) (by intro _ _ _ h; exact h) (Or.inl ⟨by kernel_rfl, ?hy21⟩) (by assumption) ?rest21
  case hy21 =>
    intro w' hSw
    have hSw : Mods (fun y => y ≠ q) w1 w' := hSw
    have hBq := HQ1.out.mods hSw (fun e => e rfl)
    have hx2 : World.cell? w' ⟨q, 2, none⟩ = some (.string (bstr xb)) := by rw [hBq.cell]; rfl
    clear hSw
    go_simp
    try with_reducible rfl
  change wpAnyH _ _ _ _ _ _ _ (Act.put _ (some 75) _) _
  try simp only [Act.put, List.setIfInBounds_toArray, List.set_cons_zero, List.set_cons_succ]
  refine wpAnyH_take (i := 6) (v := ?vv22) (by rfl) (by kernel_rfl) (by kernel_rfl) (by kernel_rfl) (by intro _ _ _ h; exact h) (Or.inl ⟨by kernel_rfl, ?hy22⟩) (by assumption) ?rest22
  case hy22 =>
    intro w' hSw
    have hSw : Mods (fun y => y ≠ q) w1 w' := hSw
    clear hSw
    go_simp
    try with_reducible rfl
  change wpAnyH _ _ _ _ _ _ _ (Act.put _ (some 77) _) _
  try simp only [Act.put, List.setIfInBounds_toArray, List.set_cons_zero, List.set_cons_succ]
  refine wpAnyH_take (i := 7) (v := ?vv23) (by rfl) (by kernel_rfl) (by kernel_rfl) (by kernel_rfl) (by intro _ _ _ h; exact h) (Or.inl ⟨by kernel_rfl, ?hy23⟩) (by assumption) ?rest23
  case hy23 =>
    intro w' hSw
    have hSw : Mods (fun y => y ≠ q) w1 w' := hSw
    clear hSw
    go_simp
    try with_reducible rfl
  change wpAnyH _ _ _ _ _ _ _ (Act.put _ (some 78) _) _
  try simp only [Act.put, List.setIfInBounds_toArray, List.set_cons_zero, List.set_cons_succ]
  refine wpAnyH_take (i := 8) (v := ?vv24) (by rfl) (by kernel_rfl) (by kernel_rfl) (by kernel_rfl) (by intro _ _ _ h; exact h) (Or.inl ⟨by kernel_rfl, ?hy24⟩) (by assumption) ?rest24
  case hy24 =>
    intro w' hSw
    have hSw : Mods (fun y => y ≠ q) w1 w' := hSw
    have hBq := HQ1.out.mods hSw (fun e => e rfl)
    have hx1 : World.cell? w' ⟨q, 1, none⟩ = some (.string (bstr xa)) := by rw [hBq.cell]; rfl
    clear hSw
    go_simp
    try with_reducible rfl
  change wpAnyH _ _ _ _ _ _ _ (Act.put _ (some 79) _) _
  try simp only [Act.put, List.setIfInBounds_toArray, List.set_cons_zero, List.set_cons_succ]
  refine wpAnyH_take (i := 9) (v := ?vv25) (by rfl) (by kernel_rfl) (by kernel_rfl) (by kernel_rfl) (by intro _ _ _ h; exact h) (Or.inl ⟨by kernel_rfl, ?hy25⟩) (by assumption) ?rest25
  case hy25 =>
    intro w' hSw
    have hSw : Mods (fun y => y ≠ q) w1 w' := hSw
    clear hSw
    go_simp
    try with_reducible rfl
  change wpAnyH _ _ _ _ _ _ _ (Act.put _ (some 80) _) _
  try simp only [Act.put, List.setIfInBounds_toArray, List.set_cons_zero, List.set_cons_succ]
  refine wpAnyH_take (i := 10) (v := ?vv26) (by rfl) (by kernel_rfl) (by kernel_rfl) (by kernel_rfl) (by intro _ _ _ h; exact h) (Or.inl ⟨by kernel_rfl, ?hy26⟩) (by assumption) ?rest26
  case hy26 =>
    intro w' hSw
    have hSw : Mods (fun y => y ≠ q) w1 w' := hSw
    have hBq := HQ1.out.mods hSw (fun e => e rfl)
    have hx2 : World.cell? w' ⟨q, 2, none⟩ = some (.string (bstr xb)) := by rw [hBq.cell]; rfl
    clear hSw
    go_simp
    try with_reducible rfl
  change wpAnyH _ _ _ _ _ _ _ (Act.put _ (some 81) _) _
  try simp only [Act.put, List.setIfInBounds_toArray, List.set_cons_zero, List.set_cons_succ]
  refine wpAnyH_ready (rs := [5]) (by kernel_rfl) (by simp) ?_
  refine AllReadyH.cons (o := _) rfl (fun K hK => ?_) ?_
  · go_simp
    refine (rename_two HT.out (by omega) xa xb (by omega) (by omega)).mono ?_
    rintro e y1 ⟨rfl, h2, hm2⟩
    have HT := Lib.hid h2
    have hb := hHeld.trans hm2 (fun y hy _ e => hy.2 (by rw [e]; simp))
    clear h2 hm2
    go_wp2_with fail
    refine hK.out _ _ hb (fun _ => ?_)
    clear hK K hHeld
    have hHeld : Mods (fun y => y ≠ q) w1 y1 := hb
    clear hb
    try simp only [Act.put, List.setIfInBounds_toArray, List.set_cons_zero, List.set_cons_succ]
    refine wpAnyH_ready (rs := [11]) (by kernel_rfl) (by simp) ?_
    refine AllReadyH.cons (o := _) rfl (fun K hK => ?_) ?_
    · go_simp
      refine (rrename_two HT.out (by omega) xa xb (by omega)).mono ?_
      rintro e y2 ⟨rfl, h2, hm2⟩
      have HT := Lib.hid h2
      have hb := hHeld.trans hm2 (fun y hy _ e => hy.2 (by rw [e]; simp))
      clear h2 hm2
      go_wp2_with fail
      refine hK.out _ _ hb (fun _ => ?_)
      clear hK K hHeld
      have hHeld : Mods (fun y => y ≠ q) w1 y2 := hb
      clear hb
      try simp only [Act.put, List.setIfInBounds_toArray, List.set_cons_zero, List.set_cons_succ]
      refine wpAnyH_take (i := 12) (v := ?vv27) (by rfl) (by kernel_rfl) (by kernel_rfl) (by kernel_rfl) (by intro _ _ _ h; exact h) (Or.inl ⟨by kernel_rfl, ?hy27⟩) (by assumption) ?rest27
      case hy27 =>
        intro w' hSw
        have hSw : Mods (fun y => y ≠ q) w1 w' := hSw
        clear hSw
        go_simp
        try with_reducible rfl
      change wpAnyH _ _ _ _ _ _ _ (Act.put _ (some 83) _) _
      try simp only [Act.put, List.setIfInBounds_toArray, List.set_cons_zero, List.set_cons_succ]
      refine wpAnyH_take (i := 13) (v := ?vv28) (by rfl) (by kernel_rfl) (by kernel_rfl) (by kernel_rfl) (by intro _ _ _ h; exact h) (Or.inl ⟨by kernel_rfl, ?hy28⟩) (by assumption) ?rest28
      case hy28 =>
        intro w' hSw
        have hSw : Mods (fun y => y ≠ q) w1 w' := hSw
        clear hSw
        go_simp
        try with_reducible rfl
      change wpAnyH _ _ _ _ _ _ _ (Act.put _ (some 6) _) _
      try simp only [Act.put, List.setIfInBounds_toArray, List.set_cons_zero, List.set_cons_succ]
      refine wpAnyH_done (by kernel_rfl) ?_ _
      refine NoPanic.normal ?_
      go_wp2_with fail
      go_ret
      exact ⟨_, _, rfl, (HT.out.drop (fun y hy => absurd hy (List.not_mem_nil))).more (by omega)⟩
    exact AllReadyH.nil
  exact AllReadyH.nil
set_option maxRecDepth 100000 in
set_option maxHeartbeats 4000000 in
theorem do5_any (h : TwoAt [] W w g d m r k) (hk : k ≤ 80000) (xk : Int) (hkind : xk = 5) (xa xb : Str) (xn xc : Int) (pk : Option Addr) (nk ck : Nat) (hxa : xa.length ≤ 1000) (hxb : xb.length ≤ 1000) (hxn : (Lit.int .i64 xn).wf = true) : Calls Try.prog 19 #[.pointer (some ⟨g, 0, none⟩), .pointer (some ⟨m, 0, none⟩), .agg #[.int .i64 xk, .string (bstr xa), .string (bstr xb), .int .i64 xn, .int .i64 xc, .slice pk nk ck]] w (TwoDo W g ((unlinkD d xa).1) m (k + 6)) := by
  have H := Lib.hid h
  have HWN := Lib.hid hxn
  have hni := wf_in hxn
  have hza := bstr_size xa
  have hzb := bstr_size xb
  have hml : (1000 : Nat) ≤ maxLen := by decide
  clear h hxn
  subst hkind
  go_enter Try.func19, Try.ntmps19
  go_upto_region 13 with fail
  generalize hW : World.alloc w _ = w1
  have HK1 := Lib.hid (show Keeps w w1 from by rw [← hW]; exact (Keeps.refl _).alloc _)
  have HQ1 := Lib.hid (show Blk w1 w.heap.size 36 #[.int .i64 5, .string (bstr xa), .string (bstr xb), .int .i64 xn, .int .i64 xc, .slice pk nk ck] from by rw [← hW]; exact Blk.new _ _ _ rfl)
  clear hW
  have HT1 := Lib.hid (H.out.aside HK1.out (Nat.le_refl _) HQ1.out.lt)
  obtain ⟨q, hq⟩ : ∃ q, q = w.heap.size := ⟨_, rfl⟩
  rw [← hq] at HQ1 HT1 ⊢
  clear hq
  have HT := Lib.hid (HT1.out.keeps (Keeps.refl w1).drew)
  refine wp_region_noPanic ?_
  refine wp_region_held_drew (S := fun w' => Mods (fun y => y ≠ q) w1 w') (by kernel_rfl) ((Mods.refl (fun y => y ≠ q) w1).drew) (fun _ => ?_)
  have hHeld : Mods (fun y => y ≠ q) w1 (w1).drew := (Mods.refl (fun y => y ≠ q) w1).drew
  generalize World.drew w1 = xs at *
  refine wpAnyH_take (i := 0) (v := ?vv29) (by rfl) (by kernel_rfl) (by kernel_rfl) (by kernel_rfl) (by intro _ _ _ h; exact h) (Or.inl ⟨by kernel_rfl, ?hy29⟩) (by assumption) ?rest29
  case hy29 =>
    intro w' hSw
    have hSw : Mods (fun y => y ≠ q) w1 w' := hSw
    clear hSw
    go_simp
    try with_reducible rfl
  change wpAnyH _ _ _ _ _ _ _ (Act.put _ (some 86) _) _
  try simp only [Act.put, List.setIfInBounds_toArray, List.set_cons_zero, List.set_cons_succ]
  refine wpAnyH_take (i := 1) (v := ?vv30) (by rfl) (by kernel_rfl) (by kernel_rfl) (by kernel_rfl) (by intro _ _ _ h; exact h) (Or.inl ⟨by kernel_rfl, ?hy30⟩) (by assumption) ?rest30
  case hy30 =>
    intro w' hSw
    have hSw : Mods (fun y => y ≠ q) w1 w' := hSw
    clear hSw
    go_simp
    try with_reducible rfl
  change wpAnyH _ _ _ _ _ _ _ (Act.put _ (some 87) _) _
  try simp only [Act.put, List.setIfInBounds_toArray, List.set_cons_zero, List.set_cons_succ]
  refine wpAnyH_take (i := 2) (v := ?vv31) (by rfl) (by kernel_rfl) (by kernel_rfl) (by kernel_rfl) (by intro _ _ _ h; exact h) (Or.inl ⟨by kernel_rfl, ?hy31⟩) (by assumption) ?rest31
  case hy31 =>
    intro w' hSw
    have hSw : Mods (fun y => y ≠ q) w1 w' := hSw
    have hBq := HQ1.out.mods hSw (fun e => e rfl)
    have hx1 : World.cell? w' ⟨q, 1, none⟩ = some (.string (bstr xa)) := by rw [hBq.cell]; rfl
    clear hSw
    go_simp
    try with_reducible rfl
  change wpAnyH _ _ _ _ _ _ _ (Act.put _ (some 88) _) _
  try simp only [Act.put, List.setIfInBounds_toArray, List.set_cons_zero, List.set_cons_succ]
  refine wpAnyH_take (i := 4) (v := ?vv32) (by rfl) (by kernel_rfl) (by kernel_rfl) (by kernel_rfl) (by intro _ _ _ h; exact h) (Or.inl ⟨by kernel_rfl, ?hy32⟩) (by assumption) ?rest32
  case hy32 =>
    intro w' hSw
    have hSw : Mods (fun y => y ≠ q) w1 w' := hSw
    clear hSw
    go_simp
    try with_reducible rfl
  change wpAnyH _ _ _ _ _ _ _ (Act.put _ (some 90) _) _
  try simp only [Act.put, List.setIfInBounds_toArray, List.set_cons_zero, List.set_cons_succ]
  refine wpAnyH_take (i := 5) (v := ?vv33) (by rfl) (by kernel_rfl) (by kernel_rfl) (by kernel_rfl) (by intro _ _ _ h; exact h) (Or.inl ⟨by kernel_rfl, ?hy33⟩) (by assumption) ?rest33
  case hy33 =>
    intro w' hSw
    have hSw : Mods (fun y => y ≠ q) w1 w' := hSw
    clear hSw
    go_simp
    try with_reducible rfl
  change wpAnyH _ _ _ _ _ _ _ (Act.put _ (some 91) _) _
  try simp only [Act.put, List.setIfInBounds_toArray, List.set_cons_zero, List.set_cons_succ]
  refine wpAnyH_take (i := 6) (v := ?vv34) (by rfl) (by kernel_rfl) (by kernel_rfl) (by kernel_rfl) (by intro _ _ _ h; exact h) (Or.inl ⟨by kernel_rfl, ?hy34⟩) (by assumption) ?rest34
  case hy34 =>
    intro w' hSw
    have hSw : Mods (fun y => y ≠ q) w1 w' := hSw
    have hBq := HQ1.out.mods hSw (fun e => e rfl)
    have hx1 : World.cell? w' ⟨q, 1, none⟩ = some (.string (bstr xa)) := by rw [hBq.cell]; rfl
    clear hSw
    go_simp
    try with_reducible rfl
  change wpAnyH _ _ _ _ _ _ _ (Act.put _ (some 92) _) _
  try simp only [Act.put, List.setIfInBounds_toArray, List.set_cons_zero, List.set_cons_succ]
  refine wpAnyH_ready (rs := [3]) (by kernel_rfl) (by simp) ?_
  refine AllReadyH.cons (o := _) rfl (fun K hK => ?_) ?_
  · go_simp
    refine (unlink_two HT.out (by omega) xa (by omega)).mono ?_
    rintro e y1 ⟨rfl, h2, hm2⟩
    have HT := Lib.hid h2
    have hb := hHeld.trans hm2 (fun y hy _ e => hy.2 (by rw [e]; simp))
    clear h2 hm2
    go_wp2_with fail
    refine hK.out _ _ hb (fun _ => ?_)
    clear hK K hHeld
    have hHeld : Mods (fun y => y ≠ q) w1 y1 := hb
    clear hb
    try simp only [Act.put, List.setIfInBounds_toArray, List.set_cons_zero, List.set_cons_succ]
    refine wpAnyH_ready (rs := [7]) (by kernel_rfl) (by simp) ?_
    refine AllReadyH.cons (o := _) rfl (fun K hK => ?_) ?_
    · go_simp
      refine (runlink_two HT.out (by omega) xa).mono ?_
      rintro e y2 ⟨rfl, h2, hm2⟩
      have HT := Lib.hid h2
      have hb := hHeld.trans hm2 (fun y hy _ e => hy.2 (by rw [e]; simp))
      clear h2 hm2
      go_wp2_with fail
      refine hK.out _ _ hb (fun _ => ?_)
      clear hK K hHeld
      have hHeld : Mods (fun y => y ≠ q) w1 y2 := hb
      clear hb
      try simp only [Act.put, List.setIfInBounds_toArray, List.set_cons_zero, List.set_cons_succ]
      refine wpAnyH_take (i := 8) (v := ?vv35) (by rfl) (by kernel_rfl) (by kernel_rfl) (by kernel_rfl) (by intro _ _ _ h; exact h) (Or.inl ⟨by kernel_rfl, ?hy35⟩) (by assumption) ?rest35
      case hy35 =>
        intro w' hSw
        have hSw : Mods (fun y => y ≠ q) w1 w' := hSw
        clear hSw
        go_simp
        try with_reducible rfl
      change wpAnyH _ _ _ _ _ _ _ (Act.put _ (some 94) _) _
      try simp only [Act.put, List.setIfInBounds_toArray, List.set_cons_zero, List.set_cons_succ]
      refine wpAnyH_take (i := 9) (v := ?vv36) (by rfl) (by kernel_rfl) (by kernel_rfl) (by kernel_rfl) (by intro _ _ _ h; exact h) (Or.inl ⟨by kernel_rfl, ?hy36⟩) (by assumption) ?rest36
      case hy36 =>
        intro w' hSw
        have hSw : Mods (fun y => y ≠ q) w1 w' := hSw
        clear hSw
        go_simp
        try with_reducible rfl
      change wpAnyH _ _ _ _ _ _ _ (Act.put _ (some 6) _) _
      try simp only [Act.put, List.setIfInBounds_toArray, List.set_cons_zero, List.set_cons_succ]
      refine wpAnyH_done (by kernel_rfl) ?_ _
      refine NoPanic.normal ?_
      go_wp2_with fail
      go_ret
      exact ⟨_, _, rfl, (HT.out.drop (fun y hy => absurd hy (List.not_mem_nil))).more (by omega)⟩
    exact AllReadyH.nil
  exact AllReadyH.nil
set_option maxRecDepth 100000 in
set_option maxHeartbeats 4000000 in
theorem do6_any (h : TwoAt [] W w g d m r k) (hk : k ≤ 80000) (xk : Int) (hkind : xk = 6) (xa xb : Str) (xn xc : Int) (pk : Option Addr) (nk ck : Nat) (hxa : xa.length ≤ 1000) (hxb : xb.length ≤ 1000) (hxn : (Lit.int .i64 xn).wf = true) : Calls Try.prog 19 #[.pointer (some ⟨g, 0, none⟩), .pointer (some ⟨m, 0, none⟩), .agg #[.int .i64 xk, .string (bstr xa), .string (bstr xb), .int .i64 xn, .int .i64 xc, .slice pk nk ck]] w (TwoDo W g ((syncDirD d).1) m (k + 6)) := by
  have H := Lib.hid h
  have HWN := Lib.hid hxn
  have hni := wf_in hxn
  have hza := bstr_size xa
  have hzb := bstr_size xb
  have hml : (1000 : Nat) ≤ maxLen := by decide
  clear h hxn
  subst hkind
  go_enter Try.func19, Try.ntmps19
  go_upto_region 15 with fail
  generalize hW : World.alloc w _ = w1
  have HK1 := Lib.hid (show Keeps w w1 from by rw [← hW]; exact (Keeps.refl _).alloc _)
  have HQ1 := Lib.hid (show Blk w1 w.heap.size 36 #[.int .i64 6, .string (bstr xa), .string (bstr xb), .int .i64 xn, .int .i64 xc, .slice pk nk ck] from by rw [← hW]; exact Blk.new _ _ _ rfl)
  clear hW
  have HT1 := Lib.hid (H.out.aside HK1.out (Nat.le_refl _) HQ1.out.lt)
  obtain ⟨q, hq⟩ : ∃ q, q = w.heap.size := ⟨_, rfl⟩
  rw [← hq] at HQ1 HT1 ⊢
  clear hq
  go_wp2_with fail
  refine (syncDir_two HT1.out (by omega)).mono ?_
  rintro e y1 ⟨rfl, h2, -⟩
  have HT := Lib.hid h2
  clear h2
  go_wp2_with fail
  refine (rsyncDir_two HT.out (by omega)).mono ?_
  rintro e y2 ⟨rfl, h2, -⟩
  have HT := Lib.hid h2
  clear h2
  go_wp2_with fail
  go_ret
  exact ⟨_, _, rfl, (HT.out.drop (fun y hy => absurd hy (List.not_mem_nil))).more (by omega)⟩
set_option maxRecDepth 100000 in
set_option maxHeartbeats 4000000 in
theorem do1_any (h : TwoAt [] W w g d m r k) (hk : k ≤ 80000) (xk : Int) (hkind : xk = 1) (xa xb : Str) (xn xc : Int) (pk : Option Addr) (nk ck : Nat) (hxa : xa.length ≤ 1000) (hxb : xb.length ≤ 1000) (hxn : (Lit.int .i64 xn).wf = true) : Calls Try.prog 19 #[.pointer (some ⟨g, 0, none⟩), .pointer (some ⟨m, 0, none⟩), .agg #[.int .i64 xk, .string (bstr xa), .string (bstr xb), .int .i64 xn, .int .i64 xc, .slice pk nk ck]] w (TwoDo W g ((appendD d xa xb).1) m (k + 6)) := by
  have H := Lib.hid h
  have HWN := Lib.hid hxn
  have hni := wf_in hxn
  have hza := bstr_size xa
  have hzb := bstr_size xb
  have hml : (1000 : Nat) ≤ maxLen := by decide
  clear h hxn
  subst hkind
  go_enter Try.func19, Try.ntmps19
  go_upto_region 5 with fail
  generalize hW : World.alloc w _ = w1
  have HK1 := Lib.hid (show Keeps w w1 from by rw [← hW]; exact (Keeps.refl _).alloc _)
  have HQ1 := Lib.hid (show Blk w1 w.heap.size 36 #[.int .i64 1, .string (bstr xa), .string (bstr xb), .int .i64 xn, .int .i64 xc, .slice pk nk ck] from by rw [← hW]; exact Blk.new _ _ _ rfl)
  clear hW
  have HT1 := Lib.hid (H.out.aside HK1.out (Nat.le_refl _) HQ1.out.lt)
  obtain ⟨q, hq⟩ : ∃ q, q = w.heap.size := ⟨_, rfl⟩
  rw [← hq] at HQ1 HT1 ⊢
  clear hq
  have HT := Lib.hid (HT1.out.keeps (Keeps.refl w1).drew)
  refine wp_region_noPanic ?_
  refine wp_region_held_drew (S := fun w' => Mods (fun y => y ≠ q) w1 w') (by kernel_rfl) ((Mods.refl (fun y => y ≠ q) w1).drew) (fun _ => ?_)
  have hHeld : Mods (fun y => y ≠ q) w1 (w1).drew := (Mods.refl (fun y => y ≠ q) w1).drew
  generalize World.drew w1 = xs at *
  refine wpAnyH_take (i := 0) (v := ?vv37) (by rfl) (by kernel_rfl) (by kernel_rfl) (by kernel_rfl) (by intro _ _ _ h; exact h) (Or.inl ⟨by kernel_rfl, ?hy37⟩) (by assumption) ?rest37
  case hy37 =>
    intro w' hSw
    have hSw : Mods (fun y => y ≠ q) w1 w' := hSw
    clear hSw
    go_simp
    try with_reducible rfl
  change wpAnyH _ _ _ _ _ _ _ (Act.put _ (some 22) _) _
  try simp only [Act.put, List.setIfInBounds_toArray, List.set_cons_zero, List.set_cons_succ]
  refine wpAnyH_take (i := 1) (v := ?vv38) (by rfl) (by kernel_rfl) (by kernel_rfl) (by kernel_rfl) (by intro _ _ _ h; exact h) (Or.inl ⟨by kernel_rfl, ?hy38⟩) (by assumption) ?rest38
  case hy38 =>
    intro w' hSw
    have hSw : Mods (fun y => y ≠ q) w1 w' := hSw
    clear hSw
    go_simp
    try with_reducible rfl
  change wpAnyH _ _ _ _ _ _ _ (Act.put _ (some 23) _) _
  try simp only [Act.put, List.setIfInBounds_toArray, List.set_cons_zero, List.set_cons_succ]
  refine wpAnyH_take (i := 2) (v := ?vv39) (by rfl) (by kernel_rfl) (by kernel_rfl) (by kernel_rfl) (by intro _ _ _ h; exact h) (Or.inl ⟨by kernel_rfl, ?hy39⟩) (by assumption) ?rest39
  case hy39 =>
    intro w' hSw
    have hSw : Mods (fun y => y ≠ q) w1 w' := hSw
    have hBq := HQ1.out.mods hSw (fun e => e rfl)
    have hx1 : World.cell? w' ⟨q, 1, none⟩ = some (.string (bstr xa)) := by rw [hBq.cell]; rfl
    clear hSw
    go_simp
    try with_reducible rfl
  change wpAnyH _ _ _ _ _ _ _ (Act.put _ (some 24) _) _
  try simp only [Act.put, List.setIfInBounds_toArray, List.set_cons_zero, List.set_cons_succ]
  refine wpAnyH_take (i := 3) (v := ?vv40) (by rfl) (by kernel_rfl) (by kernel_rfl) (by kernel_rfl) (by intro _ _ _ h; exact h) (Or.inl ⟨by kernel_rfl, ?hy40⟩) (by assumption) ?rest40
  case hy40 =>
    intro w' hSw
    have hSw : Mods (fun y => y ≠ q) w1 w' := hSw
    clear hSw
    go_simp
    try with_reducible rfl
  change wpAnyH _ _ _ _ _ _ _ (Act.put _ (some 25) _) _
  try simp only [Act.put, List.setIfInBounds_toArray, List.set_cons_zero, List.set_cons_succ]
  refine wpAnyH_take (i := 4) (v := ?vv41) (by rfl) (by kernel_rfl) (by kernel_rfl) (by kernel_rfl) (by intro _ _ _ h; exact h) (Or.inl ⟨by kernel_rfl, ?hy41⟩) (by assumption) ?rest41
  case hy41 =>
    intro w' hSw
    have hSw : Mods (fun y => y ≠ q) w1 w' := hSw
    have hBq := HQ1.out.mods hSw (fun e => e rfl)
    have hx2 : World.cell? w' ⟨q, 2, none⟩ = some (.string (bstr xb)) := by rw [hBq.cell]; rfl
    clear hSw
    go_simp
    try with_reducible rfl
  change wpAnyH _ _ _ _ _ _ _ (Act.put _ (some 26) _) _
  try simp only [Act.put, List.setIfInBounds_toArray, List.set_cons_zero, List.set_cons_succ]
  refine wpAnyH_take (i := 7) (v := ?vv42) (by rfl) (by kernel_rfl) (by kernel_rfl) (by kernel_rfl) (by intro _ _ _ h; exact h) (Or.inl ⟨by kernel_rfl, ?hy42⟩) (by assumption) ?rest42
  case hy42 =>
    intro w' hSw
    have hSw : Mods (fun y => y ≠ q) w1 w' := hSw
    clear hSw
    go_simp
    try with_reducible rfl
  change wpAnyH _ _ _ _ _ _ _ (Act.put _ (some 29) _) _
  try simp only [Act.put, List.setIfInBounds_toArray, List.set_cons_zero, List.set_cons_succ]
  refine wpAnyH_take (i := 8) (v := ?vv43) (by rfl) (by kernel_rfl) (by kernel_rfl) (by kernel_rfl) (by intro _ _ _ h; exact h) (Or.inl ⟨by kernel_rfl, ?hy43⟩) (by assumption) ?rest43
  case hy43 =>
    intro w' hSw
    have hSw : Mods (fun y => y ≠ q) w1 w' := hSw
    clear hSw
    go_simp
    try with_reducible rfl
  change wpAnyH _ _ _ _ _ _ _ (Act.put _ (some 30) _) _
  try simp only [Act.put, List.setIfInBounds_toArray, List.set_cons_zero, List.set_cons_succ]
  refine wpAnyH_take (i := 9) (v := ?vv44) (by rfl) (by kernel_rfl) (by kernel_rfl) (by kernel_rfl) (by intro _ _ _ h; exact h) (Or.inl ⟨by kernel_rfl, ?hy44⟩) (by assumption) ?rest44
  case hy44 =>
    intro w' hSw
    have hSw : Mods (fun y => y ≠ q) w1 w' := hSw
    have hBq := HQ1.out.mods hSw (fun e => e rfl)
    have hx1 : World.cell? w' ⟨q, 1, none⟩ = some (.string (bstr xa)) := by rw [hBq.cell]; rfl
    clear hSw
    go_simp
    try with_reducible rfl
  change wpAnyH _ _ _ _ _ _ _ (Act.put _ (some 31) _) _
  try simp only [Act.put, List.setIfInBounds_toArray, List.set_cons_zero, List.set_cons_succ]
  refine wpAnyH_take (i := 10) (v := ?vv45) (by rfl) (by kernel_rfl) (by kernel_rfl) (by kernel_rfl) (by intro _ _ _ h; exact h) (Or.inl ⟨by kernel_rfl, ?hy45⟩) (by assumption) ?rest45
  case hy45 =>
    intro w' hSw
    have hSw : Mods (fun y => y ≠ q) w1 w' := hSw
    clear hSw
    go_simp
    try with_reducible rfl
  change wpAnyH _ _ _ _ _ _ _ (Act.put _ (some 32) _) _
  try simp only [Act.put, List.setIfInBounds_toArray, List.set_cons_zero, List.set_cons_succ]
  refine wpAnyH_take (i := 11) (v := ?vv46) (by rfl) (by kernel_rfl) (by kernel_rfl) (by kernel_rfl) (by intro _ _ _ h; exact h) (Or.inl ⟨by kernel_rfl, ?hy46⟩) (by assumption) ?rest46
  case hy46 =>
    intro w' hSw
    have hSw : Mods (fun y => y ≠ q) w1 w' := hSw
    have hBq := HQ1.out.mods hSw (fun e => e rfl)
    have hx2 : World.cell? w' ⟨q, 2, none⟩ = some (.string (bstr xb)) := by rw [hBq.cell]; rfl
    clear hSw
    go_simp
    try with_reducible rfl
  change wpAnyH _ _ _ _ _ _ _ (Act.put _ (some 33) _) _
  try simp only [Act.put, List.setIfInBounds_toArray, List.set_cons_zero, List.set_cons_succ]
  refine wpAnyH_ready (rs := [5, 12]) (by kernel_rfl) (by simp) ?_
  refine AllReadyH.cons (o := _) rfl (fun K hK => ?_) ?_
  · obtain ⟨c5, z5, hcv5, hrow5, hk5, hz5⟩ := str_bytes_lt (P := Try.prog) xs Try.underlying22 Try.underlying5 Try.underlying9 (bstr xb) (by rw [hzb]; omega)
    rw [hzb] at hcv5 hrow5
    rw [bstr_data] at hrow5
    go_simp
    obtain ⟨b5, hb5⟩ : ∃ b, b = (World.heap xs).size := ⟨_, rfl⟩
    have hge5 : (World.heap xs).size ≤ b5 := Nat.le_of_eq hb5.symm
    have HT := Lib.hid (HT.out.aside hk5 hge5 (by rw [hb5]; exact hz5))
    rw [← hb5] at hrow5 ⊢
    have HB5 := Lib.hid hrow5
    have hb := hHeld.trans (Mods.of_keeps (S := fun y => y ≠ q) hk5) (fun y hy _ => hy)
    clear hcv5 hrow5 hk5 hb5 hz5 hge5
    refine hK.out _ _ hb (fun _ => ?_)
    clear hK K hHeld
    have hHeld : Mods (fun y => y ≠ q) w1 z5 := hb
    clear hb
    try simp only [Act.put, List.setIfInBounds_toArray, List.set_cons_zero, List.set_cons_succ]
    refine wpAnyH_ready (rs := [6, 12]) (by kernel_rfl) (by simp) ?_
    refine AllReadyH.cons (o := _) rfl (fun K hK => ?_) ?_
    · go_simp
      refine (append_two HT.out (by omega) xa (by omega) (fun T w' hT hm => HT.out.row hm hT (by simp) HB5.out) (by omega)).mono ?_
      rintro e y1 ⟨rfl, h2, hm2⟩
      have HT := Lib.hid h2
      have hb := hHeld.trans hm2 (fun y hy _ e => hy.2 (by rw [e]; simp))
      clear h2 hm2 HB5
      go_wp2_with fail
      refine hK.out _ _ hb (fun _ => ?_)
      clear hK K hHeld
      have hHeld : Mods (fun y => y ≠ q) w1 y1 := hb
      clear hb
      try simp only [Act.put, List.setIfInBounds_toArray, List.set_cons_zero, List.set_cons_succ]
      refine wpAnyH_ready (rs := [12]) (by kernel_rfl) (by simp) ?_
      refine AllReadyH.cons (o := _) rfl (fun K hK => ?_) ?_
      · obtain ⟨c12, z12, hcv12, hrow12, hk12, hz12⟩ := str_bytes_lt (P := Try.prog) y1 Try.underlying22 Try.underlying5 Try.underlying9 (bstr xb) (by rw [hzb]; omega)
        rw [hzb] at hcv12 hrow12
        rw [bstr_data] at hrow12
        go_simp
        obtain ⟨b12, hb12⟩ : ∃ b, b = (World.heap y1).size := ⟨_, rfl⟩
        have hge12 : (World.heap y1).size ≤ b12 := Nat.le_of_eq hb12.symm
        have HT := Lib.hid (HT.out.aside hk12 hge12 (by rw [hb12]; exact hz12))
        rw [← hb12] at hrow12 ⊢
        have HB12 := Lib.hid hrow12
        have hb := hHeld.trans (Mods.of_keeps (S := fun y => y ≠ q) hk12) (fun y hy _ => hy)
        clear hcv12 hrow12 hk12 hb12 hz12 hge12
        refine hK.out _ _ hb (fun _ => ?_)
        clear hK K hHeld
        have hHeld : Mods (fun y => y ≠ q) w1 z12 := hb
        clear hb
        try simp only [Act.put, List.setIfInBounds_toArray, List.set_cons_zero, List.set_cons_succ]
        refine wpAnyH_ready (rs := [13]) (by kernel_rfl) (by simp) ?_
        refine AllReadyH.cons (o := _) rfl (fun K hK => ?_) ?_
        · go_simp
          refine (rappend_two HT.out (by omega) xa HB12.out (by omega)).mono ?_
          rintro e y2 ⟨rfl, h2, hm2⟩
          have HT := Lib.hid h2
          have hb := hHeld.trans hm2 (fun y hy _ e => hy.2 (by rw [e]; simp))
          clear h2 hm2
          go_wp2_with fail
          refine hK.out _ _ hb (fun _ => ?_)
          clear hK K hHeld
          have hHeld : Mods (fun y => y ≠ q) w1 y2 := hb
          clear hb
          try simp only [Act.put, List.setIfInBounds_toArray, List.set_cons_zero, List.set_cons_succ]
          refine wpAnyH_take (i := 14) (v := ?vv47) (by rfl) (by kernel_rfl) (by kernel_rfl) (by kernel_rfl) (by intro _ _ _ h; exact h) (Or.inl ⟨by kernel_rfl, ?hy47⟩) (by assumption) ?rest47
          case hy47 =>
            intro w' hSw
            have hSw : Mods (fun y => y ≠ q) w1 w' := hSw
            clear hSw
            go_simp
            try with_reducible rfl
          change wpAnyH _ _ _ _ _ _ _ (Act.put _ (some 36) _) _
          try simp only [Act.put, List.setIfInBounds_toArray, List.set_cons_zero, List.set_cons_succ]
          refine wpAnyH_take (i := 15) (v := ?vv48) (by rfl) (by kernel_rfl) (by kernel_rfl) (by kernel_rfl) (by intro _ _ _ h; exact h) (Or.inl ⟨by kernel_rfl, ?hy48⟩) (by assumption) ?rest48
          case hy48 =>
            intro w' hSw
            have hSw : Mods (fun y => y ≠ q) w1 w' := hSw
            clear hSw
            go_simp
            try with_reducible rfl
          change wpAnyH _ _ _ _ _ _ _ (Act.put _ (some 6) _) _
          try simp only [Act.put, List.setIfInBounds_toArray, List.set_cons_zero, List.set_cons_succ]
          refine wpAnyH_done (by kernel_rfl) ?_ _
          refine NoPanic.normal ?_
          go_wp2_with fail
          go_ret
          exact ⟨_, _, rfl, (HT.out.drop (fun y hy => absurd hy (List.not_mem_nil))).more (by omega)⟩
        exact AllReadyH.nil
      exact AllReadyH.nil
    refine AllReadyH.cons (o := _) rfl (fun K hK => ?_) ?_
    · obtain ⟨c12, z12, hcv12, hrow12, hk12, hz12⟩ := str_bytes_lt (P := Try.prog) z5 Try.underlying22 Try.underlying5 Try.underlying9 (bstr xb) (by rw [hzb]; omega)
      rw [hzb] at hcv12 hrow12
      rw [bstr_data] at hrow12
      go_simp
      obtain ⟨b12, hb12⟩ : ∃ b, b = (World.heap z5).size := ⟨_, rfl⟩
      have hge12 : (World.heap z5).size ≤ b12 := Nat.le_of_eq hb12.symm
      have HT := Lib.hid (HT.out.aside hk12 hge12 (by rw [hb12]; exact hz12))
      rw [← hb12] at hrow12 ⊢
      have HB12 := Lib.hid hrow12
      have HB5 := Lib.hid (HB5.out.keeps hk12)
      have hb := hHeld.trans (Mods.of_keeps (S := fun y => y ≠ q) hk12) (fun y hy _ => hy)
      clear hcv12 hrow12 hk12 hb12 hz12 hge12
      refine hK.out _ _ hb (fun _ => ?_)
      clear hK K hHeld
      have hHeld : Mods (fun y => y ≠ q) w1 z12 := hb
      clear hb
      try simp only [Act.put, List.setIfInBounds_toArray, List.set_cons_zero, List.set_cons_succ]
      refine wpAnyH_ready (rs := [6]) (by kernel_rfl) (by simp) ?_
      refine AllReadyH.cons (o := _) rfl (fun K hK => ?_) ?_
      · go_simp
        refine (append_two HT.out (by omega) xa (by omega) (fun T w' hT hm => HT.out.row hm hT (by simp) HB5.out) (by omega)).mono ?_
        rintro e y1 ⟨rfl, h2, hm2⟩
        have HB12 := Lib.hid (HT.out.row hm2 (fun y hy => hy) (by simp) HB12.out)
        have HT := Lib.hid h2
        have hb := hHeld.trans hm2 (fun y hy _ e => hy.2 (by rw [e]; simp))
        clear h2 hm2 HB5
        go_wp2_with fail
        refine hK.out _ _ hb (fun _ => ?_)
        clear hK K hHeld
        have hHeld : Mods (fun y => y ≠ q) w1 y1 := hb
        clear hb
        try simp only [Act.put, List.setIfInBounds_toArray, List.set_cons_zero, List.set_cons_succ]
        refine wpAnyH_ready (rs := [13]) (by kernel_rfl) (by simp) ?_
        refine AllReadyH.cons (o := _) rfl (fun K hK => ?_) ?_
        · go_simp
          refine (rappend_two HT.out (by omega) xa HB12.out (by omega)).mono ?_
          rintro e y2 ⟨rfl, h2, hm2⟩
          have HT := Lib.hid h2
          have hb := hHeld.trans hm2 (fun y hy _ e => hy.2 (by rw [e]; simp))
          clear h2 hm2
          go_wp2_with fail
          refine hK.out _ _ hb (fun _ => ?_)
          clear hK K hHeld
          have hHeld : Mods (fun y => y ≠ q) w1 y2 := hb
          clear hb
          try simp only [Act.put, List.setIfInBounds_toArray, List.set_cons_zero, List.set_cons_succ]
          refine wpAnyH_take (i := 14) (v := ?vv49) (by rfl) (by kernel_rfl) (by kernel_rfl) (by kernel_rfl) (by intro _ _ _ h; exact h) (Or.inl ⟨by kernel_rfl, ?hy49⟩) (by assumption) ?rest49
          case hy49 =>
            intro w' hSw
            have hSw : Mods (fun y => y ≠ q) w1 w' := hSw
            clear hSw
            go_simp
            try with_reducible rfl
          change wpAnyH _ _ _ _ _ _ _ (Act.put _ (some 36) _) _
          try simp only [Act.put, List.setIfInBounds_toArray, List.set_cons_zero, List.set_cons_succ]
          refine wpAnyH_take (i := 15) (v := ?vv50) (by rfl) (by kernel_rfl) (by kernel_rfl) (by kernel_rfl) (by intro _ _ _ h; exact h) (Or.inl ⟨by kernel_rfl, ?hy50⟩) (by assumption) ?rest50
          case hy50 =>
            intro w' hSw
            have hSw : Mods (fun y => y ≠ q) w1 w' := hSw
            clear hSw
            go_simp
            try with_reducible rfl
          change wpAnyH _ _ _ _ _ _ _ (Act.put _ (some 6) _) _
          try simp only [Act.put, List.setIfInBounds_toArray, List.set_cons_zero, List.set_cons_succ]
          refine wpAnyH_done (by kernel_rfl) ?_ _
          refine NoPanic.normal ?_
          go_wp2_with fail
          go_ret
          exact ⟨_, _, rfl, (HT.out.drop (fun y hy => absurd hy (List.not_mem_nil))).more (by omega)⟩
        exact AllReadyH.nil
      exact AllReadyH.nil
    exact AllReadyH.nil
  refine AllReadyH.cons (o := _) rfl (fun K hK => ?_) ?_
  · obtain ⟨c12, z12, hcv12, hrow12, hk12, hz12⟩ := str_bytes_lt (P := Try.prog) xs Try.underlying22 Try.underlying5 Try.underlying9 (bstr xb) (by rw [hzb]; omega)
    rw [hzb] at hcv12 hrow12
    rw [bstr_data] at hrow12
    go_simp
    obtain ⟨b12, hb12⟩ : ∃ b, b = (World.heap xs).size := ⟨_, rfl⟩
    have hge12 : (World.heap xs).size ≤ b12 := Nat.le_of_eq hb12.symm
    have HT := Lib.hid (HT.out.aside hk12 hge12 (by rw [hb12]; exact hz12))
    rw [← hb12] at hrow12 ⊢
    have HB12 := Lib.hid hrow12
    have hb := hHeld.trans (Mods.of_keeps (S := fun y => y ≠ q) hk12) (fun y hy _ => hy)
    clear hcv12 hrow12 hk12 hb12 hz12 hge12
    refine hK.out _ _ hb (fun _ => ?_)
    clear hK K hHeld
    have hHeld : Mods (fun y => y ≠ q) w1 z12 := hb
    clear hb
    try simp only [Act.put, List.setIfInBounds_toArray, List.set_cons_zero, List.set_cons_succ]
    refine wpAnyH_ready (rs := [5]) (by kernel_rfl) (by simp) ?_
    refine AllReadyH.cons (o := _) rfl (fun K hK => ?_) ?_
    · obtain ⟨c5, z5, hcv5, hrow5, hk5, hz5⟩ := str_bytes_lt (P := Try.prog) z12 Try.underlying22 Try.underlying5 Try.underlying9 (bstr xb) (by rw [hzb]; omega)
      rw [hzb] at hcv5 hrow5
      rw [bstr_data] at hrow5
      go_simp
      obtain ⟨b5, hb5⟩ : ∃ b, b = (World.heap z12).size := ⟨_, rfl⟩
      have hge5 : (World.heap z12).size ≤ b5 := Nat.le_of_eq hb5.symm
      have HT := Lib.hid (HT.out.aside hk5 hge5 (by rw [hb5]; exact hz5))
      rw [← hb5] at hrow5 ⊢
      have HB5 := Lib.hid hrow5
      have HB12 := Lib.hid (HB12.out.keeps hk5)
      have hb := hHeld.trans (Mods.of_keeps (S := fun y => y ≠ q) hk5) (fun y hy _ => hy)
      clear hcv5 hrow5 hk5 hb5 hz5 hge5
      refine hK.out _ _ hb (fun _ => ?_)
      clear hK K hHeld
      have hHeld : Mods (fun y => y ≠ q) w1 z5 := hb
      clear hb
      try simp only [Act.put, List.setIfInBounds_toArray, List.set_cons_zero, List.set_cons_succ]
      refine wpAnyH_ready (rs := [6]) (by kernel_rfl) (by simp) ?_
      refine AllReadyH.cons (o := _) rfl (fun K hK => ?_) ?_
      · go_simp
        refine (append_two HT.out (by omega) xa (by omega) (fun T w' hT hm => HT.out.row hm hT (by simp) HB5.out) (by omega)).mono ?_
        rintro e y1 ⟨rfl, h2, hm2⟩
        have HB12 := Lib.hid (HT.out.row hm2 (fun y hy => hy) (by simp) HB12.out)
        have HT := Lib.hid h2
        have hb := hHeld.trans hm2 (fun y hy _ e => hy.2 (by rw [e]; simp))
        clear h2 hm2 HB5
        go_wp2_with fail
        refine hK.out _ _ hb (fun _ => ?_)
        clear hK K hHeld
        have hHeld : Mods (fun y => y ≠ q) w1 y1 := hb
        clear hb
        try simp only [Act.put, List.setIfInBounds_toArray, List.set_cons_zero, List.set_cons_succ]
        refine wpAnyH_ready (rs := [13]) (by kernel_rfl) (by simp) ?_
        refine AllReadyH.cons (o := _) rfl (fun K hK => ?_) ?_
        · go_simp
          refine (rappend_two HT.out (by omega) xa HB12.out (by omega)).mono ?_
          rintro e y2 ⟨rfl, h2, hm2⟩
          have HT := Lib.hid h2
          have hb := hHeld.trans hm2 (fun y hy _ e => hy.2 (by rw [e]; simp))
          clear h2 hm2
          go_wp2_with fail
          refine hK.out _ _ hb (fun _ => ?_)
          clear hK K hHeld
          have hHeld : Mods (fun y => y ≠ q) w1 y2 := hb
          clear hb
          try simp only [Act.put, List.setIfInBounds_toArray, List.set_cons_zero, List.set_cons_succ]
          refine wpAnyH_take (i := 14) (v := ?vv51) (by rfl) (by kernel_rfl) (by kernel_rfl) (by kernel_rfl) (by intro _ _ _ h; exact h) (Or.inl ⟨by kernel_rfl, ?hy51⟩) (by assumption) ?rest51
          case hy51 =>
            intro w' hSw
            have hSw : Mods (fun y => y ≠ q) w1 w' := hSw
            clear hSw
            go_simp
            try with_reducible rfl
          change wpAnyH _ _ _ _ _ _ _ (Act.put _ (some 36) _) _
          try simp only [Act.put, List.setIfInBounds_toArray, List.set_cons_zero, List.set_cons_succ]
          refine wpAnyH_take (i := 15) (v := ?vv52) (by rfl) (by kernel_rfl) (by kernel_rfl) (by kernel_rfl) (by intro _ _ _ h; exact h) (Or.inl ⟨by kernel_rfl, ?hy52⟩) (by assumption) ?rest52
          case hy52 =>
            intro w' hSw
            have hSw : Mods (fun y => y ≠ q) w1 w' := hSw
            clear hSw
            go_simp
            try with_reducible rfl
          change wpAnyH _ _ _ _ _ _ _ (Act.put _ (some 6) _) _
          try simp only [Act.put, List.setIfInBounds_toArray, List.set_cons_zero, List.set_cons_succ]
          refine wpAnyH_done (by kernel_rfl) ?_ _
          refine NoPanic.normal ?_
          go_wp2_with fail
          go_ret
          exact ⟨_, _, rfl, (HT.out.drop (fun y hy => absurd hy (List.not_mem_nil))).more (by omega)⟩
        exact AllReadyH.nil
      exact AllReadyH.nil
    exact AllReadyH.nil
  exact AllReadyH.nil
set_option maxRecDepth 100000 in
set_option maxHeartbeats 4000000 in
theorem do2_any (h : TwoAt [] W w g d m r k) (hk : k ≤ 80000) (xk : Int) (hkind : xk = 2) (xa xb : Str) (xn xc : Int) (pk : Option Addr) (nk ck : Nat) (hxa : xa.length ≤ 1000) (hxb : xb.length ≤ 1000) (hxn : (Lit.int .i64 xn).wf = true) : Calls Try.prog 19 #[.pointer (some ⟨g, 0, none⟩), .pointer (some ⟨m, 0, none⟩), .agg #[.int .i64 xk, .string (bstr xa), .string (bstr xb), .int .i64 xn, .int .i64 xc, .slice pk nk ck]] w (TwoDo W g ((pwriteD d xa xn xb).1) m (k + 6)) := by
  have H := Lib.hid h
  have HWN := Lib.hid hxn
  have hni := wf_in hxn
  have hza := bstr_size xa
  have hzb := bstr_size xb
  have hml : (1000 : Nat) ≤ maxLen := by decide
  clear h hxn
  subst hkind
  go_enter Try.func19, Try.ntmps19
  go_upto_region 7 with fail
  generalize hW : World.alloc w _ = w1
  have HK1 := Lib.hid (show Keeps w w1 from by rw [← hW]; exact (Keeps.refl _).alloc _)
  have HQ1 := Lib.hid (show Blk w1 w.heap.size 36 #[.int .i64 2, .string (bstr xa), .string (bstr xb), .int .i64 xn, .int .i64 xc, .slice pk nk ck] from by rw [← hW]; exact Blk.new _ _ _ rfl)
  clear hW
  have HT1 := Lib.hid (H.out.aside HK1.out (Nat.le_refl _) HQ1.out.lt)
  obtain ⟨q, hq⟩ : ∃ q, q = w.heap.size := ⟨_, rfl⟩
  rw [← hq] at HQ1 HT1 ⊢
  clear hq
  have HT := Lib.hid (HT1.out.keeps (Keeps.refl w1).drew)
  refine wp_region_noPanic ?_
  refine wp_region_held_drew (S := fun w' => Mods (fun y => y ≠ q) w1 w') (by kernel_rfl) ((Mods.refl (fun y => y ≠ q) w1).drew) (fun _ => ?_)
  have hHeld : Mods (fun y => y ≠ q) w1 (w1).drew := (Mods.refl (fun y => y ≠ q) w1).drew
  generalize World.drew w1 = xs at *
  refine wpAnyH_take (i := 0) (v := ?vv53) (by rfl) (by kernel_rfl) (by kernel_rfl) (by kernel_rfl) (by intro _ _ _ h; exact h) (Or.inl ⟨by kernel_rfl, ?hy53⟩) (by assumption) ?rest53
  case hy53 =>
    intro w' hSw
    have hSw : Mods (fun y => y ≠ q) w1 w' := hSw
    clear hSw
    go_simp
    try with_reducible rfl
  change wpAnyH _ _ _ _ _ _ _ (Act.put _ (some 39) _) _
  try simp only [Act.put, List.setIfInBounds_toArray, List.set_cons_zero, List.set_cons_succ]
  refine wpAnyH_take (i := 1) (v := ?vv54) (by rfl) (by kernel_rfl) (by kernel_rfl) (by kernel_rfl) (by intro _ _ _ h; exact h) (Or.inl ⟨by kernel_rfl, ?hy54⟩) (by assumption) ?rest54
  case hy54 =>
    intro w' hSw
    have hSw : Mods (fun y => y ≠ q) w1 w' := hSw
    clear hSw
    go_simp
    try with_reducible rfl
  change wpAnyH _ _ _ _ _ _ _ (Act.put _ (some 40) _) _
  try simp only [Act.put, List.setIfInBounds_toArray, List.set_cons_zero, List.set_cons_succ]
  refine wpAnyH_take (i := 2) (v := ?vv55) (by rfl) (by kernel_rfl) (by kernel_rfl) (by kernel_rfl) (by intro _ _ _ h; exact h) (Or.inl ⟨by kernel_rfl, ?hy55⟩) (by assumption) ?rest55
  case hy55 =>
    intro w' hSw
    have hSw : Mods (fun y => y ≠ q) w1 w' := hSw
    have hBq := HQ1.out.mods hSw (fun e => e rfl)
    have hx1 : World.cell? w' ⟨q, 1, none⟩ = some (.string (bstr xa)) := by rw [hBq.cell]; rfl
    clear hSw
    go_simp
    try with_reducible rfl
  change wpAnyH _ _ _ _ _ _ _ (Act.put _ (some 41) _) _
  try simp only [Act.put, List.setIfInBounds_toArray, List.set_cons_zero, List.set_cons_succ]
  refine wpAnyH_take (i := 3) (v := ?vv56) (by rfl) (by kernel_rfl) (by kernel_rfl) (by kernel_rfl) (by intro _ _ _ h; exact h) (Or.inl ⟨by kernel_rfl, ?hy56⟩) (by assumption) ?rest56
  case hy56 =>
    intro w' hSw
    have hSw : Mods (fun y => y ≠ q) w1 w' := hSw
    clear hSw
    go_simp
    try with_reducible rfl
  change wpAnyH _ _ _ _ _ _ _ (Act.put _ (some 42) _) _
  try simp only [Act.put, List.setIfInBounds_toArray, List.set_cons_zero, List.set_cons_succ]
  refine wpAnyH_take (i := 4) (v := ?vv57) (by rfl) (by kernel_rfl) (by kernel_rfl) (by kernel_rfl) (by intro _ _ _ h; exact h) (Or.inl ⟨by kernel_rfl, ?hy57⟩) (by assumption) ?rest57
  case hy57 =>
    intro w' hSw
    have hSw : Mods (fun y => y ≠ q) w1 w' := hSw
    have hBq := HQ1.out.mods hSw (fun e => e rfl)
    have hx3 : World.cell? w' ⟨q, 3, none⟩ = some (.int .i64 xn) := by rw [hBq.cell]; rfl
    clear hSw
    go_simp
    try with_reducible rfl
  change wpAnyH _ _ _ _ _ _ _ (Act.put _ (some 43) _) _
  try simp only [Act.put, List.setIfInBounds_toArray, List.set_cons_zero, List.set_cons_succ]
  refine wpAnyH_take (i := 5) (v := ?vv58) (by rfl) (by kernel_rfl) (by kernel_rfl) (by kernel_rfl) (by intro _ _ _ h; exact h) (Or.inl ⟨by kernel_rfl, ?hy58⟩) (by assumption) ?rest58
  case hy58 =>
    intro w' hSw
    have hSw : Mods (fun y => y ≠ q) w1 w' := hSw
    clear hSw
    go_simp
    try with_reducible rfl
  change wpAnyH _ _ _ _ _ _ _ (Act.put _ (some 44) _) _
  try simp only [Act.put, List.setIfInBounds_toArray, List.set_cons_zero, List.set_cons_succ]
  refine wpAnyH_take (i := 6) (v := ?vv59) (by rfl) (by kernel_rfl) (by kernel_rfl) (by kernel_rfl) (by intro _ _ _ h; exact h) (Or.inl ⟨by kernel_rfl, ?hy59⟩) (by assumption) ?rest59
  case hy59 =>
    intro w' hSw
    have hSw : Mods (fun y => y ≠ q) w1 w' := hSw
    have hBq := HQ1.out.mods hSw (fun e => e rfl)
    have hx2 : World.cell? w' ⟨q, 2, none⟩ = some (.string (bstr xb)) := by rw [hBq.cell]; rfl
    clear hSw
    go_simp
    try with_reducible rfl
  change wpAnyH _ _ _ _ _ _ _ (Act.put _ (some 45) _) _
  try simp only [Act.put, List.setIfInBounds_toArray, List.set_cons_zero, List.set_cons_succ]
  refine wpAnyH_take (i := 9) (v := ?vv60) (by rfl) (by kernel_rfl) (by kernel_rfl) (by kernel_rfl) (by intro _ _ _ h; exact h) (Or.inl ⟨by kernel_rfl, ?hy60⟩) (by assumption) ?rest60
  case hy60 =>
    intro w' hSw
    have hSw : Mods (fun y => y ≠ q) w1 w' := hSw
    clear hSw
    go_simp
    try with_reducible rfl
  change wpAnyH _ _ _ _ _ _ _ (Act.put _ (some 48) _) _
  try simp only [Act.put, List.setIfInBounds_toArray, List.set_cons_zero, List.set_cons_succ]
  refine wpAnyH_take (i := 10) (v := ?vv61) (by rfl) (by kernel_rfl) (by kernel_rfl) (by kernel_rfl) (by intro _ _ _ h; exact h) (Or.inl ⟨by kernel_rfl, ?hy61⟩) (by assumption) ?rest61
  case hy61 =>
    intro w' hSw
    have hSw : Mods (fun y => y ≠ q) w1 w' := hSw
    clear hSw
    go_simp
    try with_reducible rfl
  change wpAnyH _ _ _ _ _ _ _ (Act.put _ (some 49) _) _
  try simp only [Act.put, List.setIfInBounds_toArray, List.set_cons_zero, List.set_cons_succ]
  refine wpAnyH_take (i := 11) (v := ?vv62) (by rfl) (by kernel_rfl) (by kernel_rfl) (by kernel_rfl) (by intro _ _ _ h; exact h) (Or.inl ⟨by kernel_rfl, ?hy62⟩) (by assumption) ?rest62
  case hy62 =>
    intro w' hSw
    have hSw : Mods (fun y => y ≠ q) w1 w' := hSw
    have hBq := HQ1.out.mods hSw (fun e => e rfl)
    have hx1 : World.cell? w' ⟨q, 1, none⟩ = some (.string (bstr xa)) := by rw [hBq.cell]; rfl
    clear hSw
    go_simp
    try with_reducible rfl
  change wpAnyH _ _ _ _ _ _ _ (Act.put _ (some 50) _) _
  try simp only [Act.put, List.setIfInBounds_toArray, List.set_cons_zero, List.set_cons_succ]
  refine wpAnyH_take (i := 12) (v := ?vv63) (by rfl) (by kernel_rfl) (by kernel_rfl) (by kernel_rfl) (by intro _ _ _ h; exact h) (Or.inl ⟨by kernel_rfl, ?hy63⟩) (by assumption) ?rest63
  case hy63 =>
    intro w' hSw
    have hSw : Mods (fun y => y ≠ q) w1 w' := hSw
    clear hSw
    go_simp
    try with_reducible rfl
  change wpAnyH _ _ _ _ _ _ _ (Act.put _ (some 51) _) _
  try simp only [Act.put, List.setIfInBounds_toArray, List.set_cons_zero, List.set_cons_succ]
  refine wpAnyH_take (i := 13) (v := ?vv64) (by rfl) (by kernel_rfl) (by kernel_rfl) (by kernel_rfl) (by intro _ _ _ h; exact h) (Or.inl ⟨by kernel_rfl, ?hy64⟩) (by assumption) ?rest64
  case hy64 =>
    intro w' hSw
    have hSw : Mods (fun y => y ≠ q) w1 w' := hSw
    have hBq := HQ1.out.mods hSw (fun e => e rfl)
    have hx3 : World.cell? w' ⟨q, 3, none⟩ = some (.int .i64 xn) := by rw [hBq.cell]; rfl
    clear hSw
    go_simp
    try with_reducible rfl
  change wpAnyH _ _ _ _ _ _ _ (Act.put _ (some 52) _) _
  try simp only [Act.put, List.setIfInBounds_toArray, List.set_cons_zero, List.set_cons_succ]
  refine wpAnyH_take (i := 14) (v := ?vv65) (by rfl) (by kernel_rfl) (by kernel_rfl) (by kernel_rfl) (by intro _ _ _ h; exact h) (Or.inl ⟨by kernel_rfl, ?hy65⟩) (by assumption) ?rest65
  case hy65 =>
    intro w' hSw
    have hSw : Mods (fun y => y ≠ q) w1 w' := hSw
    clear hSw
    go_simp
    try with_reducible rfl
  change wpAnyH _ _ _ _ _ _ _ (Act.put _ (some 53) _) _
  try simp only [Act.put, List.setIfInBounds_toArray, List.set_cons_zero, List.set_cons_succ]
  refine wpAnyH_take (i := 15) (v := ?vv66) (by rfl) (by kernel_rfl) (by kernel_rfl) (by kernel_rfl) (by intro _ _ _ h; exact h) (Or.inl ⟨by kernel_rfl, ?hy66⟩) (by assumption) ?rest66
  case hy66 =>
    intro w' hSw
    have hSw : Mods (fun y => y ≠ q) w1 w' := hSw
    have hBq := HQ1.out.mods hSw (fun e => e rfl)
    have hx2 : World.cell? w' ⟨q, 2, none⟩ = some (.string (bstr xb)) := by rw [hBq.cell]; rfl
    clear hSw
    go_simp
    try with_reducible rfl
  change wpAnyH _ _ _ _ _ _ _ (Act.put _ (some 54) _) _
  try simp only [Act.put, List.setIfInBounds_toArray, List.set_cons_zero, List.set_cons_succ]
  refine wpAnyH_ready (rs := [7, 16]) (by kernel_rfl) (by simp) ?_
  refine AllReadyH.cons (o := _) rfl (fun K hK => ?_) ?_
  · obtain ⟨c7, z7, hcv7, hrow7, hk7, hz7⟩ := str_bytes_lt (P := Try.prog) xs Try.underlying22 Try.underlying5 Try.underlying9 (bstr xb) (by rw [hzb]; omega)
    rw [hzb] at hcv7 hrow7
    rw [bstr_data] at hrow7
    go_simp
    obtain ⟨b7, hb7⟩ : ∃ b, b = (World.heap xs).size := ⟨_, rfl⟩
    have hge7 : (World.heap xs).size ≤ b7 := Nat.le_of_eq hb7.symm
    have HT := Lib.hid (HT.out.aside hk7 hge7 (by rw [hb7]; exact hz7))
    rw [← hb7] at hrow7 ⊢
    have HB7 := Lib.hid hrow7
    have hb := hHeld.trans (Mods.of_keeps (S := fun y => y ≠ q) hk7) (fun y hy _ => hy)
    clear hcv7 hrow7 hk7 hb7 hz7 hge7
    refine hK.out _ _ hb (fun _ => ?_)
    clear hK K hHeld
    have hHeld : Mods (fun y => y ≠ q) w1 z7 := hb
    clear hb
    try simp only [Act.put, List.setIfInBounds_toArray, List.set_cons_zero, List.set_cons_succ]
    refine wpAnyH_ready (rs := [8, 16]) (by kernel_rfl) (by simp) ?_
    refine AllReadyH.cons (o := _) rfl (fun K hK => ?_) ?_
    · go_simp
      refine (pwrite_two HT.out (by omega) xa (by omega) xn HWN.out (fun T w' hT hm => HT.out.row hm hT (by simp) HB7.out) (by omega)).mono ?_
      rintro e y1 ⟨rfl, h2, hm2⟩
      have HT := Lib.hid h2
      have hb := hHeld.trans hm2 (fun y hy _ e => hy.2 (by rw [e]; simp))
      clear h2 hm2 HB7
      go_wp2_with fail
      refine hK.out _ _ hb (fun _ => ?_)
      clear hK K hHeld
      have hHeld : Mods (fun y => y ≠ q) w1 y1 := hb
      clear hb
      try simp only [Act.put, List.setIfInBounds_toArray, List.set_cons_zero, List.set_cons_succ]
      refine wpAnyH_ready (rs := [16]) (by kernel_rfl) (by simp) ?_
      refine AllReadyH.cons (o := _) rfl (fun K hK => ?_) ?_
      · obtain ⟨c16, z16, hcv16, hrow16, hk16, hz16⟩ := str_bytes_lt (P := Try.prog) y1 Try.underlying22 Try.underlying5 Try.underlying9 (bstr xb) (by rw [hzb]; omega)
        rw [hzb] at hcv16 hrow16
        rw [bstr_data] at hrow16
        go_simp
        obtain ⟨b16, hb16⟩ : ∃ b, b = (World.heap y1).size := ⟨_, rfl⟩
        have hge16 : (World.heap y1).size ≤ b16 := Nat.le_of_eq hb16.symm
        have HT := Lib.hid (HT.out.aside hk16 hge16 (by rw [hb16]; exact hz16))
        rw [← hb16] at hrow16 ⊢
        have HB16 := Lib.hid hrow16
        have hb := hHeld.trans (Mods.of_keeps (S := fun y => y ≠ q) hk16) (fun y hy _ => hy)
        clear hcv16 hrow16 hk16 hb16 hz16 hge16
        refine hK.out _ _ hb (fun _ => ?_)
        clear hK K hHeld
        have hHeld : Mods (fun y => y ≠ q) w1 z16 := hb
        clear hb
        try simp only [Act.put, List.setIfInBounds_toArray, List.set_cons_zero, List.set_cons_succ]
        refine wpAnyH_ready (rs := [17]) (by kernel_rfl) (by simp) ?_
        refine AllReadyH.cons (o := _) rfl (fun K hK => ?_) ?_
        · go_simp
          refine (rpwrite_two HT.out (by omega) xa xn HB16.out (by omega)).mono ?_
          rintro e y2 ⟨rfl, h2, hm2⟩
          have HT := Lib.hid h2
          have hb := hHeld.trans hm2 (fun y hy _ e => hy.2 (by rw [e]; simp))
          clear h2 hm2
          go_wp2_with fail
          refine hK.out _ _ hb (fun _ => ?_)
          clear hK K hHeld
          have hHeld : Mods (fun y => y ≠ q) w1 y2 := hb
          clear hb
          try simp only [Act.put, List.setIfInBounds_toArray, List.set_cons_zero, List.set_cons_succ]
          refine wpAnyH_take (i := 18) (v := ?vv67) (by rfl) (by kernel_rfl) (by kernel_rfl) (by kernel_rfl) (by intro _ _ _ h; exact h) (Or.inl ⟨by kernel_rfl, ?hy67⟩) (by assumption) ?rest67
          case hy67 =>
            intro w' hSw
            have hSw : Mods (fun y => y ≠ q) w1 w' := hSw
            clear hSw
            go_simp
            try with_reducible rfl
          change wpAnyH _ _ _ _ _ _ _ (Act.put _ (some 57) _) _
          try simp only [Act.put, List.setIfInBounds_toArray, List.set_cons_zero, List.set_cons_succ]
          refine wpAnyH_take (i := 19) (v := ?vv68) (by rfl) (by kernel_rfl) (by kernel_rfl) (by kernel_rfl) (by intro _ _ _ h; exact h) (Or.inl ⟨by kernel_rfl, ?hy68⟩) (by assumption) ?rest68
          case hy68 =>
            intro w' hSw
            have hSw : Mods (fun y => y ≠ q) w1 w' := hSw
            clear hSw
            go_simp
            try with_reducible rfl
          change wpAnyH _ _ _ _ _ _ _ (Act.put _ (some 6) _) _
          try simp only [Act.put, List.setIfInBounds_toArray, List.set_cons_zero, List.set_cons_succ]
          refine wpAnyH_done (by kernel_rfl) ?_ _
          refine NoPanic.normal ?_
          go_wp2_with fail
          go_ret
          exact ⟨_, _, rfl, (HT.out.drop (fun y hy => absurd hy (List.not_mem_nil))).more (by omega)⟩
        exact AllReadyH.nil
      exact AllReadyH.nil
    refine AllReadyH.cons (o := _) rfl (fun K hK => ?_) ?_
    · obtain ⟨c16, z16, hcv16, hrow16, hk16, hz16⟩ := str_bytes_lt (P := Try.prog) z7 Try.underlying22 Try.underlying5 Try.underlying9 (bstr xb) (by rw [hzb]; omega)
      rw [hzb] at hcv16 hrow16
      rw [bstr_data] at hrow16
      go_simp
      obtain ⟨b16, hb16⟩ : ∃ b, b = (World.heap z7).size := ⟨_, rfl⟩
      have hge16 : (World.heap z7).size ≤ b16 := Nat.le_of_eq hb16.symm
      have HT := Lib.hid (HT.out.aside hk16 hge16 (by rw [hb16]; exact hz16))
      rw [← hb16] at hrow16 ⊢
      have HB16 := Lib.hid hrow16
      have HB7 := Lib.hid (HB7.out.keeps hk16)
      have hb := hHeld.trans (Mods.of_keeps (S := fun y => y ≠ q) hk16) (fun y hy _ => hy)
      clear hcv16 hrow16 hk16 hb16 hz16 hge16
      refine hK.out _ _ hb (fun _ => ?_)
      clear hK K hHeld
      have hHeld : Mods (fun y => y ≠ q) w1 z16 := hb
      clear hb
      try simp only [Act.put, List.setIfInBounds_toArray, List.set_cons_zero, List.set_cons_succ]
      refine wpAnyH_ready (rs := [8]) (by kernel_rfl) (by simp) ?_
      refine AllReadyH.cons (o := _) rfl (fun K hK => ?_) ?_
      · go_simp
        refine (pwrite_two HT.out (by omega) xa (by omega) xn HWN.out (fun T w' hT hm => HT.out.row hm hT (by simp) HB7.out) (by omega)).mono ?_
        rintro e y1 ⟨rfl, h2, hm2⟩
        have HB16 := Lib.hid (HT.out.row hm2 (fun y hy => hy) (by simp) HB16.out)
        have HT := Lib.hid h2
        have hb := hHeld.trans hm2 (fun y hy _ e => hy.2 (by rw [e]; simp))
        clear h2 hm2 HB7
        go_wp2_with fail
        refine hK.out _ _ hb (fun _ => ?_)
        clear hK K hHeld
        have hHeld : Mods (fun y => y ≠ q) w1 y1 := hb
        clear hb
        try simp only [Act.put, List.setIfInBounds_toArray, List.set_cons_zero, List.set_cons_succ]
        refine wpAnyH_ready (rs := [17]) (by kernel_rfl) (by simp) ?_
        refine AllReadyH.cons (o := _) rfl (fun K hK => ?_) ?_
        · go_simp
          refine (rpwrite_two HT.out (by omega) xa xn HB16.out (by omega)).mono ?_
          rintro e y2 ⟨rfl, h2, hm2⟩
          have HT := Lib.hid h2
          have hb := hHeld.trans hm2 (fun y hy _ e => hy.2 (by rw [e]; simp))
          clear h2 hm2
          go_wp2_with fail
          refine hK.out _ _ hb (fun _ => ?_)
          clear hK K hHeld
          have hHeld : Mods (fun y => y ≠ q) w1 y2 := hb
          clear hb
          try simp only [Act.put, List.setIfInBounds_toArray, List.set_cons_zero, List.set_cons_succ]
          refine wpAnyH_take (i := 18) (v := ?vv69) (by rfl) (by kernel_rfl) (by kernel_rfl) (by kernel_rfl) (by intro _ _ _ h; exact h) (Or.inl ⟨by kernel_rfl, ?hy69⟩) (by assumption) ?rest69
          case hy69 =>
            intro w' hSw
            have hSw : Mods (fun y => y ≠ q) w1 w' := hSw
            clear hSw
            go_simp
            try with_reducible rfl
          change wpAnyH _ _ _ _ _ _ _ (Act.put _ (some 57) _) _
          try simp only [Act.put, List.setIfInBounds_toArray, List.set_cons_zero, List.set_cons_succ]
          refine wpAnyH_take (i := 19) (v := ?vv70) (by rfl) (by kernel_rfl) (by kernel_rfl) (by kernel_rfl) (by intro _ _ _ h; exact h) (Or.inl ⟨by kernel_rfl, ?hy70⟩) (by assumption) ?rest70
          case hy70 =>
            intro w' hSw
            have hSw : Mods (fun y => y ≠ q) w1 w' := hSw
            clear hSw
            go_simp
            try with_reducible rfl
          change wpAnyH _ _ _ _ _ _ _ (Act.put _ (some 6) _) _
          try simp only [Act.put, List.setIfInBounds_toArray, List.set_cons_zero, List.set_cons_succ]
          refine wpAnyH_done (by kernel_rfl) ?_ _
          refine NoPanic.normal ?_
          go_wp2_with fail
          go_ret
          exact ⟨_, _, rfl, (HT.out.drop (fun y hy => absurd hy (List.not_mem_nil))).more (by omega)⟩
        exact AllReadyH.nil
      exact AllReadyH.nil
    exact AllReadyH.nil
  refine AllReadyH.cons (o := _) rfl (fun K hK => ?_) ?_
  · obtain ⟨c16, z16, hcv16, hrow16, hk16, hz16⟩ := str_bytes_lt (P := Try.prog) xs Try.underlying22 Try.underlying5 Try.underlying9 (bstr xb) (by rw [hzb]; omega)
    rw [hzb] at hcv16 hrow16
    rw [bstr_data] at hrow16
    go_simp
    obtain ⟨b16, hb16⟩ : ∃ b, b = (World.heap xs).size := ⟨_, rfl⟩
    have hge16 : (World.heap xs).size ≤ b16 := Nat.le_of_eq hb16.symm
    have HT := Lib.hid (HT.out.aside hk16 hge16 (by rw [hb16]; exact hz16))
    rw [← hb16] at hrow16 ⊢
    have HB16 := Lib.hid hrow16
    have hb := hHeld.trans (Mods.of_keeps (S := fun y => y ≠ q) hk16) (fun y hy _ => hy)
    clear hcv16 hrow16 hk16 hb16 hz16 hge16
    refine hK.out _ _ hb (fun _ => ?_)
    clear hK K hHeld
    have hHeld : Mods (fun y => y ≠ q) w1 z16 := hb
    clear hb
    try simp only [Act.put, List.setIfInBounds_toArray, List.set_cons_zero, List.set_cons_succ]
    refine wpAnyH_ready (rs := [7]) (by kernel_rfl) (by simp) ?_
    refine AllReadyH.cons (o := _) rfl (fun K hK => ?_) ?_
    · obtain ⟨c7, z7, hcv7, hrow7, hk7, hz7⟩ := str_bytes_lt (P := Try.prog) z16 Try.underlying22 Try.underlying5 Try.underlying9 (bstr xb) (by rw [hzb]; omega)
      rw [hzb] at hcv7 hrow7
      rw [bstr_data] at hrow7
      go_simp
      obtain ⟨b7, hb7⟩ : ∃ b, b = (World.heap z16).size := ⟨_, rfl⟩
      have hge7 : (World.heap z16).size ≤ b7 := Nat.le_of_eq hb7.symm
      have HT := Lib.hid (HT.out.aside hk7 hge7 (by rw [hb7]; exact hz7))
      rw [← hb7] at hrow7 ⊢
      have HB7 := Lib.hid hrow7
      have HB16 := Lib.hid (HB16.out.keeps hk7)
      have hb := hHeld.trans (Mods.of_keeps (S := fun y => y ≠ q) hk7) (fun y hy _ => hy)
      clear hcv7 hrow7 hk7 hb7 hz7 hge7
      refine hK.out _ _ hb (fun _ => ?_)
      clear hK K hHeld
      have hHeld : Mods (fun y => y ≠ q) w1 z7 := hb
      clear hb
      try simp only [Act.put, List.setIfInBounds_toArray, List.set_cons_zero, List.set_cons_succ]
      refine wpAnyH_ready (rs := [8]) (by kernel_rfl) (by simp) ?_
      refine AllReadyH.cons (o := _) rfl (fun K hK => ?_) ?_
      · go_simp
        refine (pwrite_two HT.out (by omega) xa (by omega) xn HWN.out (fun T w' hT hm => HT.out.row hm hT (by simp) HB7.out) (by omega)).mono ?_
        rintro e y1 ⟨rfl, h2, hm2⟩
        have HB16 := Lib.hid (HT.out.row hm2 (fun y hy => hy) (by simp) HB16.out)
        have HT := Lib.hid h2
        have hb := hHeld.trans hm2 (fun y hy _ e => hy.2 (by rw [e]; simp))
        clear h2 hm2 HB7
        go_wp2_with fail
        refine hK.out _ _ hb (fun _ => ?_)
        clear hK K hHeld
        have hHeld : Mods (fun y => y ≠ q) w1 y1 := hb
        clear hb
        try simp only [Act.put, List.setIfInBounds_toArray, List.set_cons_zero, List.set_cons_succ]
        refine wpAnyH_ready (rs := [17]) (by kernel_rfl) (by simp) ?_
        refine AllReadyH.cons (o := _) rfl (fun K hK => ?_) ?_
        · go_simp
          refine (rpwrite_two HT.out (by omega) xa xn HB16.out (by omega)).mono ?_
          rintro e y2 ⟨rfl, h2, hm2⟩
          have HT := Lib.hid h2
          have hb := hHeld.trans hm2 (fun y hy _ e => hy.2 (by rw [e]; simp))
          clear h2 hm2
          go_wp2_with fail
          refine hK.out _ _ hb (fun _ => ?_)
          clear hK K hHeld
          have hHeld : Mods (fun y => y ≠ q) w1 y2 := hb
          clear hb
          try simp only [Act.put, List.setIfInBounds_toArray, List.set_cons_zero, List.set_cons_succ]
          refine wpAnyH_take (i := 18) (v := ?vv71) (by rfl) (by kernel_rfl) (by kernel_rfl) (by kernel_rfl) (by intro _ _ _ h; exact h) (Or.inl ⟨by kernel_rfl, ?hy71⟩) (by assumption) ?rest71
          case hy71 =>
            intro w' hSw
            have hSw : Mods (fun y => y ≠ q) w1 w' := hSw
            clear hSw
            go_simp
            try with_reducible rfl
          change wpAnyH _ _ _ _ _ _ _ (Act.put _ (some 57) _) _
          try simp only [Act.put, List.setIfInBounds_toArray, List.set_cons_zero, List.set_cons_succ]
          refine wpAnyH_take (i := 19) (v := ?vv72) (by rfl) (by kernel_rfl) (by kernel_rfl) (by kernel_rfl) (by intro _ _ _ h; exact h) (Or.inl ⟨by kernel_rfl, ?hy72⟩) (by assumption) ?rest72
          case hy72 =>
            intro w' hSw
            have hSw : Mods (fun y => y ≠ q) w1 w' := hSw
            clear hSw
            go_simp
            try with_reducible rfl
          change wpAnyH _ _ _ _ _ _ _ (Act.put _ (some 6) _) _
          try simp only [Act.put, List.setIfInBounds_toArray, List.set_cons_zero, List.set_cons_succ]
          refine wpAnyH_done (by kernel_rfl) ?_ _
          refine NoPanic.normal ?_
          go_wp2_with fail
          go_ret
          exact ⟨_, _, rfl, (HT.out.drop (fun y hy => absurd hy (List.not_mem_nil))).more (by omega)⟩
        exact AllReadyH.nil
      exact AllReadyH.nil
    exact AllReadyH.nil
  exact AllReadyH.nil
set_option maxRecDepth 100000 in
set_option maxHeartbeats 4000000 in
theorem do7_any (h : TwoAt [] W w g d m r k) (hk : k ≤ 80000) (xk : Int) (hkind : xk = 7) (xa xb : Str) (xn xc : Int) (pk : Option Addr) (nk ck : Nat) (hxa : xa.length ≤ 1000) (hxb : xb.length ≤ 1000) (hxn : (Lit.int .i64 xn).wf = true) : Calls Try.prog 19 #[.pointer (some ⟨g, 0, none⟩), .pointer (some ⟨m, 0, none⟩), .agg #[.int .i64 xk, .string (bstr xa), .string (bstr xb), .int .i64 xn, .int .i64 xc, .slice pk nk ck]] w (TwoDo W g ({ d with fail := failT xn xc }) m (k + 6)) := by
  have H := Lib.hid h
  have HWN := Lib.hid hxn
  have hni := wf_in hxn
  have hza := bstr_size xa
  have hzb := bstr_size xb
  have hml : (1000 : Nat) ≤ maxLen := by decide
  clear h hxn
  subst hkind
  go_enter Try.func19, Try.ntmps19
  go_upto_region 17 with fail
  generalize hW : World.alloc w _ = w1
  have HK1 := Lib.hid (show Keeps w w1 from by rw [← hW]; exact (Keeps.refl _).alloc _)
  have HQ1 := Lib.hid (show Blk w1 w.heap.size 36 #[.int .i64 7, .string (bstr xa), .string (bstr xb), .int .i64 xn, .int .i64 xc, .slice pk nk ck] from by rw [← hW]; exact Blk.new _ _ _ rfl)
  clear hW
  have HT1 := Lib.hid (H.out.aside HK1.out (Nat.le_refl _) HQ1.out.lt)
  obtain ⟨q, hq⟩ : ∃ q, q = w.heap.size := ⟨_, rfl⟩
  rw [← hq] at HQ1 HT1 ⊢
  clear hq
  have hq3 : w1.cell? ⟨q, 3, none⟩ = some (.int .i64 xn) := by rw [HQ1.out.cell]; rfl
  have hq4 : w1.cell? ⟨q, 4, none⟩ = some (.int .i64 xc) := by rw [HQ1.out.cell]; rfl
  go_wp2_with fail
  refine (fail_two HT1.out xn xc).mono ?_
  rintro e y1 ⟨rfl, h2, hm2⟩
  have HT := Lib.hid h2
  clear hq3 hq4
  have HQ2 := Lib.hid (HQ1.out.mods hm2 (fun hy => hy.2 (by simp)))
  obtain ⟨fv, nv, sv, wv, hB⟩ := HT.out.counter
  have hcO : y1.cell? ⟨m, 7, none⟩ = some (.int .i64 r.fail) := by rw [hB.cell]; rfl
  have hzO : y1.frozen? ⟨m, 7, none⟩ = false := hB.frozen _
  have hq3 : y1.cell? ⟨q, 3, none⟩ = some (.int .i64 xn) := by rw [HQ2.out.cell]; rfl
  have hq4 : y1.cell? ⟨q, 4, none⟩ = some (.int .i64 xc) := by rw [HQ2.out.cell]; rfl
  clear hB h2 hm2
  go_upto_region 18 with fail
  have HFL := Lib.hid (failing_r (w := y1) xn xc)
  go_wp2_with fail
  refine HFL.out.mono ?_
  rintro e y2 ⟨rfl, rfl⟩
  have HP := Lib.hid (HT.out.put (o := 7) (v := .int .i64 (failingR xn xc)) (fail := failingR xn xc) (crash := r.crash) (err := r.err) (fun _ _ _ _ => rfl) (failingR_in hni) HT.out.traps.2)
  clear HFL
  go_upto_region 19 with fail
  have HTP := Lib.hid HP.out.1
  have HQ3 := Lib.hid (HQ2.out.mods HP.out.2 (fun hy => hy.2 (by simp)))
  clear HP hcO hzO hq3 hq4 HT
  generalize World.setCell _ ⟨m, 7, none⟩ _ = y3 at *
  obtain ⟨fv, nv, sv, wv, hB⟩ := HTP.out.counter
  have hcO : y3.cell? ⟨m, 9, none⟩ = some (.int .i64 r.err) := by rw [hB.cell]; rfl
  have hzO : y3.frozen? ⟨m, 9, none⟩ = false := hB.frozen _
  have hq4 : y3.cell? ⟨q, 4, none⟩ = some (.int .i64 xc) := by rw [HQ3.out.cell]; rfl
  clear hB
  go_wp2_with fail
  go_ret
  exact ⟨_, _, rfl, ((HTP.out.put (o := 9) (v := .int .i64 xc) (fail := failingR xn xc) (crash := r.crash) (err := xc) (fun _ _ _ _ => rfl) (failingR_in hni) HTP.out.traps.2).1.drop (fun y hy => absurd hy (List.not_mem_nil))).more (by omega)⟩
set_option maxRecDepth 100000 in
set_option maxHeartbeats 4000000 in
theorem do8_any (h : TwoAt [] W w g d m r k) (hk : k ≤ 80000) (xk : Int) (hkind : xk = 8) (xa xb : Str) (xn xc : Int) (pk : Option Addr) (nk ck : Nat) (hxa : xa.length ≤ 1000) (hxb : xb.length ≤ 1000) (hxn : (Lit.int .i64 xn).wf = true) : Calls Try.prog 19 #[.pointer (some ⟨g, 0, none⟩), .pointer (some ⟨m, 0, none⟩), .agg #[.int .i64 xk, .string (bstr xa), .string (bstr xb), .int .i64 xn, .int .i64 xc, .slice pk nk ck]] w (TwoDo W g ({ d with crash := setT xn 11 }) m (k + 6)) := by
  have H := Lib.hid h
  have HWN := Lib.hid hxn
  have hni := wf_in hxn
  have hza := bstr_size xa
  have hzb := bstr_size xb
  have hml : (1000 : Nat) ≤ maxLen := by decide
  clear h hxn
  subst hkind
  go_enter Try.func19, Try.ntmps19
  go_upto_region 21 with fail
  generalize hW : World.alloc w _ = w1
  have HK1 := Lib.hid (show Keeps w w1 from by rw [← hW]; exact (Keeps.refl _).alloc _)
  have HQ1 := Lib.hid (show Blk w1 w.heap.size 36 #[.int .i64 8, .string (bstr xa), .string (bstr xb), .int .i64 xn, .int .i64 xc, .slice pk nk ck] from by rw [← hW]; exact Blk.new _ _ _ rfl)
  clear hW
  have HT1 := Lib.hid (H.out.aside HK1.out (Nat.le_refl _) HQ1.out.lt)
  obtain ⟨q, hq⟩ : ∃ q, q = w.heap.size := ⟨_, rfl⟩
  rw [← hq] at HQ1 HT1 ⊢
  clear hq
  have hq3 : w1.cell? ⟨q, 3, none⟩ = some (.int .i64 xn) := by rw [HQ1.out.cell]; rfl
  go_wp2_with fail
  refine (crash_two HT1.out xn).mono ?_
  rintro e y1 ⟨rfl, h2, hm2⟩
  have HT := Lib.hid h2
  clear hq3
  have HQ2 := Lib.hid (HQ1.out.mods hm2 (fun hy => hy.2 (by simp)))
  obtain ⟨fv, nv, sv, wv, hB⟩ := HT.out.counter
  have hcO : y1.cell? ⟨m, 8, none⟩ = some (.int .i64 r.crash) := by rw [hB.cell]; rfl
  have hzO : y1.frozen? ⟨m, 8, none⟩ = false := hB.frozen _
  have hq3 : y1.cell? ⟨q, 3, none⟩ = some (.int .i64 xn) := by rw [HQ2.out.cell]; rfl
  have hq4 : y1.cell? ⟨q, 4, none⟩ = some (.int .i64 xc) := by rw [HQ2.out.cell]; rfl
  clear hB h2 hm2
  go_upto_region 22 with fail
  have HFL := Lib.hid (arm_r (w := y1) xn 11)
  go_wp2_with fail
  refine HFL.out.mono ?_
  rintro e y2 ⟨rfl, rfl⟩
  have HP := Lib.hid (HT.out.put (o := 8) (v := .int .i64 (armR xn 11)) (fail := r.fail) (crash := armR xn 11) (err := r.err) (fun _ _ _ _ => rfl) HT.out.traps.1 (armR_in hni))
  clear HFL
  go_wp2_with fail
  go_ret
  exact ⟨_, _, rfl, (HP.out.1.drop (fun y hy => absurd hy (List.not_mem_nil))).more (by omega)⟩
set_option maxRecDepth 100000 in
set_option maxHeartbeats 4000000 in
theorem do9_any (h : TwoAt [] W w g d m r k) (hk : k ≤ 80000) (xk : Int) (hkind : xk < 0 ∨ 9 < xk) (xa xb : Str) (xn xc : Int) (pk : Option Addr) (nk ck : Nat) (hxa : xa.length ≤ 1000) (hxb : xb.length ≤ 1000) (hxn : (Lit.int .i64 xn).wf = true) : Calls Try.prog 19 #[.pointer (some ⟨g, 0, none⟩), .pointer (some ⟨m, 0, none⟩), .agg #[.int .i64 xk, .string (bstr xa), .string (bstr xb), .int .i64 xn, .int .i64 xc, .slice pk nk ck]] w (TwoDo W g (d) m (k + 6)) := by
  have H := Lib.hid h
  have HWN := Lib.hid hxn
  have hni := wf_in hxn
  have hza := bstr_size xa
  have hzb := bstr_size xb
  have hml : (1000 : Nat) ≤ maxLen := by decide
  clear h hxn
  have e0 : (xk == 0) = false := by simp; omega
  have e1 : (xk == 1) = false := by simp; omega
  have e2 : (xk == 2) = false := by simp; omega
  have e3 : (xk == 3) = false := by simp; omega
  have e4 : (xk == 4) = false := by simp; omega
  have e5 : (xk == 5) = false := by simp; omega
  have e6 : (xk == 6) = false := by simp; omega
  have e7 : (xk == 7) = false := by simp; omega
  have e8 : (xk == 8) = false := by simp; omega
  have e9 : (xk == 9) = false := by simp; omega
  clear hkind
  go_enter Try.func19, Try.ntmps19
  go_wp2_with fail
  go_ret
  exact ⟨_, _, rfl, (H.out.keeps ((Keeps.refl _).alloc _)).more (by omega)⟩
end
end Rf
end Go.Proofs.Ytchjncnolmiejaa

/- law16's do: the two disks answer alike, and are alike behind it. (MADE BY gen_sado.py.) -/
import Derived.Test.YtchjncnolmiejaaGreatK47
import Derived.Test.YtchjncnolmiejaaGreatK49
import Derived.Test.YtchjncnolmiejaaGreatFrameMost
namespace Go.Proofs.YtchjncnolmiejaaGreat
open Go.RowKit
namespace Sa
open Vd Rf Sf Rs
open Go.Maps
theorem bstr_data (l : List UInt8) : (bstr l).data.toList = l := by simp [bstr]
theorem wf_in {n : Int} (h : (Lit.int .i64 n).wf = true) : -9223372036854775808 ≤ n ∧ n ≤ 9223372036854775807 := by simpa [Lit.wf, IntKind.min, IntKind.max, IntKind.signed, IntKind.bits] using h
theorem armR_in {n e : Int} (h : -9223372036854775808 ≤ n ∧ n ≤ 9223372036854775807) : -1 ≤ armR n e ∧ armR n e ≤ 9223372036854775807 := by
  unfold armR
  split <;> omega
theorem failingR_in {n e : Int} (h : -9223372036854775808 ≤ n ∧ n ≤ 9223372036854775807) : -1 ≤ failingR n e ∧ failingR n e ≤ 9223372036854775807 := by
  unfold failingR
  split
  · omega
  · exact armR_in h
theorem str_bytes_lt {P : Program} (w : World) {t e u : TypeId} (ht : P.underlying t = some (.slice e)) (he : P.underlying e = some (.int .u8)) (hu : P.underlying u = some .string) (s : ByteArray) (hs : s.size ≤ maxLen) :
    ∃ c w', (convert u t (.string s)).run P w = .ok (.slice (some ⟨w.heap.size, 0, none⟩) s.size c) w' ∧ Row w' (.slice (some ⟨w.heap.size, 0, none⟩) s.size c) (s.data.toList.map u8v) ∧ Keeps w w' ∧ w.heap.size < w'.heap.size := by
  obtain ⟨c, w', h1, h2, h3⟩ := str_bytes w ht he hu s hs
  refine ⟨c, w', h1, h2, h3, ?_⟩
  have h4 := Lib.run_convert_string_bytes w u t e s hu ht he
  rw [h1] at h4
  simp only [Result.ok.injEq] at h4
  rw [h4.2, Lib.bytesWorld_size]
  omega
theorem traps {L : List Nat} {W w : World} {g m : Nat} {d : Dsk} {r : RDsk} {k : Nat} (h : TwoAt L W w g d m r k) : (-1 ≤ r.fail ∧ r.fail ≤ 9223372036854775807) ∧ (-1 ≤ r.crash ∧ r.crash ≤ 9223372036854775807) := by
  obtain ⟨S, M, h⟩ := h
  obtain ⟨fv, nv, sv, wv, fw, hh⟩ := h.ref
  exact ⟨hh.fit.t1, hh.fit.t2⟩
theorem stayW {L : List Nat} {W w : World} {g m : Nat} {d : Dsk} {r : RDsk} {k : Nat} (h : TwoAt L W w g d m r k) {v : Value} {l : List Value} (hr : Row W v l) : Stay2 L W w v l := fun T _ hT hm => hr.keeps (hm.keeps h.kp (fun y hy => (hT y hy).1))
theorem stayB {L : List Nat} {W w : World} {b n c : Nat} {l : List Value} (hb : b ∈ L) (hr : Row w (.slice (some ⟨b, 0, none⟩) n c) l) : Stay2 L W w (.slice (some ⟨b, 0, none⟩) n c) l := fun T _ hT hm => row_modsB hr hm (fun hh => (hT b hh).2 hb)
/-- one answer, alike behind it -/
def SaDid (W : World) (g m n k c : Nat) (e : Ending) (w' : World) : Prop := ∃ d' r', e = .returned (.bool true) ∧ TwoAt [] W w' g d' m r' k ∧ DR d' r' c ∧ d'.nodes.length ≤ n
theorem ret_true {a b : Int} (h : a = b) : Ending.returned (.bool (a == b)) = Ending.returned (.bool true) := by subst h; simp
theorem ret_trueB {a b : Bool} (h : a = b) : Ending.returned (.bool (a == b)) = Ending.returned (.bool true) := by subst h; simp
section
variable {W w : World} {g m : Nat} {d : Dsk} {r : RDsk} {k c : Nat}
set_option maxRecDepth 100000 in
set_option maxHeartbeats 8000000 in
theorem do0_any (h : TwoAt [] W w g d m r k) (hd : DR d r c) (hk : k ≤ 80000) (hc : c ≤ 1000000) (hn : d.nodes.length ≤ 60) (xk : Int) (hkind : xk = 0) (xa xb : Str) (xn xc : Int) (pk : Option Addr) (nk ck : Nat) (keep : List Int) (hxa : xa.length ≤ 100) (hxb : xb.length ≤ 1000) (hxn : (Lit.int .i64 xn).wf = true) (hrow : Row W (.slice pk nk ck) (keep.map (Value.int .i64))) : Calls Tryz.prog 27 #[.pointer (some ⟨g, 0, none⟩), .pointer (some ⟨m, 0, none⟩), .agg #[.int .i64 xk, .string (bstr xa), .string (bstr xb), .int .i64 xn, .int .i64 xc, .slice pk nk ck]] w (SaDid W g m (d.nodes.length + 1) (k + 300) (c + 100)) := by
  have H := Lib.hid h
  have HD := Lib.hid hd
  have HWN := Lib.hid hxn
  have HRK := Lib.hid hrow
  have hni := wf_in hxn
  have hzb := bstr_size xb
  have hml : (1000 : Nat) ≤ maxLen := by decide
  clear h hd hxn hrow
  subst hkind
  go_enter Tryz.func27, Tryz.ntmps27
  go_upto_region 1 with fail
  generalize hW : World.alloc w _ = w1
  have HK1 := Lib.hid (show Keeps w w1 from by rw [← hW]; exact (Keeps.refl _).alloc _)
  have HQ1 := Lib.hid (show Blk w1 w.heap.size 68 #[.int .i64 0, .string (bstr xa), .string (bstr xb), .int .i64 xn, .int .i64 xc, .slice pk nk ck] from by rw [← hW]; exact Blk.new _ _ _ rfl)
  clear hW
  have HT1 := Lib.hid (H.out.aside HK1.out (Nat.le_refl _) HQ1.out.lt)
  obtain ⟨q, hq⟩ : ∃ q, q = w.heap.size := ⟨_, rfl⟩
  rw [← hq] at HQ1 HT1 ⊢
  clear hq
  obtain ⟨cb, w2, hcv, hrowb, hk2, hz2⟩ := str_bytes_lt (P := Tryz.prog) w1 Tryz.underlying22 Tryz.underlying5 Tryz.underlying9 (bstr xb) (by rw [hzb]; omega)
  rw [hzb] at hcv hrowb
  rw [bstr_data] at hrowb
  have b2 : w1.cell? ⟨q, 2, none⟩ = some (.string (bstr xb)) := by rw [HQ1.out.cell]; rfl
  obtain ⟨bb, hbb⟩ : ∃ z, z = w1.heap.size := ⟨_, rfl⟩
  have HT2 := Lib.hid (HT1.out.aside hk2 (Nat.le_of_eq hbb.symm) (by rw [hbb]; exact hz2))
  rw [← hbb] at hcv hrowb
  have HST := Lib.hid (stayB (L := [bb, q]) (W := W) (List.mem_cons_self ..) hrowb)
  have HQ2 := Lib.hid (HQ1.out.keeps hk2)
  clear hrowb hk2 hz2 hbb
  go_upto_region 2 with fail
  clear hcv b2
  have k0 : w2.cell? ⟨q, 0, none⟩ = some (.int .i64 0) := by rw [HQ2.out.cell]; rfl
  have HAL := Lib.hid (append_al xa xb d r c (by omega) HD.out)
  go_upto_region 4 with fail
  clear k0
  have HT := Lib.hid (HT2.out.keeps (Keeps.refl w2).drew)
  have HMM := Lib.hid (show Mods (fun y => W.heap.size ≤ y ∧ y ∉ [bb, q]) w2 w2.drew from Mods.of_keeps (Keeps.refl w2).drew)
  refine wp_region_noPanic ?_
  refine wp_region_held_drew (S := fun w' => Mods (fun y => y ≠ q) w2 w') (by kernel_rfl) ((Mods.refl (fun y => y ≠ q) w2).drew) (fun _ => ?_)
  have hHeld : Mods (fun y => y ≠ q) w2 (w2).drew := (Mods.refl (fun y => y ≠ q) w2).drew
  generalize World.drew w2 = xs at *
  refine wpAnyH_take (i := 0) (v := ?vv1) (by rfl) (by kernel_rfl) (by kernel_rfl) (by kernel_rfl) (by intro _ _ _ h; exact h) (Or.inl ⟨by kernel_rfl, ?hy1⟩) (by assumption) ?rest1
  case hy1 =>
    intro w' hSw
    have hSw : Mods (fun y => y ≠ q) w2 w' := hSw
    clear hSw
    go_simp
    try with_reducible rfl
  change wpAnyH _ _ _ _ _ _ _ (Act.put _ (some 15) _) _
  try simp only [Act.put, List.setIfInBounds_toArray, List.set_cons_zero, List.set_cons_succ]
  refine wpAnyH_take (i := 1) (v := ?vv2) (by rfl) (by kernel_rfl) (by kernel_rfl) (by kernel_rfl) (by intro _ _ _ h; exact h) (Or.inl ⟨by kernel_rfl, ?hy2⟩) (by assumption) ?rest2
  case hy2 =>
    intro w' hSw
    have hSw : Mods (fun y => y ≠ q) w2 w' := hSw
    clear hSw
    go_simp
    try with_reducible rfl
  change wpAnyH _ _ _ _ _ _ _ (Act.put _ (some 16) _) _
  try simp only [Act.put, List.setIfInBounds_toArray, List.set_cons_zero, List.set_cons_succ]
  refine wpAnyH_take (i := 2) (v := ?vv3) (by rfl) (by kernel_rfl) (by kernel_rfl) (by kernel_rfl) (by intro _ _ _ h; exact h) (Or.inl ⟨by kernel_rfl, ?hy3⟩) (by assumption) ?rest3
  case hy3 =>
    intro w' hSw
    have hSw : Mods (fun y => y ≠ q) w2 w' := hSw
    have hBq := HQ2.out.mods hSw (fun e => e rfl)
    have hx1 : World.cell? w' ⟨q, 1, none⟩ = some (.string (bstr xa)) := by rw [hBq.cell]; rfl
    clear hSw
    go_simp
    try with_reducible rfl
  change wpAnyH _ _ _ _ _ _ _ (Act.put _ (some 17) _) _
  try simp only [Act.put, List.setIfInBounds_toArray, List.set_cons_zero, List.set_cons_succ]
  refine wpAnyH_take (i := 3) (v := ?vv4) (by rfl) (by kernel_rfl) (by kernel_rfl) (by kernel_rfl) (by intro _ _ _ h; exact h) (Or.inl ⟨by kernel_rfl, ?hy4⟩) (by assumption) ?rest4
  case hy4 =>
    intro w' hSw
    have hSw : Mods (fun y => y ≠ q) w2 w' := hSw
    clear hSw
    go_simp
    try with_reducible rfl
  change wpAnyH _ _ _ _ _ _ _ (Act.put _ (some 18) _) _
  try simp only [Act.put, List.setIfInBounds_toArray, List.set_cons_zero, List.set_cons_succ]
  refine wpAnyH_take (i := 5) (v := ?vv5) (by rfl) (by kernel_rfl) (by kernel_rfl) (by kernel_rfl) (by intro _ _ _ h; exact h) (Or.inl ⟨by kernel_rfl, ?hy5⟩) (by assumption) ?rest5
  case hy5 =>
    intro w' hSw
    have hSw : Mods (fun y => y ≠ q) w2 w' := hSw
    clear hSw
    go_simp
    try with_reducible rfl
  change wpAnyH _ _ _ _ _ _ _ (Act.put _ (some 20) _) _
  try simp only [Act.put, List.setIfInBounds_toArray, List.set_cons_zero, List.set_cons_succ]
  refine wpAnyH_take (i := 6) (v := ?vv6) (by rfl) (by kernel_rfl) (by kernel_rfl) (by kernel_rfl) (by intro _ _ _ h; exact h) (Or.inl ⟨by kernel_rfl, ?hy6⟩) (by assumption) ?rest6
  case hy6 =>
    intro w' hSw
    have hSw : Mods (fun y => y ≠ q) w2 w' := hSw
    clear hSw
    go_simp
    try with_reducible rfl
  change wpAnyH _ _ _ _ _ _ _ (Act.put _ (some 21) _) _
  try simp only [Act.put, List.setIfInBounds_toArray, List.set_cons_zero, List.set_cons_succ]
  refine wpAnyH_take (i := 7) (v := ?vv7) (by rfl) (by kernel_rfl) (by kernel_rfl) (by kernel_rfl) (by intro _ _ _ h; exact h) (Or.inl ⟨by kernel_rfl, ?hy7⟩) (by assumption) ?rest7
  case hy7 =>
    intro w' hSw
    have hSw : Mods (fun y => y ≠ q) w2 w' := hSw
    have hBq := HQ2.out.mods hSw (fun e => e rfl)
    have hx1 : World.cell? w' ⟨q, 1, none⟩ = some (.string (bstr xa)) := by rw [hBq.cell]; rfl
    clear hSw
    go_simp
    try with_reducible rfl
  change wpAnyH _ _ _ _ _ _ _ (Act.put _ (some 22) _) _
  try simp only [Act.put, List.setIfInBounds_toArray, List.set_cons_zero, List.set_cons_succ]
  refine wpAnyH_take (i := 8) (v := ?vv8) (by rfl) (by kernel_rfl) (by kernel_rfl) (by kernel_rfl) (by intro _ _ _ h; exact h) (Or.inl ⟨by kernel_rfl, ?hy8⟩) (by assumption) ?rest8
  case hy8 =>
    intro w' hSw
    have hSw : Mods (fun y => y ≠ q) w2 w' := hSw
    clear hSw
    go_simp
    try with_reducible rfl
  change wpAnyH _ _ _ _ _ _ _ (Act.put _ (some 23) _) _
  try simp only [Act.put, List.setIfInBounds_toArray, List.set_cons_zero, List.set_cons_succ]
  refine wpAnyH_ready (rs := [4]) (by kernel_rfl) (by simp) ?_
  refine AllReadyH.cons (o := _) rfl (fun K hK => ?_) ?_
  · go_simp
    refine (sappend_two HT.out (by omega) xa (by omega) (HST.out.mods HMM.out) (by omega)).mono ?_
    rintro e y1 ⟨rfl, h2, hm2⟩
    have HT := Lib.hid h2
    have HMM := Lib.hid (HMM.out.trans hm2 (fun y hy _ => hy))
    have hb := hHeld.trans hm2 (fun y hy _ e => hy.2 (by rw [e]; simp))
    clear h2 hm2
    go_wp2_with fail
    refine hK.out _ _ hb (fun _ => ?_)
    clear hK K hHeld
    have hHeld : Mods (fun y => y ≠ q) w2 y1 := hb
    clear hb
    try simp only [Act.put, List.setIfInBounds_toArray, List.set_cons_zero, List.set_cons_succ]
    refine wpAnyH_ready (rs := [9]) (by kernel_rfl) (by simp) ?_
    refine AllReadyH.cons (o := _) rfl (fun K hK => ?_) ?_
    · go_simp
      refine (rsappend_two HT.out (by omega) xa (HST.out.mods HMM.out) (by omega)).mono ?_
      rintro e y2 ⟨rfl, h2, hm2⟩
      have HT := Lib.hid h2
      have HMM := Lib.hid (HMM.out.trans hm2 (fun y hy _ => hy))
      have hb := hHeld.trans hm2 (fun y hy _ e => hy.2 (by rw [e]; simp))
      clear h2 hm2
      go_wp2_with fail
      refine hK.out _ _ hb (fun _ => ?_)
      clear hK K hHeld
      have hHeld : Mods (fun y => y ≠ q) w2 y2 := hb
      clear hb
      try simp only [Act.put, List.setIfInBounds_toArray, List.set_cons_zero, List.set_cons_succ]
      refine wpAnyH_take (i := 10) (v := ?vv9) (by rfl) (by kernel_rfl) (by kernel_rfl) (by kernel_rfl) (by intro _ _ _ h; exact h) (Or.inl ⟨by kernel_rfl, ?hy9⟩) (by assumption) ?rest9
      case hy9 =>
        intro w' hSw
        have hSw : Mods (fun y => y ≠ q) w2 w' := hSw
        clear hSw
        go_simp
        try with_reducible rfl
      change wpAnyH _ _ _ _ _ _ _ (Act.put _ (some 25) _) _
      try simp only [Act.put, List.setIfInBounds_toArray, List.set_cons_zero, List.set_cons_succ]
      refine wpAnyH_take (i := 11) (v := ?vv10) (by rfl) (by kernel_rfl) (by kernel_rfl) (by kernel_rfl) (by intro _ _ _ h; exact h) (Or.inl ⟨by kernel_rfl, ?hy10⟩) (by assumption) ?rest10
      case hy10 =>
        intro w' hSw
        have hSw : Mods (fun y => y ≠ q) w2 w' := hSw
        clear hSw
        go_simp
        try with_reducible rfl
      change wpAnyH _ _ _ _ _ _ _ (Act.put _ (some 6) _) _
      try simp only [Act.put, List.setIfInBounds_toArray, List.set_cons_zero, List.set_cons_succ]
      refine wpAnyH_done (by kernel_rfl) ?_ _
      refine NoPanic.normal ?_
      go_wp2_with fail
      go_ret
      exact ⟨_, _, ret_true HAL.out.1, (HT.out.drop (fun y hy => absurd hy (List.not_mem_nil))).more (by omega), HAL.out.2.more (by omega), by have := grows_sAppend xa xb d; omega⟩
    exact AllReadyH.nil
  exact AllReadyH.nil
set_option maxRecDepth 100000 in
set_option maxHeartbeats 8000000 in
theorem do1_any (h : TwoAt [] W w g d m r k) (hd : DR d r c) (hk : k ≤ 80000) (hc : c ≤ 1000000) (hn : d.nodes.length ≤ 60) (xk : Int) (hkind : xk = 1) (xa xb : Str) (xn xc : Int) (pk : Option Addr) (nk ck : Nat) (keep : List Int) (hxa : xa.length ≤ 100) (hxb : xb.length ≤ 1000) (hxn : (Lit.int .i64 xn).wf = true) (hrow : Row W (.slice pk nk ck) (keep.map (Value.int .i64))) : Calls Tryz.prog 27 #[.pointer (some ⟨g, 0, none⟩), .pointer (some ⟨m, 0, none⟩), .agg #[.int .i64 xk, .string (bstr xa), .string (bstr xb), .int .i64 xn, .int .i64 xc, .slice pk nk ck]] w (SaDid W g m (d.nodes.length + 1) (k + 300) (c + 100)) := by
  have H := Lib.hid h
  have HD := Lib.hid hd
  have HWN := Lib.hid hxn
  have HRK := Lib.hid hrow
  have hni := wf_in hxn
  have hzb := bstr_size xb
  have hml : (1000 : Nat) ≤ maxLen := by decide
  clear h hd hxn hrow
  subst hkind
  go_enter Tryz.func27, Tryz.ntmps27
  go_upto_region 1 with fail
  generalize hW : World.alloc w _ = w1
  have HK1 := Lib.hid (show Keeps w w1 from by rw [← hW]; exact (Keeps.refl _).alloc _)
  have HQ1 := Lib.hid (show Blk w1 w.heap.size 68 #[.int .i64 1, .string (bstr xa), .string (bstr xb), .int .i64 xn, .int .i64 xc, .slice pk nk ck] from by rw [← hW]; exact Blk.new _ _ _ rfl)
  clear hW
  have HT1 := Lib.hid (H.out.aside HK1.out (Nat.le_refl _) HQ1.out.lt)
  obtain ⟨q, hq⟩ : ∃ q, q = w.heap.size := ⟨_, rfl⟩
  rw [← hq] at HQ1 HT1 ⊢
  clear hq
  obtain ⟨cb, w2, hcv, hrowb, hk2, hz2⟩ := str_bytes_lt (P := Tryz.prog) w1 Tryz.underlying22 Tryz.underlying5 Tryz.underlying9 (bstr xb) (by rw [hzb]; omega)
  rw [hzb] at hcv hrowb
  rw [bstr_data] at hrowb
  have b2 : w1.cell? ⟨q, 2, none⟩ = some (.string (bstr xb)) := by rw [HQ1.out.cell]; rfl
  obtain ⟨bb, hbb⟩ : ∃ z, z = w1.heap.size := ⟨_, rfl⟩
  have HT2 := Lib.hid (HT1.out.aside hk2 (Nat.le_of_eq hbb.symm) (by rw [hbb]; exact hz2))
  rw [← hbb] at hcv hrowb
  have HST := Lib.hid (stayB (L := [bb, q]) (W := W) (List.mem_cons_self ..) hrowb)
  have HQ2 := Lib.hid (HQ1.out.keeps hk2)
  clear hrowb hk2 hz2 hbb
  go_upto_region 2 with fail
  clear hcv b2
  have k0 : w2.cell? ⟨q, 0, none⟩ = some (.int .i64 1) := by rw [HQ2.out.cell]; rfl
  have HAL := Lib.hid (make_al xa xb d r c (by omega) HD.out)
  go_upto_region 6 with fail
  clear k0
  have HT := Lib.hid (HT2.out.keeps (Keeps.refl w2).drew)
  have HMM := Lib.hid (show Mods (fun y => W.heap.size ≤ y ∧ y ∉ [bb, q]) w2 w2.drew from Mods.of_keeps (Keeps.refl w2).drew)
  refine wp_region_noPanic ?_
  refine wp_region_held_drew (S := fun w' => Mods (fun y => y ≠ q) w2 w') (by kernel_rfl) ((Mods.refl (fun y => y ≠ q) w2).drew) (fun _ => ?_)
  have hHeld : Mods (fun y => y ≠ q) w2 (w2).drew := (Mods.refl (fun y => y ≠ q) w2).drew
  generalize World.drew w2 = xs at *
  refine wpAnyH_take (i := 0) (v := ?vv11) (by rfl) (by kernel_rfl) (by kernel_rfl) (by kernel_rfl) (by intro _ _ _ h; exact h) (Or.inl ⟨by kernel_rfl, ?hy11⟩) (by assumption) ?rest11
  case hy11 =>
    intro w' hSw
    have hSw : Mods (fun y => y ≠ q) w2 w' := hSw
    clear hSw
    go_simp
    try with_reducible rfl
  change wpAnyH _ _ _ _ _ _ _ (Act.put _ (some 28) _) _
  try simp only [Act.put, List.setIfInBounds_toArray, List.set_cons_zero, List.set_cons_succ]
  refine wpAnyH_take (i := 1) (v := ?vv12) (by rfl) (by kernel_rfl) (by kernel_rfl) (by kernel_rfl) (by intro _ _ _ h; exact h) (Or.inl ⟨by kernel_rfl, ?hy12⟩) (by assumption) ?rest12
  case hy12 =>
    intro w' hSw
    have hSw : Mods (fun y => y ≠ q) w2 w' := hSw
    clear hSw
    go_simp
    try with_reducible rfl
  change wpAnyH _ _ _ _ _ _ _ (Act.put _ (some 29) _) _
  try simp only [Act.put, List.setIfInBounds_toArray, List.set_cons_zero, List.set_cons_succ]
  refine wpAnyH_take (i := 2) (v := ?vv13) (by rfl) (by kernel_rfl) (by kernel_rfl) (by kernel_rfl) (by intro _ _ _ h; exact h) (Or.inl ⟨by kernel_rfl, ?hy13⟩) (by assumption) ?rest13
  case hy13 =>
    intro w' hSw
    have hSw : Mods (fun y => y ≠ q) w2 w' := hSw
    have hBq := HQ2.out.mods hSw (fun e => e rfl)
    have hx1 : World.cell? w' ⟨q, 1, none⟩ = some (.string (bstr xa)) := by rw [hBq.cell]; rfl
    clear hSw
    go_simp
    try with_reducible rfl
  change wpAnyH _ _ _ _ _ _ _ (Act.put _ (some 30) _) _
  try simp only [Act.put, List.setIfInBounds_toArray, List.set_cons_zero, List.set_cons_succ]
  refine wpAnyH_take (i := 3) (v := ?vv14) (by rfl) (by kernel_rfl) (by kernel_rfl) (by kernel_rfl) (by intro _ _ _ h; exact h) (Or.inl ⟨by kernel_rfl, ?hy14⟩) (by assumption) ?rest14
  case hy14 =>
    intro w' hSw
    have hSw : Mods (fun y => y ≠ q) w2 w' := hSw
    clear hSw
    go_simp
    try with_reducible rfl
  change wpAnyH _ _ _ _ _ _ _ (Act.put _ (some 31) _) _
  try simp only [Act.put, List.setIfInBounds_toArray, List.set_cons_zero, List.set_cons_succ]
  refine wpAnyH_take (i := 5) (v := ?vv15) (by rfl) (by kernel_rfl) (by kernel_rfl) (by kernel_rfl) (by intro _ _ _ h; exact h) (Or.inl ⟨by kernel_rfl, ?hy15⟩) (by assumption) ?rest15
  case hy15 =>
    intro w' hSw
    have hSw : Mods (fun y => y ≠ q) w2 w' := hSw
    clear hSw
    go_simp
    try with_reducible rfl
  change wpAnyH _ _ _ _ _ _ _ (Act.put _ (some 33) _) _
  try simp only [Act.put, List.setIfInBounds_toArray, List.set_cons_zero, List.set_cons_succ]
  refine wpAnyH_take (i := 6) (v := ?vv16) (by rfl) (by kernel_rfl) (by kernel_rfl) (by kernel_rfl) (by intro _ _ _ h; exact h) (Or.inl ⟨by kernel_rfl, ?hy16⟩) (by assumption) ?rest16
  case hy16 =>
    intro w' hSw
    have hSw : Mods (fun y => y ≠ q) w2 w' := hSw
    clear hSw
    go_simp
    try with_reducible rfl
  change wpAnyH _ _ _ _ _ _ _ (Act.put _ (some 34) _) _
  try simp only [Act.put, List.setIfInBounds_toArray, List.set_cons_zero, List.set_cons_succ]
  refine wpAnyH_take (i := 7) (v := ?vv17) (by rfl) (by kernel_rfl) (by kernel_rfl) (by kernel_rfl) (by intro _ _ _ h; exact h) (Or.inl ⟨by kernel_rfl, ?hy17⟩) (by assumption) ?rest17
  case hy17 =>
    intro w' hSw
    have hSw : Mods (fun y => y ≠ q) w2 w' := hSw
    have hBq := HQ2.out.mods hSw (fun e => e rfl)
    have hx1 : World.cell? w' ⟨q, 1, none⟩ = some (.string (bstr xa)) := by rw [hBq.cell]; rfl
    clear hSw
    go_simp
    try with_reducible rfl
  change wpAnyH _ _ _ _ _ _ _ (Act.put _ (some 35) _) _
  try simp only [Act.put, List.setIfInBounds_toArray, List.set_cons_zero, List.set_cons_succ]
  refine wpAnyH_take (i := 8) (v := ?vv18) (by rfl) (by kernel_rfl) (by kernel_rfl) (by kernel_rfl) (by intro _ _ _ h; exact h) (Or.inl ⟨by kernel_rfl, ?hy18⟩) (by assumption) ?rest18
  case hy18 =>
    intro w' hSw
    have hSw : Mods (fun y => y ≠ q) w2 w' := hSw
    clear hSw
    go_simp
    try with_reducible rfl
  change wpAnyH _ _ _ _ _ _ _ (Act.put _ (some 36) _) _
  try simp only [Act.put, List.setIfInBounds_toArray, List.set_cons_zero, List.set_cons_succ]
  refine wpAnyH_ready (rs := [4]) (by kernel_rfl) (by simp) ?_
  refine AllReadyH.cons (o := _) rfl (fun K hK => ?_) ?_
  · go_simp
    refine (smake_two HT.out (by omega) xa (by omega) (HST.out.mods HMM.out) (by omega)).mono ?_
    rintro e y1 ⟨rfl, h2, hm2⟩
    have HT := Lib.hid h2
    have HMM := Lib.hid (HMM.out.trans hm2 (fun y hy _ => hy))
    have hb := hHeld.trans hm2 (fun y hy _ e => hy.2 (by rw [e]; simp))
    clear h2 hm2
    go_wp2_with fail
    refine hK.out _ _ hb (fun _ => ?_)
    clear hK K hHeld
    have hHeld : Mods (fun y => y ≠ q) w2 y1 := hb
    clear hb
    try simp only [Act.put, List.setIfInBounds_toArray, List.set_cons_zero, List.set_cons_succ]
    refine wpAnyH_ready (rs := [9]) (by kernel_rfl) (by simp) ?_
    refine AllReadyH.cons (o := _) rfl (fun K hK => ?_) ?_
    · go_simp
      refine (rsmake_two HT.out (by omega) xa (by omega) (HST.out.mods HMM.out) (by omega)).mono ?_
      rintro e y2 ⟨rfl, h2, hm2⟩
      have HT := Lib.hid h2
      have HMM := Lib.hid (HMM.out.trans hm2 (fun y hy _ => hy))
      have hb := hHeld.trans hm2 (fun y hy _ e => hy.2 (by rw [e]; simp))
      clear h2 hm2
      go_wp2_with fail
      refine hK.out _ _ hb (fun _ => ?_)
      clear hK K hHeld
      have hHeld : Mods (fun y => y ≠ q) w2 y2 := hb
      clear hb
      try simp only [Act.put, List.setIfInBounds_toArray, List.set_cons_zero, List.set_cons_succ]
      refine wpAnyH_take (i := 10) (v := ?vv19) (by rfl) (by kernel_rfl) (by kernel_rfl) (by kernel_rfl) (by intro _ _ _ h; exact h) (Or.inl ⟨by kernel_rfl, ?hy19⟩) (by assumption) ?rest19
      case hy19 =>
        intro w' hSw
        have hSw : Mods (fun y => y ≠ q) w2 w' := hSw
        clear hSw
        go_simp
        try with_reducible rfl
      change wpAnyH _ _ _ _ _ _ _ (Act.put _ (some 38) _) _
      try simp only [Act.put, List.setIfInBounds_toArray, List.set_cons_zero, List.set_cons_succ]
      refine wpAnyH_take (i := 11) (v := ?vv20) (by rfl) (by kernel_rfl) (by kernel_rfl) (by kernel_rfl) (by intro _ _ _ h; exact h) (Or.inl ⟨by kernel_rfl, ?hy20⟩) (by assumption) ?rest20
      case hy20 =>
        intro w' hSw
        have hSw : Mods (fun y => y ≠ q) w2 w' := hSw
        clear hSw
        go_simp
        try with_reducible rfl
      change wpAnyH _ _ _ _ _ _ _ (Act.put _ (some 6) _) _
      try simp only [Act.put, List.setIfInBounds_toArray, List.set_cons_zero, List.set_cons_succ]
      refine wpAnyH_done (by kernel_rfl) ?_ _
      refine NoPanic.normal ?_
      go_wp2_with fail
      go_ret
      exact ⟨_, _, ret_true HAL.out.1, (HT.out.drop (fun y hy => absurd hy (List.not_mem_nil))).more (by omega), HAL.out.2.more (by omega), grows_sMake xa xb d⟩
    exact AllReadyH.nil
  exact AllReadyH.nil
set_option maxRecDepth 100000 in
set_option maxHeartbeats 8000000 in
theorem do2_any (h : TwoAt [] W w g d m r k) (hd : DR d r c) (hk : k ≤ 80000) (hc : c ≤ 1000000) (hn : d.nodes.length ≤ 60) (xk : Int) (hkind : xk = 2) (xa xb : Str) (xn xc : Int) (pk : Option Addr) (nk ck : Nat) (keep : List Int) (hxa : xa.length ≤ 100) (hxb : xb.length ≤ 1000) (hxn : (Lit.int .i64 xn).wf = true) (hrow : Row W (.slice pk nk ck) (keep.map (Value.int .i64))) : Calls Tryz.prog 27 #[.pointer (some ⟨g, 0, none⟩), .pointer (some ⟨m, 0, none⟩), .agg #[.int .i64 xk, .string (bstr xa), .string (bstr xb), .int .i64 xn, .int .i64 xc, .slice pk nk ck]] w (SaDid W g m (d.nodes.length + 1) (k + 300) (c + 100)) := by
  have H := Lib.hid h
  have HD := Lib.hid hd
  have HWN := Lib.hid hxn
  have HRK := Lib.hid hrow
  have hni := wf_in hxn
  have hzb := bstr_size xb
  have hml : (1000 : Nat) ≤ maxLen := by decide
  clear h hd hxn hrow
  subst hkind
  go_enter Tryz.func27, Tryz.ntmps27
  go_upto_region 1 with fail
  generalize hW : World.alloc w _ = w1
  have HK1 := Lib.hid (show Keeps w w1 from by rw [← hW]; exact (Keeps.refl _).alloc _)
  have HQ1 := Lib.hid (show Blk w1 w.heap.size 68 #[.int .i64 2, .string (bstr xa), .string (bstr xb), .int .i64 xn, .int .i64 xc, .slice pk nk ck] from by rw [← hW]; exact Blk.new _ _ _ rfl)
  clear hW
  have HT1 := Lib.hid (H.out.aside HK1.out (Nat.le_refl _) HQ1.out.lt)
  obtain ⟨q, hq⟩ : ∃ q, q = w.heap.size := ⟨_, rfl⟩
  rw [← hq] at HQ1 HT1 ⊢
  clear hq
  obtain ⟨cb, w2, hcv, hrowb, hk2, hz2⟩ := str_bytes_lt (P := Tryz.prog) w1 Tryz.underlying22 Tryz.underlying5 Tryz.underlying9 (bstr xb) (by rw [hzb]; omega)
  rw [hzb] at hcv hrowb
  rw [bstr_data] at hrowb
  have b2 : w1.cell? ⟨q, 2, none⟩ = some (.string (bstr xb)) := by rw [HQ1.out.cell]; rfl
  obtain ⟨bb, hbb⟩ : ∃ z, z = w1.heap.size := ⟨_, rfl⟩
  have HT2 := Lib.hid (HT1.out.aside hk2 (Nat.le_of_eq hbb.symm) (by rw [hbb]; exact hz2))
  rw [← hbb] at hcv hrowb
  have HST := Lib.hid (stayB (L := [bb, q]) (W := W) (List.mem_cons_self ..) hrowb)
  have HQ2 := Lib.hid (HQ1.out.keeps hk2)
  clear hrowb hk2 hz2 hbb
  go_upto_region 2 with fail
  clear hcv b2
  have k0 : w2.cell? ⟨q, 0, none⟩ = some (.int .i64 2) := by rw [HQ2.out.cell]; rfl
  have HAL := Lib.hid (swap_al xa xb d r c (by omega) HD.out)
  go_upto_region 8 with fail
  clear k0
  have HT := Lib.hid (HT2.out.keeps (Keeps.refl w2).drew)
  have HMM := Lib.hid (show Mods (fun y => W.heap.size ≤ y ∧ y ∉ [bb, q]) w2 w2.drew from Mods.of_keeps (Keeps.refl w2).drew)
  refine wp_region_noPanic ?_
  refine wp_region_held_drew (S := fun w' => Mods (fun y => y ≠ q) w2 w') (by kernel_rfl) ((Mods.refl (fun y => y ≠ q) w2).drew) (fun _ => ?_)
  have hHeld : Mods (fun y => y ≠ q) w2 (w2).drew := (Mods.refl (fun y => y ≠ q) w2).drew
  generalize World.drew w2 = xs at *
  refine wpAnyH_take (i := 0) (v := ?vv21) (by rfl) (by kernel_rfl) (by kernel_rfl) (by kernel_rfl) (by intro _ _ _ h; exact h) (Or.inl ⟨by kernel_rfl, ?hy21⟩) (by assumption) ?rest21
  case hy21 =>
    intro w' hSw
    have hSw : Mods (fun y => y ≠ q) w2 w' := hSw
    clear hSw
    go_simp
    try with_reducible rfl
  change wpAnyH _ _ _ _ _ _ _ (Act.put _ (some 41) _) _
  try simp only [Act.put, List.setIfInBounds_toArray, List.set_cons_zero, List.set_cons_succ]
  refine wpAnyH_take (i := 1) (v := ?vv22) (by rfl) (by kernel_rfl) (by kernel_rfl) (by kernel_rfl) (by intro _ _ _ h; exact h) (Or.inl ⟨by kernel_rfl, ?hy22⟩) (by assumption) ?rest22
  case hy22 =>
    intro w' hSw
    have hSw : Mods (fun y => y ≠ q) w2 w' := hSw
    clear hSw
    go_simp
    try with_reducible rfl
  change wpAnyH _ _ _ _ _ _ _ (Act.put _ (some 42) _) _
  try simp only [Act.put, List.setIfInBounds_toArray, List.set_cons_zero, List.set_cons_succ]
  refine wpAnyH_take (i := 2) (v := ?vv23) (by rfl) (by kernel_rfl) (by kernel_rfl) (by kernel_rfl) (by intro _ _ _ h; exact h) (Or.inl ⟨by kernel_rfl, ?hy23⟩) (by assumption) ?rest23
  case hy23 =>
    intro w' hSw
    have hSw : Mods (fun y => y ≠ q) w2 w' := hSw
    have hBq := HQ2.out.mods hSw (fun e => e rfl)
    have hx1 : World.cell? w' ⟨q, 1, none⟩ = some (.string (bstr xa)) := by rw [hBq.cell]; rfl
    clear hSw
    go_simp
    try with_reducible rfl
  change wpAnyH _ _ _ _ _ _ _ (Act.put _ (some 43) _) _
  try simp only [Act.put, List.setIfInBounds_toArray, List.set_cons_zero, List.set_cons_succ]
  refine wpAnyH_take (i := 3) (v := ?vv24) (by rfl) (by kernel_rfl) (by kernel_rfl) (by kernel_rfl) (by intro _ _ _ h; exact h) (Or.inl ⟨by kernel_rfl, ?hy24⟩) (by assumption) ?rest24
  case hy24 =>
    intro w' hSw
    have hSw : Mods (fun y => y ≠ q) w2 w' := hSw
    clear hSw
    go_simp
    try with_reducible rfl
  change wpAnyH _ _ _ _ _ _ _ (Act.put _ (some 44) _) _
  try simp only [Act.put, List.setIfInBounds_toArray, List.set_cons_zero, List.set_cons_succ]
  refine wpAnyH_take (i := 5) (v := ?vv25) (by rfl) (by kernel_rfl) (by kernel_rfl) (by kernel_rfl) (by intro _ _ _ h; exact h) (Or.inl ⟨by kernel_rfl, ?hy25⟩) (by assumption) ?rest25
  case hy25 =>
    intro w' hSw
    have hSw : Mods (fun y => y ≠ q) w2 w' := hSw
    clear hSw
    go_simp
    try with_reducible rfl
  change wpAnyH _ _ _ _ _ _ _ (Act.put _ (some 46) _) _
  try simp only [Act.put, List.setIfInBounds_toArray, List.set_cons_zero, List.set_cons_succ]
  refine wpAnyH_take (i := 6) (v := ?vv26) (by rfl) (by kernel_rfl) (by kernel_rfl) (by kernel_rfl) (by intro _ _ _ h; exact h) (Or.inl ⟨by kernel_rfl, ?hy26⟩) (by assumption) ?rest26
  case hy26 =>
    intro w' hSw
    have hSw : Mods (fun y => y ≠ q) w2 w' := hSw
    clear hSw
    go_simp
    try with_reducible rfl
  change wpAnyH _ _ _ _ _ _ _ (Act.put _ (some 47) _) _
  try simp only [Act.put, List.setIfInBounds_toArray, List.set_cons_zero, List.set_cons_succ]
  refine wpAnyH_take (i := 7) (v := ?vv27) (by rfl) (by kernel_rfl) (by kernel_rfl) (by kernel_rfl) (by intro _ _ _ h; exact h) (Or.inl ⟨by kernel_rfl, ?hy27⟩) (by assumption) ?rest27
  case hy27 =>
    intro w' hSw
    have hSw : Mods (fun y => y ≠ q) w2 w' := hSw
    have hBq := HQ2.out.mods hSw (fun e => e rfl)
    have hx1 : World.cell? w' ⟨q, 1, none⟩ = some (.string (bstr xa)) := by rw [hBq.cell]; rfl
    clear hSw
    go_simp
    try with_reducible rfl
  change wpAnyH _ _ _ _ _ _ _ (Act.put _ (some 48) _) _
  try simp only [Act.put, List.setIfInBounds_toArray, List.set_cons_zero, List.set_cons_succ]
  refine wpAnyH_take (i := 8) (v := ?vv28) (by rfl) (by kernel_rfl) (by kernel_rfl) (by kernel_rfl) (by intro _ _ _ h; exact h) (Or.inl ⟨by kernel_rfl, ?hy28⟩) (by assumption) ?rest28
  case hy28 =>
    intro w' hSw
    have hSw : Mods (fun y => y ≠ q) w2 w' := hSw
    clear hSw
    go_simp
    try with_reducible rfl
  change wpAnyH _ _ _ _ _ _ _ (Act.put _ (some 49) _) _
  try simp only [Act.put, List.setIfInBounds_toArray, List.set_cons_zero, List.set_cons_succ]
  refine wpAnyH_ready (rs := [4]) (by kernel_rfl) (by simp) ?_
  refine AllReadyH.cons (o := _) rfl (fun K hK => ?_) ?_
  · go_simp
    refine (sswap_two HT.out (by omega) xa (by omega) (HST.out.mods HMM.out) (by omega)).mono ?_
    rintro e y1 ⟨rfl, h2, hm2⟩
    have HT := Lib.hid h2
    have HMM := Lib.hid (HMM.out.trans hm2 (fun y hy _ => hy))
    have hb := hHeld.trans hm2 (fun y hy _ e => hy.2 (by rw [e]; simp))
    clear h2 hm2
    go_wp2_with fail
    refine hK.out _ _ hb (fun _ => ?_)
    clear hK K hHeld
    have hHeld : Mods (fun y => y ≠ q) w2 y1 := hb
    clear hb
    try simp only [Act.put, List.setIfInBounds_toArray, List.set_cons_zero, List.set_cons_succ]
    refine wpAnyH_ready (rs := [9]) (by kernel_rfl) (by simp) ?_
    refine AllReadyH.cons (o := _) rfl (fun K hK => ?_) ?_
    · go_simp
      refine (rsswap_two HT.out (by omega) xa (by omega) (HST.out.mods HMM.out) (by omega)).mono ?_
      rintro e y2 ⟨rfl, h2, hm2⟩
      have HT := Lib.hid h2
      have HMM := Lib.hid (HMM.out.trans hm2 (fun y hy _ => hy))
      have hb := hHeld.trans hm2 (fun y hy _ e => hy.2 (by rw [e]; simp))
      clear h2 hm2
      go_wp2_with fail
      refine hK.out _ _ hb (fun _ => ?_)
      clear hK K hHeld
      have hHeld : Mods (fun y => y ≠ q) w2 y2 := hb
      clear hb
      try simp only [Act.put, List.setIfInBounds_toArray, List.set_cons_zero, List.set_cons_succ]
      refine wpAnyH_take (i := 10) (v := ?vv29) (by rfl) (by kernel_rfl) (by kernel_rfl) (by kernel_rfl) (by intro _ _ _ h; exact h) (Or.inl ⟨by kernel_rfl, ?hy29⟩) (by assumption) ?rest29
      case hy29 =>
        intro w' hSw
        have hSw : Mods (fun y => y ≠ q) w2 w' := hSw
        clear hSw
        go_simp
        try with_reducible rfl
      change wpAnyH _ _ _ _ _ _ _ (Act.put _ (some 51) _) _
      try simp only [Act.put, List.setIfInBounds_toArray, List.set_cons_zero, List.set_cons_succ]
      refine wpAnyH_take (i := 11) (v := ?vv30) (by rfl) (by kernel_rfl) (by kernel_rfl) (by kernel_rfl) (by intro _ _ _ h; exact h) (Or.inl ⟨by kernel_rfl, ?hy30⟩) (by assumption) ?rest30
      case hy30 =>
        intro w' hSw
        have hSw : Mods (fun y => y ≠ q) w2 w' := hSw
        clear hSw
        go_simp
        try with_reducible rfl
      change wpAnyH _ _ _ _ _ _ _ (Act.put _ (some 6) _) _
      try simp only [Act.put, List.setIfInBounds_toArray, List.set_cons_zero, List.set_cons_succ]
      refine wpAnyH_done (by kernel_rfl) ?_ _
      refine NoPanic.normal ?_
      go_wp2_with fail
      go_ret
      exact ⟨_, _, ret_true HAL.out.1, (HT.out.drop (fun y hy => absurd hy (List.not_mem_nil))).more (by omega), HAL.out.2.more (by omega), grows_sSwap xa xb d⟩
    exact AllReadyH.nil
  exact AllReadyH.nil
set_option maxRecDepth 100000 in
set_option maxHeartbeats 8000000 in
theorem do3_any (h : TwoAt [] W w g d m r k) (hd : DR d r c) (hk : k ≤ 80000) (hc : c ≤ 1000000) (hn : d.nodes.length ≤ 60) (xk : Int) (hkind : xk = 3) (xa xb : Str) (xn xc : Int) (pk : Option Addr) (nk ck : Nat) (keep : List Int) (hxa : xa.length ≤ 100) (hxb : xb.length ≤ 1000) (hxn : (Lit.int .i64 xn).wf = true) (hrow : Row W (.slice pk nk ck) (keep.map (Value.int .i64))) : Calls Tryz.prog 27 #[.pointer (some ⟨g, 0, none⟩), .pointer (some ⟨m, 0, none⟩), .agg #[.int .i64 xk, .string (bstr xa), .string (bstr xb), .int .i64 xn, .int .i64 xc, .slice pk nk ck]] w (SaDid W g m (d.nodes.length + 1) (k + 300) (c + 100)) := by
  have H := Lib.hid h
  have HD := Lib.hid hd
  have HWN := Lib.hid hxn
  have HRK := Lib.hid hrow
  have hni := wf_in hxn
  have hzb := bstr_size xb
  have hml : (1000 : Nat) ≤ maxLen := by decide
  clear h hd hxn hrow
  subst hkind
  go_enter Tryz.func27, Tryz.ntmps27
  go_upto_region 1 with fail
  generalize hW : World.alloc w _ = w1
  have HK1 := Lib.hid (show Keeps w w1 from by rw [← hW]; exact (Keeps.refl _).alloc _)
  have HQ1 := Lib.hid (show Blk w1 w.heap.size 68 #[.int .i64 3, .string (bstr xa), .string (bstr xb), .int .i64 xn, .int .i64 xc, .slice pk nk ck] from by rw [← hW]; exact Blk.new _ _ _ rfl)
  clear hW
  have HT1 := Lib.hid (H.out.aside HK1.out (Nat.le_refl _) HQ1.out.lt)
  obtain ⟨q, hq⟩ : ∃ q, q = w.heap.size := ⟨_, rfl⟩
  rw [← hq] at HQ1 HT1 ⊢
  clear hq
  obtain ⟨cb, w2, hcv, hrowb, hk2, hz2⟩ := str_bytes_lt (P := Tryz.prog) w1 Tryz.underlying22 Tryz.underlying5 Tryz.underlying9 (bstr xb) (by rw [hzb]; omega)
  rw [hzb] at hcv hrowb
  rw [bstr_data] at hrowb
  have b2 : w1.cell? ⟨q, 2, none⟩ = some (.string (bstr xb)) := by rw [HQ1.out.cell]; rfl
  obtain ⟨bb, hbb⟩ : ∃ z, z = w1.heap.size := ⟨_, rfl⟩
  have HT2 := Lib.hid (HT1.out.aside hk2 (Nat.le_of_eq hbb.symm) (by rw [hbb]; exact hz2))
  rw [← hbb] at hcv hrowb
  have HST := Lib.hid (stayB (L := [bb, q]) (W := W) (List.mem_cons_self ..) hrowb)
  have HQ2 := Lib.hid (HQ1.out.keeps hk2)
  clear hrowb hk2 hz2 hbb
  go_upto_region 2 with fail
  clear hcv b2
  have k0 : w2.cell? ⟨q, 0, none⟩ = some (.int .i64 3) := by rw [HQ2.out.cell]; rfl
  have HAL := Lib.hid (drop_al xa d r c (by omega) HD.out)
  go_upto_region 10 with fail
  clear k0
  have HT := Lib.hid (HT2.out.keeps (Keeps.refl w2).drew)
  have HMM := Lib.hid (show Mods (fun y => W.heap.size ≤ y ∧ y ∉ [bb, q]) w2 w2.drew from Mods.of_keeps (Keeps.refl w2).drew)
  refine wp_region_noPanic ?_
  refine wp_region_held_drew (S := fun w' => Mods (fun y => y ≠ q) w2 w') (by kernel_rfl) ((Mods.refl (fun y => y ≠ q) w2).drew) (fun _ => ?_)
  have hHeld : Mods (fun y => y ≠ q) w2 (w2).drew := (Mods.refl (fun y => y ≠ q) w2).drew
  generalize World.drew w2 = xs at *
  refine wpAnyH_take (i := 0) (v := ?vv31) (by rfl) (by kernel_rfl) (by kernel_rfl) (by kernel_rfl) (by intro _ _ _ h; exact h) (Or.inl ⟨by kernel_rfl, ?hy31⟩) (by assumption) ?rest31
  case hy31 =>
    intro w' hSw
    have hSw : Mods (fun y => y ≠ q) w2 w' := hSw
    clear hSw
    go_simp
    try with_reducible rfl
  change wpAnyH _ _ _ _ _ _ _ (Act.put _ (some 54) _) _
  try simp only [Act.put, List.setIfInBounds_toArray, List.set_cons_zero, List.set_cons_succ]
  refine wpAnyH_take (i := 1) (v := ?vv32) (by rfl) (by kernel_rfl) (by kernel_rfl) (by kernel_rfl) (by intro _ _ _ h; exact h) (Or.inl ⟨by kernel_rfl, ?hy32⟩) (by assumption) ?rest32
  case hy32 =>
    intro w' hSw
    have hSw : Mods (fun y => y ≠ q) w2 w' := hSw
    clear hSw
    go_simp
    try with_reducible rfl
  change wpAnyH _ _ _ _ _ _ _ (Act.put _ (some 55) _) _
  try simp only [Act.put, List.setIfInBounds_toArray, List.set_cons_zero, List.set_cons_succ]
  refine wpAnyH_take (i := 2) (v := ?vv33) (by rfl) (by kernel_rfl) (by kernel_rfl) (by kernel_rfl) (by intro _ _ _ h; exact h) (Or.inl ⟨by kernel_rfl, ?hy33⟩) (by assumption) ?rest33
  case hy33 =>
    intro w' hSw
    have hSw : Mods (fun y => y ≠ q) w2 w' := hSw
    have hBq := HQ2.out.mods hSw (fun e => e rfl)
    have hx1 : World.cell? w' ⟨q, 1, none⟩ = some (.string (bstr xa)) := by rw [hBq.cell]; rfl
    clear hSw
    go_simp
    try with_reducible rfl
  change wpAnyH _ _ _ _ _ _ _ (Act.put _ (some 56) _) _
  try simp only [Act.put, List.setIfInBounds_toArray, List.set_cons_zero, List.set_cons_succ]
  refine wpAnyH_take (i := 4) (v := ?vv34) (by rfl) (by kernel_rfl) (by kernel_rfl) (by kernel_rfl) (by intro _ _ _ h; exact h) (Or.inl ⟨by kernel_rfl, ?hy34⟩) (by assumption) ?rest34
  case hy34 =>
    intro w' hSw
    have hSw : Mods (fun y => y ≠ q) w2 w' := hSw
    clear hSw
    go_simp
    try with_reducible rfl
  change wpAnyH _ _ _ _ _ _ _ (Act.put _ (some 58) _) _
  try simp only [Act.put, List.setIfInBounds_toArray, List.set_cons_zero, List.set_cons_succ]
  refine wpAnyH_take (i := 5) (v := ?vv35) (by rfl) (by kernel_rfl) (by kernel_rfl) (by kernel_rfl) (by intro _ _ _ h; exact h) (Or.inl ⟨by kernel_rfl, ?hy35⟩) (by assumption) ?rest35
  case hy35 =>
    intro w' hSw
    have hSw : Mods (fun y => y ≠ q) w2 w' := hSw
    clear hSw
    go_simp
    try with_reducible rfl
  change wpAnyH _ _ _ _ _ _ _ (Act.put _ (some 59) _) _
  try simp only [Act.put, List.setIfInBounds_toArray, List.set_cons_zero, List.set_cons_succ]
  refine wpAnyH_take (i := 6) (v := ?vv36) (by rfl) (by kernel_rfl) (by kernel_rfl) (by kernel_rfl) (by intro _ _ _ h; exact h) (Or.inl ⟨by kernel_rfl, ?hy36⟩) (by assumption) ?rest36
  case hy36 =>
    intro w' hSw
    have hSw : Mods (fun y => y ≠ q) w2 w' := hSw
    have hBq := HQ2.out.mods hSw (fun e => e rfl)
    have hx1 : World.cell? w' ⟨q, 1, none⟩ = some (.string (bstr xa)) := by rw [hBq.cell]; rfl
    clear hSw
    go_simp
    try with_reducible rfl
  change wpAnyH _ _ _ _ _ _ _ (Act.put _ (some 60) _) _
  try simp only [Act.put, List.setIfInBounds_toArray, List.set_cons_zero, List.set_cons_succ]
  refine wpAnyH_ready (rs := [3]) (by kernel_rfl) (by simp) ?_
  refine AllReadyH.cons (o := _) rfl (fun K hK => ?_) ?_
  · go_simp
    refine (sdrop_two HT.out (by omega) xa (by omega)).mono ?_
    rintro e y1 ⟨rfl, h2, hm2⟩
    have HT := Lib.hid h2
    have HMM := Lib.hid (HMM.out.trans hm2 (fun y hy _ => hy))
    have hb := hHeld.trans hm2 (fun y hy _ e => hy.2 (by rw [e]; simp))
    clear h2 hm2
    go_wp2_with fail
    refine hK.out _ _ hb (fun _ => ?_)
    clear hK K hHeld
    have hHeld : Mods (fun y => y ≠ q) w2 y1 := hb
    clear hb
    try simp only [Act.put, List.setIfInBounds_toArray, List.set_cons_zero, List.set_cons_succ]
    refine wpAnyH_ready (rs := [7]) (by kernel_rfl) (by simp) ?_
    refine AllReadyH.cons (o := _) rfl (fun K hK => ?_) ?_
    · go_simp
      refine (rsdrop_two HT.out (by omega) xa).mono ?_
      rintro e y2 ⟨rfl, h2, hm2⟩
      have HT := Lib.hid h2
      have HMM := Lib.hid (HMM.out.trans hm2 (fun y hy _ => hy))
      have hb := hHeld.trans hm2 (fun y hy _ e => hy.2 (by rw [e]; simp))
      clear h2 hm2
      go_wp2_with fail
      refine hK.out _ _ hb (fun _ => ?_)
      clear hK K hHeld
      have hHeld : Mods (fun y => y ≠ q) w2 y2 := hb
      clear hb
      try simp only [Act.put, List.setIfInBounds_toArray, List.set_cons_zero, List.set_cons_succ]
      refine wpAnyH_take (i := 8) (v := ?vv37) (by rfl) (by kernel_rfl) (by kernel_rfl) (by kernel_rfl) (by intro _ _ _ h; exact h) (Or.inl ⟨by kernel_rfl, ?hy37⟩) (by assumption) ?rest37
      case hy37 =>
        intro w' hSw
        have hSw : Mods (fun y => y ≠ q) w2 w' := hSw
        clear hSw
        go_simp
        try with_reducible rfl
      change wpAnyH _ _ _ _ _ _ _ (Act.put _ (some 62) _) _
      try simp only [Act.put, List.setIfInBounds_toArray, List.set_cons_zero, List.set_cons_succ]
      refine wpAnyH_take (i := 9) (v := ?vv38) (by rfl) (by kernel_rfl) (by kernel_rfl) (by kernel_rfl) (by intro _ _ _ h; exact h) (Or.inl ⟨by kernel_rfl, ?hy38⟩) (by assumption) ?rest38
      case hy38 =>
        intro w' hSw
        have hSw : Mods (fun y => y ≠ q) w2 w' := hSw
        clear hSw
        go_simp
        try with_reducible rfl
      change wpAnyH _ _ _ _ _ _ _ (Act.put _ (some 6) _) _
      try simp only [Act.put, List.setIfInBounds_toArray, List.set_cons_zero, List.set_cons_succ]
      refine wpAnyH_done (by kernel_rfl) ?_ _
      refine NoPanic.normal ?_
      go_wp2_with fail
      go_ret
      exact ⟨_, _, ret_true HAL.out.1, (HT.out.drop (fun y hy => absurd hy (List.not_mem_nil))).more (by omega), HAL.out.2.more (by omega), by have := grows_sDrop xa d; omega⟩
    exact AllReadyH.nil
  exact AllReadyH.nil
set_option maxRecDepth 100000 in
set_option maxHeartbeats 8000000 in
theorem do4_any (h : TwoAt [] W w g d m r k) (hd : DR d r c) (hk : k ≤ 80000) (hc : c ≤ 1000000) (hn : d.nodes.length ≤ 60) (xk : Int) (hkind : xk = 4) (xa xb : Str) (xn xc : Int) (pk : Option Addr) (nk ck : Nat) (keep : List Int) (hxa : xa.length ≤ 100) (hxb : xb.length ≤ 1000) (hxn : (Lit.int .i64 xn).wf = true) (hrow : Row W (.slice pk nk ck) (keep.map (Value.int .i64))) : Calls Tryz.prog 27 #[.pointer (some ⟨g, 0, none⟩), .pointer (some ⟨m, 0, none⟩), .agg #[.int .i64 xk, .string (bstr xa), .string (bstr xb), .int .i64 xn, .int .i64 xc, .slice pk nk ck]] w (SaDid W g m (d.nodes.length + 1) (k + 300) (c + 100)) := by
  have H := Lib.hid h
  have HD := Lib.hid hd
  have HWN := Lib.hid hxn
  have HRK := Lib.hid hrow
  have hni := wf_in hxn
  have hzb := bstr_size xb
  have hml : (1000 : Nat) ≤ maxLen := by decide
  clear h hd hxn hrow
  subst hkind
  go_enter Tryz.func27, Tryz.ntmps27
  go_upto_region 1 with fail
  generalize hW : World.alloc w _ = w1
  have HK1 := Lib.hid (show Keeps w w1 from by rw [← hW]; exact (Keeps.refl _).alloc _)
  have HQ1 := Lib.hid (show Blk w1 w.heap.size 68 #[.int .i64 4, .string (bstr xa), .string (bstr xb), .int .i64 xn, .int .i64 xc, .slice pk nk ck] from by rw [← hW]; exact Blk.new _ _ _ rfl)
  clear hW
  have HT1 := Lib.hid (H.out.aside HK1.out (Nat.le_refl _) HQ1.out.lt)
  obtain ⟨q, hq⟩ : ∃ q, q = w.heap.size := ⟨_, rfl⟩
  rw [← hq] at HQ1 HT1 ⊢
  clear hq
  obtain ⟨cb, w2, hcv, hrowb, hk2, hz2⟩ := str_bytes_lt (P := Tryz.prog) w1 Tryz.underlying22 Tryz.underlying5 Tryz.underlying9 (bstr xb) (by rw [hzb]; omega)
  rw [hzb] at hcv hrowb
  rw [bstr_data] at hrowb
  have b2 : w1.cell? ⟨q, 2, none⟩ = some (.string (bstr xb)) := by rw [HQ1.out.cell]; rfl
  obtain ⟨bb, hbb⟩ : ∃ z, z = w1.heap.size := ⟨_, rfl⟩
  have HT2 := Lib.hid (HT1.out.aside hk2 (Nat.le_of_eq hbb.symm) (by rw [hbb]; exact hz2))
  rw [← hbb] at hcv hrowb
  have HST := Lib.hid (stayB (L := [bb, q]) (W := W) (List.mem_cons_self ..) hrowb)
  have HQ2 := Lib.hid (HQ1.out.keeps hk2)
  clear hrowb hk2 hz2 hbb
  go_upto_region 2 with fail
  clear hcv b2
  have k0 : w2.cell? ⟨q, 0, none⟩ = some (.int .i64 4) := by rw [HQ2.out.cell]; rfl
  have HAL := Lib.hid (tidy_al xa (j := 60) hn (by omega) HD.out)
  go_upto_region 12 with fail
  clear k0
  have HT := Lib.hid (HT2.out.keeps (Keeps.refl w2).drew)
  have HMM := Lib.hid (show Mods (fun y => W.heap.size ≤ y ∧ y ∉ [bb, q]) w2 w2.drew from Mods.of_keeps (Keeps.refl w2).drew)
  refine wp_region_noPanic ?_
  refine wp_region_held_drew (S := fun w' => Mods (fun y => y ≠ q) w2 w') (by kernel_rfl) ((Mods.refl (fun y => y ≠ q) w2).drew) (fun _ => ?_)
  have hHeld : Mods (fun y => y ≠ q) w2 (w2).drew := (Mods.refl (fun y => y ≠ q) w2).drew
  generalize World.drew w2 = xs at *
  refine wpAnyH_take (i := 0) (v := ?vv39) (by rfl) (by kernel_rfl) (by kernel_rfl) (by kernel_rfl) (by intro _ _ _ h; exact h) (Or.inl ⟨by kernel_rfl, ?hy39⟩) (by assumption) ?rest39
  case hy39 =>
    intro w' hSw
    have hSw : Mods (fun y => y ≠ q) w2 w' := hSw
    clear hSw
    go_simp
    try with_reducible rfl
  change wpAnyH _ _ _ _ _ _ _ (Act.put _ (some 65) _) _
  try simp only [Act.put, List.setIfInBounds_toArray, List.set_cons_zero, List.set_cons_succ]
  refine wpAnyH_take (i := 1) (v := ?vv40) (by rfl) (by kernel_rfl) (by kernel_rfl) (by kernel_rfl) (by intro _ _ _ h; exact h) (Or.inl ⟨by kernel_rfl, ?hy40⟩) (by assumption) ?rest40
  case hy40 =>
    intro w' hSw
    have hSw : Mods (fun y => y ≠ q) w2 w' := hSw
    clear hSw
    go_simp
    try with_reducible rfl
  change wpAnyH _ _ _ _ _ _ _ (Act.put _ (some 66) _) _
  try simp only [Act.put, List.setIfInBounds_toArray, List.set_cons_zero, List.set_cons_succ]
  refine wpAnyH_take (i := 2) (v := ?vv41) (by rfl) (by kernel_rfl) (by kernel_rfl) (by kernel_rfl) (by intro _ _ _ h; exact h) (Or.inl ⟨by kernel_rfl, ?hy41⟩) (by assumption) ?rest41
  case hy41 =>
    intro w' hSw
    have hSw : Mods (fun y => y ≠ q) w2 w' := hSw
    have hBq := HQ2.out.mods hSw (fun e => e rfl)
    have hx1 : World.cell? w' ⟨q, 1, none⟩ = some (.string (bstr xa)) := by rw [hBq.cell]; rfl
    clear hSw
    go_simp
    try with_reducible rfl
  change wpAnyH _ _ _ _ _ _ _ (Act.put _ (some 67) _) _
  try simp only [Act.put, List.setIfInBounds_toArray, List.set_cons_zero, List.set_cons_succ]
  refine wpAnyH_take (i := 4) (v := ?vv42) (by rfl) (by kernel_rfl) (by kernel_rfl) (by kernel_rfl) (by intro _ _ _ h; exact h) (Or.inl ⟨by kernel_rfl, ?hy42⟩) (by assumption) ?rest42
  case hy42 =>
    intro w' hSw
    have hSw : Mods (fun y => y ≠ q) w2 w' := hSw
    clear hSw
    go_simp
    try with_reducible rfl
  change wpAnyH _ _ _ _ _ _ _ (Act.put _ (some 69) _) _
  try simp only [Act.put, List.setIfInBounds_toArray, List.set_cons_zero, List.set_cons_succ]
  refine wpAnyH_take (i := 5) (v := ?vv43) (by rfl) (by kernel_rfl) (by kernel_rfl) (by kernel_rfl) (by intro _ _ _ h; exact h) (Or.inl ⟨by kernel_rfl, ?hy43⟩) (by assumption) ?rest43
  case hy43 =>
    intro w' hSw
    have hSw : Mods (fun y => y ≠ q) w2 w' := hSw
    clear hSw
    go_simp
    try with_reducible rfl
  change wpAnyH _ _ _ _ _ _ _ (Act.put _ (some 70) _) _
  try simp only [Act.put, List.setIfInBounds_toArray, List.set_cons_zero, List.set_cons_succ]
  refine wpAnyH_take (i := 6) (v := ?vv44) (by rfl) (by kernel_rfl) (by kernel_rfl) (by kernel_rfl) (by intro _ _ _ h; exact h) (Or.inl ⟨by kernel_rfl, ?hy44⟩) (by assumption) ?rest44
  case hy44 =>
    intro w' hSw
    have hSw : Mods (fun y => y ≠ q) w2 w' := hSw
    have hBq := HQ2.out.mods hSw (fun e => e rfl)
    have hx1 : World.cell? w' ⟨q, 1, none⟩ = some (.string (bstr xa)) := by rw [hBq.cell]; rfl
    clear hSw
    go_simp
    try with_reducible rfl
  change wpAnyH _ _ _ _ _ _ _ (Act.put _ (some 71) _) _
  try simp only [Act.put, List.setIfInBounds_toArray, List.set_cons_zero, List.set_cons_succ]
  refine wpAnyH_ready (rs := [3]) (by kernel_rfl) (by simp) ?_
  refine AllReadyH.cons (o := _) rfl (fun K hK => ?_) ?_
  · go_simp
    refine (stidy_two HT.out xa (by omega) (fun y hy => Nat.le_trans (HD.out.nl y hy) (by decide)) (N := 60) (Nat.le_trans HD.out.ok.len hn) (by omega)).mono ?_
    rintro e y1 ⟨rfl, h2, hm2⟩
    have HT := Lib.hid h2
    have HMM := Lib.hid (HMM.out.trans hm2 (fun y hy _ => hy))
    have hb := hHeld.trans hm2 (fun y hy _ e => hy.2 (by rw [e]; simp))
    clear h2 hm2
    go_wp2_with fail
    refine hK.out _ _ hb (fun _ => ?_)
    clear hK K hHeld
    have hHeld : Mods (fun y => y ≠ q) w2 y1 := hb
    clear hb
    try simp only [Act.put, List.setIfInBounds_toArray, List.set_cons_zero, List.set_cons_succ]
    refine wpAnyH_ready (rs := [7]) (by kernel_rfl) (by simp) ?_
    refine AllReadyH.cons (o := _) rfl (fun K hK => ?_) ?_
    · go_simp
      refine (rstidy_two HT.out xa (by omega) (fun y hy => Nat.le_trans (HD.out.nl y (by rw [HD.out.seen]; exact hy)) (by decide)) (N := 60) (by rw [← HD.out.seen]; exact Nat.le_trans HD.out.ok.len hn) (by omega)).mono ?_
      rintro e y2 ⟨rfl, h2, hm2⟩
      have HT := Lib.hid h2
      have HMM := Lib.hid (HMM.out.trans hm2 (fun y hy _ => hy))
      have hb := hHeld.trans hm2 (fun y hy _ e => hy.2 (by rw [e]; simp))
      clear h2 hm2
      go_wp2_with fail
      refine hK.out _ _ hb (fun _ => ?_)
      clear hK K hHeld
      have hHeld : Mods (fun y => y ≠ q) w2 y2 := hb
      clear hb
      try simp only [Act.put, List.setIfInBounds_toArray, List.set_cons_zero, List.set_cons_succ]
      refine wpAnyH_take (i := 8) (v := ?vv45) (by rfl) (by kernel_rfl) (by kernel_rfl) (by kernel_rfl) (by intro _ _ _ h; exact h) (Or.inl ⟨by kernel_rfl, ?hy45⟩) (by assumption) ?rest45
      case hy45 =>
        intro w' hSw
        have hSw : Mods (fun y => y ≠ q) w2 w' := hSw
        clear hSw
        go_simp
        try with_reducible rfl
      change wpAnyH _ _ _ _ _ _ _ (Act.put _ (some 73) _) _
      try simp only [Act.put, List.setIfInBounds_toArray, List.set_cons_zero, List.set_cons_succ]
      refine wpAnyH_take (i := 9) (v := ?vv46) (by rfl) (by kernel_rfl) (by kernel_rfl) (by kernel_rfl) (by intro _ _ _ h; exact h) (Or.inl ⟨by kernel_rfl, ?hy46⟩) (by assumption) ?rest46
      case hy46 =>
        intro w' hSw
        have hSw : Mods (fun y => y ≠ q) w2 w' := hSw
        clear hSw
        go_simp
        try with_reducible rfl
      change wpAnyH _ _ _ _ _ _ _ (Act.put _ (some 6) _) _
      try simp only [Act.put, List.setIfInBounds_toArray, List.set_cons_zero, List.set_cons_succ]
      refine wpAnyH_done (by kernel_rfl) ?_ _
      refine NoPanic.normal ?_
      go_wp2_with fail
      go_ret
      exact ⟨_, _, ret_true HAL.out.1, (HT.out.drop (fun y hy => absurd hy (List.not_mem_nil))).more (by omega), HAL.out.2.more (by omega), by have := grows_sTidy xa d; omega⟩
    exact AllReadyH.nil
  exact AllReadyH.nil
set_option maxRecDepth 100000 in
set_option maxHeartbeats 8000000 in
theorem do8_any (h : TwoAt [] W w g d m r k) (hd : DR d r c) (hk : k ≤ 80000) (hc : c ≤ 1000000) (hn : d.nodes.length ≤ 60) (xk : Int) (hkind : xk = 8) (xa xb : Str) (xn xc : Int) (pk : Option Addr) (nk ck : Nat) (keep : List Int) (hxa : xa.length ≤ 100) (hxb : xb.length ≤ 1000) (hxn : (Lit.int .i64 xn).wf = true) (hrow : Row W (.slice pk nk ck) (keep.map (Value.int .i64))) : Calls Tryz.prog 27 #[.pointer (some ⟨g, 0, none⟩), .pointer (some ⟨m, 0, none⟩), .agg #[.int .i64 xk, .string (bstr xa), .string (bstr xb), .int .i64 xn, .int .i64 xc, .slice pk nk ck]] w (SaDid W g m (d.nodes.length + 1) (k + 300) (c + 100)) := by
  have H := Lib.hid h
  have HD := Lib.hid hd
  have HWN := Lib.hid hxn
  have HRK := Lib.hid hrow
  have hni := wf_in hxn
  have hzb := bstr_size xb
  have hml : (1000 : Nat) ≤ maxLen := by decide
  clear h hd hxn hrow
  subst hkind
  go_enter Tryz.func27, Tryz.ntmps27
  go_upto_region 1 with fail
  generalize hW : World.alloc w _ = w1
  have HK1 := Lib.hid (show Keeps w w1 from by rw [← hW]; exact (Keeps.refl _).alloc _)
  have HQ1 := Lib.hid (show Blk w1 w.heap.size 68 #[.int .i64 8, .string (bstr xa), .string (bstr xb), .int .i64 xn, .int .i64 xc, .slice pk nk ck] from by rw [← hW]; exact Blk.new _ _ _ rfl)
  clear hW
  have HT1 := Lib.hid (H.out.aside HK1.out (Nat.le_refl _) HQ1.out.lt)
  obtain ⟨q, hq⟩ : ∃ q, q = w.heap.size := ⟨_, rfl⟩
  rw [← hq] at HQ1 HT1 ⊢
  clear hq
  obtain ⟨cb, w2, hcv, hrowb, hk2, hz2⟩ := str_bytes_lt (P := Tryz.prog) w1 Tryz.underlying22 Tryz.underlying5 Tryz.underlying9 (bstr xb) (by rw [hzb]; omega)
  rw [hzb] at hcv hrowb
  rw [bstr_data] at hrowb
  have b2 : w1.cell? ⟨q, 2, none⟩ = some (.string (bstr xb)) := by rw [HQ1.out.cell]; rfl
  obtain ⟨bb, hbb⟩ : ∃ z, z = w1.heap.size := ⟨_, rfl⟩
  have HT2 := Lib.hid (HT1.out.aside hk2 (Nat.le_of_eq hbb.symm) (by rw [hbb]; exact hz2))
  rw [← hbb] at hcv hrowb
  have HST := Lib.hid (stayB (L := [bb, q]) (W := W) (List.mem_cons_self ..) hrowb)
  have HQ2 := Lib.hid (HQ1.out.keeps hk2)
  clear hrowb hk2 hz2 hbb
  go_upto_region 2 with fail
  clear hcv b2
  have k0 : w2.cell? ⟨q, 0, none⟩ = some (.int .i64 8) := by rw [HQ2.out.cell]; rfl
  have HAL := Lib.hid (create_alike xa d r c (by omega) HD.out)
  go_upto_region 23 with fail
  clear k0
  have HT := Lib.hid (HT2.out.keeps (Keeps.refl w2).drew)
  have HMM := Lib.hid (show Mods (fun y => W.heap.size ≤ y ∧ y ∉ [bb, q]) w2 w2.drew from Mods.of_keeps (Keeps.refl w2).drew)
  refine wp_region_noPanic ?_
  refine wp_region_held_drew (S := fun w' => Mods (fun y => y ≠ q) w2 w') (by kernel_rfl) ((Mods.refl (fun y => y ≠ q) w2).drew) (fun _ => ?_)
  have hHeld : Mods (fun y => y ≠ q) w2 (w2).drew := (Mods.refl (fun y => y ≠ q) w2).drew
  generalize World.drew w2 = xs at *
  refine wpAnyH_take (i := 0) (v := ?vv47) (by rfl) (by kernel_rfl) (by kernel_rfl) (by kernel_rfl) (by intro _ _ _ h; exact h) (Or.inl ⟨by kernel_rfl, ?hy47⟩) (by assumption) ?rest47
  case hy47 =>
    intro w' hSw
    have hSw : Mods (fun y => y ≠ q) w2 w' := hSw
    clear hSw
    go_simp
    try with_reducible rfl
  change wpAnyH _ _ _ _ _ _ _ (Act.put _ (some 124) _) _
  try simp only [Act.put, List.setIfInBounds_toArray, List.set_cons_zero, List.set_cons_succ]
  refine wpAnyH_take (i := 1) (v := ?vv48) (by rfl) (by kernel_rfl) (by kernel_rfl) (by kernel_rfl) (by intro _ _ _ h; exact h) (Or.inl ⟨by kernel_rfl, ?hy48⟩) (by assumption) ?rest48
  case hy48 =>
    intro w' hSw
    have hSw : Mods (fun y => y ≠ q) w2 w' := hSw
    clear hSw
    go_simp
    try with_reducible rfl
  change wpAnyH _ _ _ _ _ _ _ (Act.put _ (some 125) _) _
  try simp only [Act.put, List.setIfInBounds_toArray, List.set_cons_zero, List.set_cons_succ]
  refine wpAnyH_take (i := 2) (v := ?vv49) (by rfl) (by kernel_rfl) (by kernel_rfl) (by kernel_rfl) (by intro _ _ _ h; exact h) (Or.inl ⟨by kernel_rfl, ?hy49⟩) (by assumption) ?rest49
  case hy49 =>
    intro w' hSw
    have hSw : Mods (fun y => y ≠ q) w2 w' := hSw
    have hBq := HQ2.out.mods hSw (fun e => e rfl)
    have hx1 : World.cell? w' ⟨q, 1, none⟩ = some (.string (bstr xa)) := by rw [hBq.cell]; rfl
    clear hSw
    go_simp
    try with_reducible rfl
  change wpAnyH _ _ _ _ _ _ _ (Act.put _ (some 126) _) _
  try simp only [Act.put, List.setIfInBounds_toArray, List.set_cons_zero, List.set_cons_succ]
  refine wpAnyH_take (i := 4) (v := ?vv50) (by rfl) (by kernel_rfl) (by kernel_rfl) (by kernel_rfl) (by intro _ _ _ h; exact h) (Or.inl ⟨by kernel_rfl, ?hy50⟩) (by assumption) ?rest50
  case hy50 =>
    intro w' hSw
    have hSw : Mods (fun y => y ≠ q) w2 w' := hSw
    clear hSw
    go_simp
    try with_reducible rfl
  change wpAnyH _ _ _ _ _ _ _ (Act.put _ (some 128) _) _
  try simp only [Act.put, List.setIfInBounds_toArray, List.set_cons_zero, List.set_cons_succ]
  refine wpAnyH_take (i := 5) (v := ?vv51) (by rfl) (by kernel_rfl) (by kernel_rfl) (by kernel_rfl) (by intro _ _ _ h; exact h) (Or.inl ⟨by kernel_rfl, ?hy51⟩) (by assumption) ?rest51
  case hy51 =>
    intro w' hSw
    have hSw : Mods (fun y => y ≠ q) w2 w' := hSw
    clear hSw
    go_simp
    try with_reducible rfl
  change wpAnyH _ _ _ _ _ _ _ (Act.put _ (some 129) _) _
  try simp only [Act.put, List.setIfInBounds_toArray, List.set_cons_zero, List.set_cons_succ]
  refine wpAnyH_take (i := 6) (v := ?vv52) (by rfl) (by kernel_rfl) (by kernel_rfl) (by kernel_rfl) (by intro _ _ _ h; exact h) (Or.inl ⟨by kernel_rfl, ?hy52⟩) (by assumption) ?rest52
  case hy52 =>
    intro w' hSw
    have hSw : Mods (fun y => y ≠ q) w2 w' := hSw
    have hBq := HQ2.out.mods hSw (fun e => e rfl)
    have hx1 : World.cell? w' ⟨q, 1, none⟩ = some (.string (bstr xa)) := by rw [hBq.cell]; rfl
    clear hSw
    go_simp
    try with_reducible rfl
  change wpAnyH _ _ _ _ _ _ _ (Act.put _ (some 130) _) _
  try simp only [Act.put, List.setIfInBounds_toArray, List.set_cons_zero, List.set_cons_succ]
  refine wpAnyH_ready (rs := [3]) (by kernel_rfl) (by simp) ?_
  refine AllReadyH.cons (o := _) rfl (fun K hK => ?_) ?_
  · go_simp
    refine (create_two HT.out (by omega) xa (by omega)).mono ?_
    rintro e y1 ⟨rfl, h2, hm2⟩
    have HT := Lib.hid h2
    have HMM := Lib.hid (HMM.out.trans hm2 (fun y hy _ => hy))
    have hb := hHeld.trans hm2 (fun y hy _ e => hy.2 (by rw [e]; simp))
    clear h2 hm2
    go_wp2_with fail
    refine hK.out _ _ hb (fun _ => ?_)
    clear hK K hHeld
    have hHeld : Mods (fun y => y ≠ q) w2 y1 := hb
    clear hb
    try simp only [Act.put, List.setIfInBounds_toArray, List.set_cons_zero, List.set_cons_succ]
    refine wpAnyH_ready (rs := [7]) (by kernel_rfl) (by simp) ?_
    refine AllReadyH.cons (o := _) rfl (fun K hK => ?_) ?_
    · go_simp
      refine (rcreate_two HT.out (by omega) xa (by omega)).mono ?_
      rintro e y2 ⟨rfl, h2, hm2⟩
      have HT := Lib.hid h2
      have HMM := Lib.hid (HMM.out.trans hm2 (fun y hy _ => hy))
      have hb := hHeld.trans hm2 (fun y hy _ e => hy.2 (by rw [e]; simp))
      clear h2 hm2
      go_wp2_with fail
      refine hK.out _ _ hb (fun _ => ?_)
      clear hK K hHeld
      have hHeld : Mods (fun y => y ≠ q) w2 y2 := hb
      clear hb
      try simp only [Act.put, List.setIfInBounds_toArray, List.set_cons_zero, List.set_cons_succ]
      refine wpAnyH_take (i := 8) (v := ?vv53) (by rfl) (by kernel_rfl) (by kernel_rfl) (by kernel_rfl) (by intro _ _ _ h; exact h) (Or.inl ⟨by kernel_rfl, ?hy53⟩) (by assumption) ?rest53
      case hy53 =>
        intro w' hSw
        have hSw : Mods (fun y => y ≠ q) w2 w' := hSw
        clear hSw
        go_simp
        try with_reducible rfl
      change wpAnyH _ _ _ _ _ _ _ (Act.put _ (some 132) _) _
      try simp only [Act.put, List.setIfInBounds_toArray, List.set_cons_zero, List.set_cons_succ]
      refine wpAnyH_take (i := 9) (v := ?vv54) (by rfl) (by kernel_rfl) (by kernel_rfl) (by kernel_rfl) (by intro _ _ _ h; exact h) (Or.inl ⟨by kernel_rfl, ?hy54⟩) (by assumption) ?rest54
      case hy54 =>
        intro w' hSw
        have hSw : Mods (fun y => y ≠ q) w2 w' := hSw
        clear hSw
        go_simp
        try with_reducible rfl
      change wpAnyH _ _ _ _ _ _ _ (Act.put _ (some 6) _) _
      try simp only [Act.put, List.setIfInBounds_toArray, List.set_cons_zero, List.set_cons_succ]
      refine wpAnyH_done (by kernel_rfl) ?_ _
      refine NoPanic.normal ?_
      go_wp2_with fail
      go_ret
      exact ⟨_, _, ret_true HAL.out.1, (HT.out.drop (fun y hy => absurd hy (List.not_mem_nil))).more (by omega), HAL.out.2.more (by omega), grows_create xa d⟩
    exact AllReadyH.nil
  exact AllReadyH.nil
set_option maxRecDepth 100000 in
set_option maxHeartbeats 8000000 in
theorem do7_any (h : TwoAt [] W w g d m r k) (hd : DR d r c) (hk : k ≤ 80000) (hc : c ≤ 1000000) (hn : d.nodes.length ≤ 60) (xk : Int) (hkind : xk = 7) (xa xb : Str) (xn xc : Int) (pk : Option Addr) (nk ck : Nat) (keep : List Int) (hxa : xa.length ≤ 100) (hxb : xb.length ≤ 1000) (hxn : (Lit.int .i64 xn).wf = true) (hrow : Row W (.slice pk nk ck) (keep.map (Value.int .i64))) : Calls Tryz.prog 27 #[.pointer (some ⟨g, 0, none⟩), .pointer (some ⟨m, 0, none⟩), .agg #[.int .i64 xk, .string (bstr xa), .string (bstr xb), .int .i64 xn, .int .i64 xc, .slice pk nk ck]] w (SaDid W g m (d.nodes.length + 1) (k + 300) (c + 100)) := by
  have H := Lib.hid h
  have HD := Lib.hid hd
  have HWN := Lib.hid hxn
  have HRK := Lib.hid hrow
  have hni := wf_in hxn
  have hzb := bstr_size xb
  have hml : (1000 : Nat) ≤ maxLen := by decide
  clear h hd hxn hrow
  subst hkind
  go_enter Tryz.func27, Tryz.ntmps27
  go_upto_region 1 with fail
  generalize hW : World.alloc w _ = w1
  have HK1 := Lib.hid (show Keeps w w1 from by rw [← hW]; exact (Keeps.refl _).alloc _)
  have HQ1 := Lib.hid (show Blk w1 w.heap.size 68 #[.int .i64 7, .string (bstr xa), .string (bstr xb), .int .i64 xn, .int .i64 xc, .slice pk nk ck] from by rw [← hW]; exact Blk.new _ _ _ rfl)
  clear hW
  have HT1 := Lib.hid (H.out.aside HK1.out (Nat.le_refl _) HQ1.out.lt)
  obtain ⟨q, hq⟩ : ∃ q, q = w.heap.size := ⟨_, rfl⟩
  rw [← hq] at HQ1 HT1 ⊢
  clear hq
  obtain ⟨cb, w2, hcv, hrowb, hk2, hz2⟩ := str_bytes_lt (P := Tryz.prog) w1 Tryz.underlying22 Tryz.underlying5 Tryz.underlying9 (bstr xb) (by rw [hzb]; omega)
  rw [hzb] at hcv hrowb
  rw [bstr_data] at hrowb
  have b2 : w1.cell? ⟨q, 2, none⟩ = some (.string (bstr xb)) := by rw [HQ1.out.cell]; rfl
  obtain ⟨bb, hbb⟩ : ∃ z, z = w1.heap.size := ⟨_, rfl⟩
  have HT2 := Lib.hid (HT1.out.aside hk2 (Nat.le_of_eq hbb.symm) (by rw [hbb]; exact hz2))
  rw [← hbb] at hcv hrowb
  have HST := Lib.hid (stayB (L := [bb, q]) (W := W) (List.mem_cons_self ..) hrowb)
  have HQ2 := Lib.hid (HQ1.out.keeps hk2)
  clear hrowb hk2 hz2 hbb
  go_upto_region 2 with fail
  clear hcv b2
  have k0 : w2.cell? ⟨q, 0, none⟩ = some (.int .i64 7) := by rw [HQ2.out.cell]; rfl
  have HAL := Lib.hid (boot_alike HD.out xn keep)
  have HFT := Lib.hid (fit_of H.out)
  have hnk := H.out.fw.n
  go_upto_region 21 with fail
  clear k0
  have HT := Lib.hid (HT2.out.keeps (Keeps.refl w2).drew)
  have HMM := Lib.hid (show Mods (fun y => W.heap.size ≤ y ∧ y ∉ [bb, q]) w2 w2.drew from Mods.of_keeps (Keeps.refl w2).drew)
  refine wp_region_noPanic ?_
  refine wp_region_held_drew (S := fun w' => Mods (fun y => y ≠ q) w2 w') (by kernel_rfl) ((Mods.refl (fun y => y ≠ q) w2).drew) (fun _ => ?_)
  have hHeld : Mods (fun y => y ≠ q) w2 (w2).drew := (Mods.refl (fun y => y ≠ q) w2).drew
  generalize World.drew w2 = xs at *
  refine wpAnyH_take (i := 0) (v := ?vv55) (by rfl) (by kernel_rfl) (by kernel_rfl) (by kernel_rfl) (by intro _ _ _ h; exact h) (Or.inl ⟨by kernel_rfl, ?hy55⟩) (by assumption) ?rest55
  case hy55 =>
    intro w' hSw
    have hSw : Mods (fun y => y ≠ q) w2 w' := hSw
    clear hSw
    go_simp
    try with_reducible rfl
  change wpAnyH _ _ _ _ _ _ _ (Act.put _ (some 109) _) _
  try simp only [Act.put, List.setIfInBounds_toArray, List.set_cons_zero, List.set_cons_succ]
  refine wpAnyH_take (i := 1) (v := ?vv56) (by rfl) (by kernel_rfl) (by kernel_rfl) (by kernel_rfl) (by intro _ _ _ h; exact h) (Or.inl ⟨by kernel_rfl, ?hy56⟩) (by assumption) ?rest56
  case hy56 =>
    intro w' hSw
    have hSw : Mods (fun y => y ≠ q) w2 w' := hSw
    clear hSw
    go_simp
    try with_reducible rfl
  change wpAnyH _ _ _ _ _ _ _ (Act.put _ (some 110) _) _
  try simp only [Act.put, List.setIfInBounds_toArray, List.set_cons_zero, List.set_cons_succ]
  refine wpAnyH_take (i := 2) (v := ?vv57) (by rfl) (by kernel_rfl) (by kernel_rfl) (by kernel_rfl) (by intro _ _ _ h; exact h) (Or.inl ⟨by kernel_rfl, ?hy57⟩) (by assumption) ?rest57
  case hy57 =>
    intro w' hSw
    have hSw : Mods (fun y => y ≠ q) w2 w' := hSw
    have hBq := HQ2.out.mods hSw (fun e => e rfl)
    have hx3 : World.cell? w' ⟨q, 3, none⟩ = some (.int .i64 xn) := by rw [hBq.cell]; rfl
    clear hSw
    go_simp
    try with_reducible rfl
  change wpAnyH _ _ _ _ _ _ _ (Act.put _ (some 111) _) _
  try simp only [Act.put, List.setIfInBounds_toArray, List.set_cons_zero, List.set_cons_succ]
  refine wpAnyH_take (i := 3) (v := ?vv58) (by rfl) (by kernel_rfl) (by kernel_rfl) (by kernel_rfl) (by intro _ _ _ h; exact h) (Or.inl ⟨by kernel_rfl, ?hy58⟩) (by assumption) ?rest58
  case hy58 =>
    intro w' hSw
    have hSw : Mods (fun y => y ≠ q) w2 w' := hSw
    clear hSw
    go_simp
    try with_reducible rfl
  change wpAnyH _ _ _ _ _ _ _ (Act.put _ (some 112) _) _
  try simp only [Act.put, List.setIfInBounds_toArray, List.set_cons_zero, List.set_cons_succ]
  refine wpAnyH_take (i := 4) (v := ?vv59) (by rfl) (by kernel_rfl) (by kernel_rfl) (by kernel_rfl) (by intro _ _ _ h; exact h) (Or.inl ⟨by kernel_rfl, ?hy59⟩) (by assumption) ?rest59
  case hy59 =>
    intro w' hSw
    have hSw : Mods (fun y => y ≠ q) w2 w' := hSw
    have hBq := HQ2.out.mods hSw (fun e => e rfl)
    have hx5 : World.cell? w' ⟨q, 5, none⟩ = some (.slice pk nk ck) := by rw [hBq.cell]; rfl
    clear hSw
    go_simp
    try with_reducible rfl
  change wpAnyH _ _ _ _ _ _ _ (Act.put _ (some 113) _) _
  try simp only [Act.put, List.setIfInBounds_toArray, List.set_cons_zero, List.set_cons_succ]
  refine wpAnyH_take (i := 6) (v := ?vv60) (by rfl) (by kernel_rfl) (by kernel_rfl) (by kernel_rfl) (by intro _ _ _ h; exact h) (Or.inl ⟨by kernel_rfl, ?hy60⟩) (by assumption) ?rest60
  case hy60 =>
    intro w' hSw
    have hSw : Mods (fun y => y ≠ q) w2 w' := hSw
    clear hSw
    go_simp
    try with_reducible rfl
  change wpAnyH _ _ _ _ _ _ _ (Act.put _ (some 115) _) _
  try simp only [Act.put, List.setIfInBounds_toArray, List.set_cons_zero, List.set_cons_succ]
  refine wpAnyH_take (i := 7) (v := ?vv61) (by rfl) (by kernel_rfl) (by kernel_rfl) (by kernel_rfl) (by intro _ _ _ h; exact h) (Or.inl ⟨by kernel_rfl, ?hy61⟩) (by assumption) ?rest61
  case hy61 =>
    intro w' hSw
    have hSw : Mods (fun y => y ≠ q) w2 w' := hSw
    clear hSw
    go_simp
    try with_reducible rfl
  change wpAnyH _ _ _ _ _ _ _ (Act.put _ (some 116) _) _
  try simp only [Act.put, List.setIfInBounds_toArray, List.set_cons_zero, List.set_cons_succ]
  refine wpAnyH_take (i := 8) (v := ?vv62) (by rfl) (by kernel_rfl) (by kernel_rfl) (by kernel_rfl) (by intro _ _ _ h; exact h) (Or.inl ⟨by kernel_rfl, ?hy62⟩) (by assumption) ?rest62
  case hy62 =>
    intro w' hSw
    have hSw : Mods (fun y => y ≠ q) w2 w' := hSw
    have hBq := HQ2.out.mods hSw (fun e => e rfl)
    have hx3 : World.cell? w' ⟨q, 3, none⟩ = some (.int .i64 xn) := by rw [hBq.cell]; rfl
    clear hSw
    go_simp
    try with_reducible rfl
  change wpAnyH _ _ _ _ _ _ _ (Act.put _ (some 117) _) _
  try simp only [Act.put, List.setIfInBounds_toArray, List.set_cons_zero, List.set_cons_succ]
  refine wpAnyH_take (i := 9) (v := ?vv63) (by rfl) (by kernel_rfl) (by kernel_rfl) (by kernel_rfl) (by intro _ _ _ h; exact h) (Or.inl ⟨by kernel_rfl, ?hy63⟩) (by assumption) ?rest63
  case hy63 =>
    intro w' hSw
    have hSw : Mods (fun y => y ≠ q) w2 w' := hSw
    clear hSw
    go_simp
    try with_reducible rfl
  change wpAnyH _ _ _ _ _ _ _ (Act.put _ (some 118) _) _
  try simp only [Act.put, List.setIfInBounds_toArray, List.set_cons_zero, List.set_cons_succ]
  refine wpAnyH_take (i := 10) (v := ?vv64) (by rfl) (by kernel_rfl) (by kernel_rfl) (by kernel_rfl) (by intro _ _ _ h; exact h) (Or.inl ⟨by kernel_rfl, ?hy64⟩) (by assumption) ?rest64
  case hy64 =>
    intro w' hSw
    have hSw : Mods (fun y => y ≠ q) w2 w' := hSw
    have hBq := HQ2.out.mods hSw (fun e => e rfl)
    have hx5 : World.cell? w' ⟨q, 5, none⟩ = some (.slice pk nk ck) := by rw [hBq.cell]; rfl
    clear hSw
    go_simp
    try with_reducible rfl
  change wpAnyH _ _ _ _ _ _ _ (Act.put _ (some 119) _) _
  try simp only [Act.put, List.setIfInBounds_toArray, List.set_cons_zero, List.set_cons_succ]
  refine wpAnyH_ready (rs := [5]) (by kernel_rfl) (by simp) ?_
  refine AllReadyH.cons (o := _) rfl (fun K hK => ?_) ?_
  · go_simp
    refine (boot_two HT.out (by omega) HD.out (by omega) xn HWN.out (stayW HT.out HRK.out)).mono ?_
    rintro e y1 ⟨rfl, h2, hm2⟩
    have HT := Lib.hid h2
    have HMM := Lib.hid (HMM.out.trans hm2 (fun y hy _ => hy))
    have hb := hHeld.trans hm2 (fun y hy _ e => hy.2 (by rw [e]; simp))
    clear h2 hm2
    go_wp2_with fail
    refine hK.out _ _ hb (fun _ => ?_)
    clear hK K hHeld
    have hHeld : Mods (fun y => y ≠ q) w2 y1 := hb
    clear hb
    try simp only [Act.put, List.setIfInBounds_toArray, List.set_cons_zero, List.set_cons_succ]
    refine wpAnyH_ready (rs := [11]) (by kernel_rfl) (by simp) ?_
    refine AllReadyH.cons (o := _) rfl (fun K hK => ?_) ?_
    · go_simp
      refine (rboot_two HT.out (by omega) HD.out HFT.out (by omega) xn HWN.out (stayW HT.out HRK.out)).mono ?_
      rintro e y2 ⟨rfl, h2, hm2⟩
      have HT := Lib.hid h2
      have HMM := Lib.hid (HMM.out.trans hm2 (fun y hy _ => hy))
      have hb := hHeld.trans hm2 (fun y hy _ e => hy.2 (by rw [e]; simp))
      clear h2 hm2
      go_wp2_with fail
      refine hK.out _ _ hb (fun _ => ?_)
      clear hK K hHeld
      have hHeld : Mods (fun y => y ≠ q) w2 y2 := hb
      clear hb
      try simp only [Act.put, List.setIfInBounds_toArray, List.set_cons_zero, List.set_cons_succ]
      refine wpAnyH_take (i := 12) (v := ?vv65) (by rfl) (by kernel_rfl) (by kernel_rfl) (by kernel_rfl) (by intro _ _ _ h; exact h) (Or.inl ⟨by kernel_rfl, ?hy65⟩) (by assumption) ?rest65
      case hy65 =>
        intro w' hSw
        have hSw : Mods (fun y => y ≠ q) w2 w' := hSw
        clear hSw
        go_simp
        try with_reducible rfl
      change wpAnyH _ _ _ _ _ _ _ (Act.put _ (some 121) _) _
      try simp only [Act.put, List.setIfInBounds_toArray, List.set_cons_zero, List.set_cons_succ]
      refine wpAnyH_take (i := 13) (v := ?vv66) (by rfl) (by kernel_rfl) (by kernel_rfl) (by kernel_rfl) (by intro _ _ _ h; exact h) (Or.inl ⟨by kernel_rfl, ?hy66⟩) (by assumption) ?rest66
      case hy66 =>
        intro w' hSw
        have hSw : Mods (fun y => y ≠ q) w2 w' := hSw
        clear hSw
        go_simp
        try with_reducible rfl
      change wpAnyH _ _ _ _ _ _ _ (Act.put _ (some 6) _) _
      try simp only [Act.put, List.setIfInBounds_toArray, List.set_cons_zero, List.set_cons_succ]
      refine wpAnyH_done (by kernel_rfl) ?_ _
      refine NoPanic.normal ?_
      go_wp2_with fail
      go_ret
      exact ⟨_, _, ret_true HAL.out.1, (HT.out.drop (fun y hy => absurd hy (List.not_mem_nil))).more (by omega), HAL.out.2.more (by omega), by have := grows_boot d xn keep; omega⟩
    exact AllReadyH.nil
  exact AllReadyH.nil
set_option maxRecDepth 100000 in
set_option maxHeartbeats 8000000 in
theorem do9_any (h : TwoAt [] W w g d m r k) (hd : DR d r c) (hk : k ≤ 80000) (hc : c ≤ 1000000) (hn : d.nodes.length ≤ 60) (xk : Int) (hkind : xk = 9) (xa xb : Str) (xn xc : Int) (pk : Option Addr) (nk ck : Nat) (keep : List Int) (hxa : xa.length ≤ 100) (hxb : xb.length ≤ 1000) (hxn : (Lit.int .i64 xn).wf = true) (hrow : Row W (.slice pk nk ck) (keep.map (Value.int .i64))) : Calls Tryz.prog 27 #[.pointer (some ⟨g, 0, none⟩), .pointer (some ⟨m, 0, none⟩), .agg #[.int .i64 xk, .string (bstr xa), .string (bstr xb), .int .i64 xn, .int .i64 xc, .slice pk nk ck]] w (SaDid W g m (d.nodes.length + 1) (k + 300) (c + 100)) := by
  have H := Lib.hid h
  have HD := Lib.hid hd
  have HWN := Lib.hid hxn
  have HRK := Lib.hid hrow
  have hni := wf_in hxn
  have hzb := bstr_size xb
  have hml : (1000 : Nat) ≤ maxLen := by decide
  clear h hd hxn hrow
  subst hkind
  go_enter Tryz.func27, Tryz.ntmps27
  go_upto_region 1 with fail
  generalize hW : World.alloc w _ = w1
  have HK1 := Lib.hid (show Keeps w w1 from by rw [← hW]; exact (Keeps.refl _).alloc _)
  have HQ1 := Lib.hid (show Blk w1 w.heap.size 68 #[.int .i64 9, .string (bstr xa), .string (bstr xb), .int .i64 xn, .int .i64 xc, .slice pk nk ck] from by rw [← hW]; exact Blk.new _ _ _ rfl)
  clear hW
  have HT1 := Lib.hid (H.out.aside HK1.out (Nat.le_refl _) HQ1.out.lt)
  obtain ⟨q, hq⟩ : ∃ q, q = w.heap.size := ⟨_, rfl⟩
  rw [← hq] at HQ1 HT1 ⊢
  clear hq
  obtain ⟨cb, w2, hcv, hrowb, hk2, hz2⟩ := str_bytes_lt (P := Tryz.prog) w1 Tryz.underlying22 Tryz.underlying5 Tryz.underlying9 (bstr xb) (by rw [hzb]; omega)
  rw [hzb] at hcv hrowb
  rw [bstr_data] at hrowb
  have b2 : w1.cell? ⟨q, 2, none⟩ = some (.string (bstr xb)) := by rw [HQ1.out.cell]; rfl
  obtain ⟨bb, hbb⟩ : ∃ z, z = w1.heap.size := ⟨_, rfl⟩
  have HT2 := Lib.hid (HT1.out.aside hk2 (Nat.le_of_eq hbb.symm) (by rw [hbb]; exact hz2))
  rw [← hbb] at hcv hrowb
  have HST := Lib.hid (stayB (L := [bb, q]) (W := W) (List.mem_cons_self ..) hrowb)
  have HQ2 := Lib.hid (HQ1.out.keeps hk2)
  clear hrowb hk2 hz2 hbb
  go_upto_region 2 with fail
  clear hcv b2
  have k0 : w2.cell? ⟨q, 0, none⟩ = some (.int .i64 9) := by rw [HQ2.out.cell]; rfl
  have HAL := Lib.hid (syncDir_alike d r c (by omega) HD.out)
  go_wp2_with fail
  refine (syncDir_two HT2.out (by omega)).mono ?_
  rintro e y1 ⟨rfl, h2, -⟩
  have HT := Lib.hid h2
  clear h2 k0
  go_wp2_with fail
  refine (rsyncDir_two HT.out (by omega)).mono ?_
  rintro e y2 ⟨rfl, h2, -⟩
  have HT := Lib.hid h2
  clear h2
  go_wp2_with fail
  go_ret
  exact ⟨_, _, ret_true HAL.out.1, (HT.out.drop (fun y hy => absurd hy (List.not_mem_nil))).more (by omega), HAL.out.2.more (by omega), by have := grows_syncDir d; omega⟩
set_option maxRecDepth 100000 in
set_option maxHeartbeats 8000000 in
theorem do10_any (h : TwoAt [] W w g d m r k) (hd : DR d r c) (hk : k ≤ 80000) (hc : c ≤ 1000000) (hn : d.nodes.length ≤ 60) (xk : Int) (hkind : xk < 0 ∨ 9 < xk) (xa xb : Str) (xn xc : Int) (pk : Option Addr) (nk ck : Nat) (keep : List Int) (hxa : xa.length ≤ 100) (hxb : xb.length ≤ 1000) (hxn : (Lit.int .i64 xn).wf = true) (hrow : Row W (.slice pk nk ck) (keep.map (Value.int .i64))) : Calls Tryz.prog 27 #[.pointer (some ⟨g, 0, none⟩), .pointer (some ⟨m, 0, none⟩), .agg #[.int .i64 xk, .string (bstr xa), .string (bstr xb), .int .i64 xn, .int .i64 xc, .slice pk nk ck]] w (SaDid W g m (d.nodes.length + 1) (k + 300) (c + 100)) := by
  have H := Lib.hid h
  have HD := Lib.hid hd
  have HWN := Lib.hid hxn
  have HRK := Lib.hid hrow
  have hni := wf_in hxn
  have hzb := bstr_size xb
  have hml : (1000 : Nat) ≤ maxLen := by decide
  clear h hd hxn hrow
  have e0 : (xk == 0) = false := by simp; omega
  have e1 : (xk == 1) = false := by simp; omega
  have e2 : (xk == 2) = false := by simp; omega
  have e3 : (xk == 3) = false := by simp; omega
  have e4 : (xk == 4) = false := by simp; omega
  have e5 : (xk == 5) = false := by simp; omega
  have e6 : (xk == 6) = false := by simp; omega
  have e7 : (xk == 7) = false := by simp; omega
  have e8 : (xk == 8) = false := by simp; omega
  have e9 : (xk == 9) = false := by simp; omega
  go_enter Tryz.func27, Tryz.ntmps27
  go_upto_region 1 with fail
  generalize hW : World.alloc w _ = w1
  have HK1 := Lib.hid (show Keeps w w1 from by rw [← hW]; exact (Keeps.refl _).alloc _)
  have HQ1 := Lib.hid (show Blk w1 w.heap.size 68 #[.int .i64 xk, .string (bstr xa), .string (bstr xb), .int .i64 xn, .int .i64 xc, .slice pk nk ck] from by rw [← hW]; exact Blk.new _ _ _ rfl)
  clear hW
  have HT1 := Lib.hid (H.out.aside HK1.out (Nat.le_refl _) HQ1.out.lt)
  obtain ⟨q, hq⟩ : ∃ q, q = w.heap.size := ⟨_, rfl⟩
  rw [← hq] at HQ1 HT1 ⊢
  clear hq
  obtain ⟨cb, w2, hcv, hrowb, hk2, hz2⟩ := str_bytes_lt (P := Tryz.prog) w1 Tryz.underlying22 Tryz.underlying5 Tryz.underlying9 (bstr xb) (by rw [hzb]; omega)
  rw [hzb] at hcv hrowb
  rw [bstr_data] at hrowb
  have b2 : w1.cell? ⟨q, 2, none⟩ = some (.string (bstr xb)) := by rw [HQ1.out.cell]; rfl
  obtain ⟨bb, hbb⟩ : ∃ z, z = w1.heap.size := ⟨_, rfl⟩
  have HT2 := Lib.hid (HT1.out.aside hk2 (Nat.le_of_eq hbb.symm) (by rw [hbb]; exact hz2))
  rw [← hbb] at hcv hrowb
  have HST := Lib.hid (stayB (L := [bb, q]) (W := W) (List.mem_cons_self ..) hrowb)
  have HQ2 := Lib.hid (HQ1.out.keeps hk2)
  clear hrowb hk2 hz2 hbb
  go_upto_region 2 with fail
  clear hcv b2
  have k0 : w2.cell? ⟨q, 0, none⟩ = some (.int .i64 xk) := by rw [HQ2.out.cell]; rfl
  have HHA := Lib.hid (has_alike HD.out xa)
  go_upto_region 26 with fail
  have HT := Lib.hid (HT2.out.keeps (Keeps.refl w2).drew)
  have HQ2 := Lib.hid HQ2.out
  refine wp_region_noPanic ?_
  refine wp_region_held_drew (S := fun w' => Mods (fun y => y ≠ q) w2 w') (by kernel_rfl) ((Mods.refl (fun y => y ≠ q) w2).drew) (fun _ => ?_)
  have hHeld : Mods (fun y => y ≠ q) w2 (w2).drew := (Mods.refl (fun y => y ≠ q) w2).drew
  generalize World.drew w2 = xs at *
  refine wpAnyH_take (i := 0) (v := ?vv67) (by rfl) (by kernel_rfl) (by kernel_rfl) (by kernel_rfl) (by intro _ _ _ h; exact h) (Or.inl ⟨by kernel_rfl, ?hy67⟩) (by assumption) ?rest67
  case hy67 =>
    intro w' hSw
    have hSw : Mods (fun y => y ≠ q) w2 w' := hSw
    clear hSw
    go_simp
    try with_reducible rfl
  change wpAnyH _ _ _ _ _ _ _ (Act.put _ (some 140) _) _
  try simp only [Act.put, List.setIfInBounds_toArray, List.set_cons_zero, List.set_cons_succ]
  refine wpAnyH_take (i := 1) (v := ?vv68) (by rfl) (by kernel_rfl) (by kernel_rfl) (by kernel_rfl) (by intro _ _ _ h; exact h) (Or.inl ⟨by kernel_rfl, ?hy68⟩) (by assumption) ?rest68
  case hy68 =>
    intro w' hSw
    have hSw : Mods (fun y => y ≠ q) w2 w' := hSw
    clear hSw
    go_simp
    try with_reducible rfl
  change wpAnyH _ _ _ _ _ _ _ (Act.put _ (some 141) _) _
  try simp only [Act.put, List.setIfInBounds_toArray, List.set_cons_zero, List.set_cons_succ]
  refine wpAnyH_take (i := 2) (v := ?vv69) (by rfl) (by kernel_rfl) (by kernel_rfl) (by kernel_rfl) (by intro _ _ _ h; exact h) (Or.inl ⟨by kernel_rfl, ?hy69⟩) (by assumption) ?rest69
  case hy69 =>
    intro w' hSw
    have hSw : Mods (fun y => y ≠ q) w2 w' := hSw
    have hBq := HQ2.out.mods hSw (fun e => e rfl)
    have hx1 : World.cell? w' ⟨q, 1, none⟩ = some (.string (bstr xa)) := by rw [hBq.cell]; rfl
    clear hSw
    go_simp
    try with_reducible rfl
  change wpAnyH _ _ _ _ _ _ _ (Act.put _ (some 142) _) _
  try simp only [Act.put, List.setIfInBounds_toArray, List.set_cons_zero, List.set_cons_succ]
  refine wpAnyH_take (i := 4) (v := ?vv70) (by rfl) (by kernel_rfl) (by kernel_rfl) (by kernel_rfl) (by intro _ _ _ h; exact h) (Or.inl ⟨by kernel_rfl, ?hy70⟩) (by assumption) ?rest70
  case hy70 =>
    intro w' hSw
    have hSw : Mods (fun y => y ≠ q) w2 w' := hSw
    clear hSw
    go_simp
    try with_reducible rfl
  change wpAnyH _ _ _ _ _ _ _ (Act.put _ (some 144) _) _
  try simp only [Act.put, List.setIfInBounds_toArray, List.set_cons_zero, List.set_cons_succ]
  refine wpAnyH_take (i := 5) (v := ?vv71) (by rfl) (by kernel_rfl) (by kernel_rfl) (by kernel_rfl) (by intro _ _ _ h; exact h) (Or.inl ⟨by kernel_rfl, ?hy71⟩) (by assumption) ?rest71
  case hy71 =>
    intro w' hSw
    have hSw : Mods (fun y => y ≠ q) w2 w' := hSw
    clear hSw
    go_simp
    try with_reducible rfl
  change wpAnyH _ _ _ _ _ _ _ (Act.put _ (some 145) _) _
  try simp only [Act.put, List.setIfInBounds_toArray, List.set_cons_zero, List.set_cons_succ]
  refine wpAnyH_take (i := 6) (v := ?vv72) (by rfl) (by kernel_rfl) (by kernel_rfl) (by kernel_rfl) (by intro _ _ _ h; exact h) (Or.inl ⟨by kernel_rfl, ?hy72⟩) (by assumption) ?rest72
  case hy72 =>
    intro w' hSw
    have hSw : Mods (fun y => y ≠ q) w2 w' := hSw
    have hBq := HQ2.out.mods hSw (fun e => e rfl)
    have hx1 : World.cell? w' ⟨q, 1, none⟩ = some (.string (bstr xa)) := by rw [hBq.cell]; rfl
    clear hSw
    go_simp
    try with_reducible rfl
  change wpAnyH _ _ _ _ _ _ _ (Act.put _ (some 146) _) _
  try simp only [Act.put, List.setIfInBounds_toArray, List.set_cons_zero, List.set_cons_succ]
  refine wpAnyH_ready (rs := [3]) (by kernel_rfl) (by simp) ?_
  refine AllReadyH.cons (o := _) rfl (fun K hK => ?_) ?_
  · go_simp
    refine (has_two HT.out xa (by omega)).mono ?_
    rintro e wz ⟨rfl, rfl⟩
    have hb := hHeld
    go_wp2_with fail
    refine hK.out _ _ hb (fun _ => ?_)
    clear hK K hHeld
    have hHeld : Mods (fun y => y ≠ q) w2 xs := hb
    clear hb
    try simp only [Act.put, List.setIfInBounds_toArray, List.set_cons_zero, List.set_cons_succ]
    refine wpAnyH_ready (rs := [7]) (by kernel_rfl) (by simp) ?_
    refine AllReadyH.cons (o := _) rfl (fun K hK => ?_) ?_
    · go_simp
      refine (rshas_two HT.out xa).mono ?_
      rintro e wz ⟨rfl, rfl⟩
      have hb := hHeld
      go_wp2_with fail
      refine hK.out _ _ hb (fun _ => ?_)
      clear hK K hHeld
      have hHeld : Mods (fun y => y ≠ q) w2 xs := hb
      clear hb
      try simp only [Act.put, List.setIfInBounds_toArray, List.set_cons_zero, List.set_cons_succ]
      refine wpAnyH_take (i := 8) (v := ?vv73) (by rfl) (by kernel_rfl) (by kernel_rfl) (by kernel_rfl) (by intro _ _ _ h; exact h) (Or.inl ⟨by kernel_rfl, ?hy73⟩) (by assumption) ?rest73
      case hy73 =>
        intro w' hSw
        have hSw : Mods (fun y => y ≠ q) w2 w' := hSw
        clear hSw
        go_simp
        try with_reducible rfl
      change wpAnyH _ _ _ _ _ _ _ (Act.put _ (some 148) _) _
      try simp only [Act.put, List.setIfInBounds_toArray, List.set_cons_zero, List.set_cons_succ]
      refine wpAnyH_take (i := 9) (v := ?vv74) (by rfl) (by kernel_rfl) (by kernel_rfl) (by kernel_rfl) (by intro _ _ _ h; exact h) (Or.inl ⟨by kernel_rfl, ?hy74⟩) (by assumption) ?rest74
      case hy74 =>
        intro w' hSw
        have hSw : Mods (fun y => y ≠ q) w2 w' := hSw
        clear hSw
        go_simp
        try with_reducible rfl
      change wpAnyH _ _ _ _ _ _ _ (Act.put _ (some 6) _) _
      try simp only [Act.put, List.setIfInBounds_toArray, List.set_cons_zero, List.set_cons_succ]
      refine wpAnyH_done (by kernel_rfl) ?_ _
      refine NoPanic.normal ?_
      go_wp2_with fail
      go_ret
      exact ⟨_, _, ret_trueB HHA.out, (HT.out.drop (fun y hy => absurd hy (List.not_mem_nil))).more (by omega), HD.out.more (by omega), by omega⟩
    exact AllReadyH.nil
  exact AllReadyH.nil
set_option maxRecDepth 100000 in
set_option maxHeartbeats 8000000 in
theorem do5_any (h : TwoAt [] W w g d m r k) (hd : DR d r c) (hk : k ≤ 80000) (hc : c ≤ 1000000) (hn : d.nodes.length ≤ 60) (xk : Int) (hkind : xk = 5) (xa xb : Str) (xn xc : Int) (pk : Option Addr) (nk ck : Nat) (keep : List Int) (hxa : xa.length ≤ 100) (hxb : xb.length ≤ 1000) (hxn : (Lit.int .i64 xn).wf = true) (hrow : Row W (.slice pk nk ck) (keep.map (Value.int .i64))) : Calls Tryz.prog 27 #[.pointer (some ⟨g, 0, none⟩), .pointer (some ⟨m, 0, none⟩), .agg #[.int .i64 xk, .string (bstr xa), .string (bstr xb), .int .i64 xn, .int .i64 xc, .slice pk nk ck]] w (SaDid W g m (d.nodes.length + 1) (k + 300) (c + 100)) := by
  have H := Lib.hid h
  have HD := Lib.hid hd
  have HWN := Lib.hid hxn
  have HRK := Lib.hid hrow
  have hni := wf_in hxn
  have hzb := bstr_size xb
  have hml : (1000 : Nat) ≤ maxLen := by decide
  clear h hd hxn hrow
  subst hkind
  go_enter Tryz.func27, Tryz.ntmps27
  go_upto_region 1 with fail
  generalize hW : World.alloc w _ = w1
  have HK1 := Lib.hid (show Keeps w w1 from by rw [← hW]; exact (Keeps.refl _).alloc _)
  have HQ1 := Lib.hid (show Blk w1 w.heap.size 68 #[.int .i64 5, .string (bstr xa), .string (bstr xb), .int .i64 xn, .int .i64 xc, .slice pk nk ck] from by rw [← hW]; exact Blk.new _ _ _ rfl)
  clear hW
  have HT1 := Lib.hid (H.out.aside HK1.out (Nat.le_refl _) HQ1.out.lt)
  obtain ⟨q, hq⟩ : ∃ q, q = w.heap.size := ⟨_, rfl⟩
  rw [← hq] at HQ1 HT1 ⊢
  clear hq
  obtain ⟨cb, w2, hcv, hrowb, hk2, hz2⟩ := str_bytes_lt (P := Tryz.prog) w1 Tryz.underlying22 Tryz.underlying5 Tryz.underlying9 (bstr xb) (by rw [hzb]; omega)
  rw [hzb] at hcv hrowb
  rw [bstr_data] at hrowb
  have b2 : w1.cell? ⟨q, 2, none⟩ = some (.string (bstr xb)) := by rw [HQ1.out.cell]; rfl
  obtain ⟨bb, hbb⟩ : ∃ z, z = w1.heap.size := ⟨_, rfl⟩
  have HT2 := Lib.hid (HT1.out.aside hk2 (Nat.le_of_eq hbb.symm) (by rw [hbb]; exact hz2))
  rw [← hbb] at hcv hrowb
  have HST := Lib.hid (stayB (L := [bb, q]) (W := W) (List.mem_cons_self ..) hrowb)
  have HQ2 := Lib.hid (HQ1.out.keeps hk2)
  clear hrowb hk2 hz2 hbb
  go_upto_region 2 with fail
  clear hcv b2
  have k0 : w2.cell? ⟨q, 0, none⟩ = some (.int .i64 5) := by rw [HQ2.out.cell]; rfl
  have hq3 : w2.cell? ⟨q, 3, none⟩ = some (.int .i64 xn) := by rw [HQ2.out.cell]; rfl
  have hq4 : w2.cell? ⟨q, 4, none⟩ = some (.int .i64 xc) := by rw [HQ2.out.cell]; rfl
  have HDF := Lib.hid (dr_fail HD.out xn xc (by omega))
  go_wp2_with fail
  refine (fail_two HT2.out xn xc).mono ?_
  rintro e y1 ⟨rfl, h2, hm2⟩
  have HT := Lib.hid h2
  clear hq3 hq4 k0
  have HQ3 := Lib.hid (HQ2.out.mods hm2 (fun hy => hy.2 (by simp)))
  obtain ⟨fv, nv, sv, wv, hB⟩ := HT.out.counter
  have hcO : y1.cell? ⟨m, 7, none⟩ = some (.int .i64 r.fail) := by rw [hB.cell]; rfl
  have hzO : y1.frozen? ⟨m, 7, none⟩ = false := hB.frozen _
  have hq3 : y1.cell? ⟨q, 3, none⟩ = some (.int .i64 xn) := by rw [HQ3.out.cell]; rfl
  have hq4 : y1.cell? ⟨q, 4, none⟩ = some (.int .i64 xc) := by rw [HQ3.out.cell]; rfl
  clear hB h2 hm2
  go_upto_region 15 with fail
  have HFL := Lib.hid (failing_r (w := y1) xn xc)
  go_wp2_with fail
  refine HFL.out.mono ?_
  rintro e y2 ⟨rfl, rfl⟩
  have HP := Lib.hid (HT.out.put (o := 7) (v := .int .i64 (failingR xn xc)) (fail := failingR xn xc) (crash := r.crash) (err := r.err) (fun _ _ _ _ => rfl) (failingR_in hni) (traps HT.out).2)
  clear HFL
  go_upto_region 16 with fail
  have HTP := Lib.hid HP.out.1
  have HQ4 := Lib.hid (HQ3.out.mods HP.out.2 (fun hy => hy.2 (by simp)))
  clear HP hcO hzO hq3 hq4 HT
  generalize World.setCell _ ⟨m, 7, none⟩ _ = y3 at *
  obtain ⟨fv, nv, sv, wv, hB⟩ := HTP.out.counter
  have hcO : y3.cell? ⟨m, 9, none⟩ = some (.int .i64 r.err) := by rw [hB.cell]; rfl
  have hzO : y3.frozen? ⟨m, 9, none⟩ = false := hB.frozen _
  have hq4 : y3.cell? ⟨q, 4, none⟩ = some (.int .i64 xc) := by rw [HQ4.out.cell]; rfl
  clear hB
  have HP2 := Lib.hid (HTP.out.put (o := 9) (v := .int .i64 xc) (fail := failingR xn xc) (crash := r.crash) (err := xc) (fun _ _ _ _ => rfl) (failingR_in hni) (traps HTP.out).2)
  have HQ5 := Lib.hid (HQ4.out.mods HP2.out.2 (fun hy => hy.2 (by simp)))
  go_upto_region 26 with fail
  have HT5 := Lib.hid HP2.out.1
  clear HP2 hcO hzO hq4
  generalize World.setCell _ ⟨m, 9, none⟩ _ = y4 at *
  have HHA := Lib.hid (has_alike HDF.out xa)
  have HT := Lib.hid (HT5.out.keeps (Keeps.refl y4).drew)
  have HQ2 := Lib.hid HQ5.out
  refine wp_region_noPanic ?_
  refine wp_region_held_drew (S := fun w' => Mods (fun y => y ≠ q) y4 w') (by kernel_rfl) ((Mods.refl (fun y => y ≠ q) y4).drew) (fun _ => ?_)
  have hHeld : Mods (fun y => y ≠ q) y4 (y4).drew := (Mods.refl (fun y => y ≠ q) y4).drew
  generalize World.drew y4 = xs at *
  refine wpAnyH_take (i := 0) (v := ?vv75) (by rfl) (by kernel_rfl) (by kernel_rfl) (by kernel_rfl) (by intro _ _ _ h; exact h) (Or.inl ⟨by kernel_rfl, ?hy75⟩) (by assumption) ?rest75
  case hy75 =>
    intro w' hSw
    have hSw : Mods (fun y => y ≠ q) y4 w' := hSw
    clear hSw
    go_simp
    try with_reducible rfl
  change wpAnyH _ _ _ _ _ _ _ (Act.put _ (some 140) _) _
  try simp only [Act.put, List.setIfInBounds_toArray, List.set_cons_zero, List.set_cons_succ]
  refine wpAnyH_take (i := 1) (v := ?vv76) (by rfl) (by kernel_rfl) (by kernel_rfl) (by kernel_rfl) (by intro _ _ _ h; exact h) (Or.inl ⟨by kernel_rfl, ?hy76⟩) (by assumption) ?rest76
  case hy76 =>
    intro w' hSw
    have hSw : Mods (fun y => y ≠ q) y4 w' := hSw
    clear hSw
    go_simp
    try with_reducible rfl
  change wpAnyH _ _ _ _ _ _ _ (Act.put _ (some 141) _) _
  try simp only [Act.put, List.setIfInBounds_toArray, List.set_cons_zero, List.set_cons_succ]
  refine wpAnyH_take (i := 2) (v := ?vv77) (by rfl) (by kernel_rfl) (by kernel_rfl) (by kernel_rfl) (by intro _ _ _ h; exact h) (Or.inl ⟨by kernel_rfl, ?hy77⟩) (by assumption) ?rest77
  case hy77 =>
    intro w' hSw
    have hSw : Mods (fun y => y ≠ q) y4 w' := hSw
    have hBq := HQ2.out.mods hSw (fun e => e rfl)
    have hx1 : World.cell? w' ⟨q, 1, none⟩ = some (.string (bstr xa)) := by rw [hBq.cell]; rfl
    clear hSw
    go_simp
    try with_reducible rfl
  change wpAnyH _ _ _ _ _ _ _ (Act.put _ (some 142) _) _
  try simp only [Act.put, List.setIfInBounds_toArray, List.set_cons_zero, List.set_cons_succ]
  refine wpAnyH_take (i := 4) (v := ?vv78) (by rfl) (by kernel_rfl) (by kernel_rfl) (by kernel_rfl) (by intro _ _ _ h; exact h) (Or.inl ⟨by kernel_rfl, ?hy78⟩) (by assumption) ?rest78
  case hy78 =>
    intro w' hSw
    have hSw : Mods (fun y => y ≠ q) y4 w' := hSw
    clear hSw
    go_simp
    try with_reducible rfl
  change wpAnyH _ _ _ _ _ _ _ (Act.put _ (some 144) _) _
  try simp only [Act.put, List.setIfInBounds_toArray, List.set_cons_zero, List.set_cons_succ]
  refine wpAnyH_take (i := 5) (v := ?vv79) (by rfl) (by kernel_rfl) (by kernel_rfl) (by kernel_rfl) (by intro _ _ _ h; exact h) (Or.inl ⟨by kernel_rfl, ?hy79⟩) (by assumption) ?rest79
  case hy79 =>
    intro w' hSw
    have hSw : Mods (fun y => y ≠ q) y4 w' := hSw
    clear hSw
    go_simp
    try with_reducible rfl
  change wpAnyH _ _ _ _ _ _ _ (Act.put _ (some 145) _) _
  try simp only [Act.put, List.setIfInBounds_toArray, List.set_cons_zero, List.set_cons_succ]
  refine wpAnyH_take (i := 6) (v := ?vv80) (by rfl) (by kernel_rfl) (by kernel_rfl) (by kernel_rfl) (by intro _ _ _ h; exact h) (Or.inl ⟨by kernel_rfl, ?hy80⟩) (by assumption) ?rest80
  case hy80 =>
    intro w' hSw
    have hSw : Mods (fun y => y ≠ q) y4 w' := hSw
    have hBq := HQ2.out.mods hSw (fun e => e rfl)
    have hx1 : World.cell? w' ⟨q, 1, none⟩ = some (.string (bstr xa)) := by rw [hBq.cell]; rfl
    clear hSw
    go_simp
    try with_reducible rfl
  change wpAnyH _ _ _ _ _ _ _ (Act.put _ (some 146) _) _
  try simp only [Act.put, List.setIfInBounds_toArray, List.set_cons_zero, List.set_cons_succ]
  refine wpAnyH_ready (rs := [3]) (by kernel_rfl) (by simp) ?_
  refine AllReadyH.cons (o := _) rfl (fun K hK => ?_) ?_
  · go_simp
    refine (has_two HT.out xa (by omega)).mono ?_
    rintro e wz ⟨rfl, rfl⟩
    have hb := hHeld
    go_wp2_with fail
    refine hK.out _ _ hb (fun _ => ?_)
    clear hK K hHeld
    have hHeld : Mods (fun y => y ≠ q) y4 xs := hb
    clear hb
    try simp only [Act.put, List.setIfInBounds_toArray, List.set_cons_zero, List.set_cons_succ]
    refine wpAnyH_ready (rs := [7]) (by kernel_rfl) (by simp) ?_
    refine AllReadyH.cons (o := _) rfl (fun K hK => ?_) ?_
    · go_simp
      refine (rshas_two HT.out xa).mono ?_
      rintro e wz ⟨rfl, rfl⟩
      have hb := hHeld
      go_wp2_with fail
      refine hK.out _ _ hb (fun _ => ?_)
      clear hK K hHeld
      have hHeld : Mods (fun y => y ≠ q) y4 xs := hb
      clear hb
      try simp only [Act.put, List.setIfInBounds_toArray, List.set_cons_zero, List.set_cons_succ]
      refine wpAnyH_take (i := 8) (v := ?vv81) (by rfl) (by kernel_rfl) (by kernel_rfl) (by kernel_rfl) (by intro _ _ _ h; exact h) (Or.inl ⟨by kernel_rfl, ?hy81⟩) (by assumption) ?rest81
      case hy81 =>
        intro w' hSw
        have hSw : Mods (fun y => y ≠ q) y4 w' := hSw
        clear hSw
        go_simp
        try with_reducible rfl
      change wpAnyH _ _ _ _ _ _ _ (Act.put _ (some 148) _) _
      try simp only [Act.put, List.setIfInBounds_toArray, List.set_cons_zero, List.set_cons_succ]
      refine wpAnyH_take (i := 9) (v := ?vv82) (by rfl) (by kernel_rfl) (by kernel_rfl) (by kernel_rfl) (by intro _ _ _ h; exact h) (Or.inl ⟨by kernel_rfl, ?hy82⟩) (by assumption) ?rest82
      case hy82 =>
        intro w' hSw
        have hSw : Mods (fun y => y ≠ q) y4 w' := hSw
        clear hSw
        go_simp
        try with_reducible rfl
      change wpAnyH _ _ _ _ _ _ _ (Act.put _ (some 6) _) _
      try simp only [Act.put, List.setIfInBounds_toArray, List.set_cons_zero, List.set_cons_succ]
      refine wpAnyH_done (by kernel_rfl) ?_ _
      refine NoPanic.normal ?_
      go_wp2_with fail
      go_ret
      exact ⟨_, _, ret_trueB HHA.out, (HT.out.drop (fun y hy => absurd hy (List.not_mem_nil))).more (by omega), HDF.out.more (by omega), Nat.le_succ _⟩
    exact AllReadyH.nil
  exact AllReadyH.nil
set_option maxRecDepth 100000 in
set_option maxHeartbeats 8000000 in
theorem do6_any (h : TwoAt [] W w g d m r k) (hd : DR d r c) (hk : k ≤ 80000) (hc : c ≤ 1000000) (hn : d.nodes.length ≤ 60) (xk : Int) (hkind : xk = 6) (xa xb : Str) (xn xc : Int) (pk : Option Addr) (nk ck : Nat) (keep : List Int) (hxa : xa.length ≤ 100) (hxb : xb.length ≤ 1000) (hxn : (Lit.int .i64 xn).wf = true) (hrow : Row W (.slice pk nk ck) (keep.map (Value.int .i64))) : Calls Tryz.prog 27 #[.pointer (some ⟨g, 0, none⟩), .pointer (some ⟨m, 0, none⟩), .agg #[.int .i64 xk, .string (bstr xa), .string (bstr xb), .int .i64 xn, .int .i64 xc, .slice pk nk ck]] w (SaDid W g m (d.nodes.length + 1) (k + 300) (c + 100)) := by
  have H := Lib.hid h
  have HD := Lib.hid hd
  have HWN := Lib.hid hxn
  have HRK := Lib.hid hrow
  have hni := wf_in hxn
  have hzb := bstr_size xb
  have hml : (1000 : Nat) ≤ maxLen := by decide
  clear h hd hxn hrow
  subst hkind
  go_enter Tryz.func27, Tryz.ntmps27
  go_upto_region 1 with fail
  generalize hW : World.alloc w _ = w1
  have HK1 := Lib.hid (show Keeps w w1 from by rw [← hW]; exact (Keeps.refl _).alloc _)
  have HQ1 := Lib.hid (show Blk w1 w.heap.size 68 #[.int .i64 6, .string (bstr xa), .string (bstr xb), .int .i64 xn, .int .i64 xc, .slice pk nk ck] from by rw [← hW]; exact Blk.new _ _ _ rfl)
  clear hW
  have HT1 := Lib.hid (H.out.aside HK1.out (Nat.le_refl _) HQ1.out.lt)
  obtain ⟨q, hq⟩ : ∃ q, q = w.heap.size := ⟨_, rfl⟩
  rw [← hq] at HQ1 HT1 ⊢
  clear hq
  obtain ⟨cb, w2, hcv, hrowb, hk2, hz2⟩ := str_bytes_lt (P := Tryz.prog) w1 Tryz.underlying22 Tryz.underlying5 Tryz.underlying9 (bstr xb) (by rw [hzb]; omega)
  rw [hzb] at hcv hrowb
  rw [bstr_data] at hrowb
  have b2 : w1.cell? ⟨q, 2, none⟩ = some (.string (bstr xb)) := by rw [HQ1.out.cell]; rfl
  obtain ⟨bb, hbb⟩ : ∃ z, z = w1.heap.size := ⟨_, rfl⟩
  have HT2 := Lib.hid (HT1.out.aside hk2 (Nat.le_of_eq hbb.symm) (by rw [hbb]; exact hz2))
  rw [← hbb] at hcv hrowb
  have HST := Lib.hid (stayB (L := [bb, q]) (W := W) (List.mem_cons_self ..) hrowb)
  have HQ2 := Lib.hid (HQ1.out.keeps hk2)
  clear hrowb hk2 hz2 hbb
  go_upto_region 2 with fail
  clear hcv b2
  have k0 : w2.cell? ⟨q, 0, none⟩ = some (.int .i64 6) := by rw [HQ2.out.cell]; rfl
  have hq3 : w2.cell? ⟨q, 3, none⟩ = some (.int .i64 xn) := by rw [HQ2.out.cell]; rfl
  have HDF := Lib.hid (dr_crash HD.out xn)
  go_wp2_with fail
  refine (crash_two HT2.out xn).mono ?_
  rintro e y1 ⟨rfl, h2, hm2⟩
  have HT := Lib.hid h2
  clear hq3 k0
  have HQ3 := Lib.hid (HQ2.out.mods hm2 (fun hy => hy.2 (by simp)))
  obtain ⟨fv, nv, sv, wv, hB⟩ := HT.out.counter
  have hcO : y1.cell? ⟨m, 8, none⟩ = some (.int .i64 r.crash) := by rw [hB.cell]; rfl
  have hzO : y1.frozen? ⟨m, 8, none⟩ = false := hB.frozen _
  have hq3 : y1.cell? ⟨q, 3, none⟩ = some (.int .i64 xn) := by rw [HQ3.out.cell]; rfl
  have hq4 : y1.cell? ⟨q, 4, none⟩ = some (.int .i64 xc) := by rw [HQ3.out.cell]; rfl
  clear hB h2 hm2
  go_upto_region 19 with fail
  have HFL := Lib.hid (arm_r (w := y1) xn 11)
  go_wp2_with fail
  refine HFL.out.mono ?_
  rintro e y2 ⟨rfl, rfl⟩
  have HP := Lib.hid (HT.out.put (o := 8) (v := .int .i64 (armR xn 11)) (fail := r.fail) (crash := armR xn 11) (err := r.err) (fun _ _ _ _ => rfl) (traps HT.out).1 (armR_in hni))
  have HQ5 := Lib.hid (HQ3.out.mods HP.out.2 (fun hy => hy.2 (by simp)))
  clear HFL
  go_upto_region 26 with fail
  have HT5 := Lib.hid HP.out.1
  clear HP hcO hzO hq3 hq4 HT
  generalize World.setCell _ ⟨m, 8, none⟩ _ = y4 at *
  have HHA := Lib.hid (has_alike HDF.out xa)
  have HT := Lib.hid (HT5.out.keeps (Keeps.refl y4).drew)
  have HQ2 := Lib.hid HQ5.out
  refine wp_region_noPanic ?_
  refine wp_region_held_drew (S := fun w' => Mods (fun y => y ≠ q) y4 w') (by kernel_rfl) ((Mods.refl (fun y => y ≠ q) y4).drew) (fun _ => ?_)
  have hHeld : Mods (fun y => y ≠ q) y4 (y4).drew := (Mods.refl (fun y => y ≠ q) y4).drew
  generalize World.drew y4 = xs at *
  refine wpAnyH_take (i := 0) (v := ?vv83) (by rfl) (by kernel_rfl) (by kernel_rfl) (by kernel_rfl) (by intro _ _ _ h; exact h) (Or.inl ⟨by kernel_rfl, ?hy83⟩) (by assumption) ?rest83
  case hy83 =>
    intro w' hSw
    have hSw : Mods (fun y => y ≠ q) y4 w' := hSw
    clear hSw
    go_simp
    try with_reducible rfl
  change wpAnyH _ _ _ _ _ _ _ (Act.put _ (some 140) _) _
  try simp only [Act.put, List.setIfInBounds_toArray, List.set_cons_zero, List.set_cons_succ]
  refine wpAnyH_take (i := 1) (v := ?vv84) (by rfl) (by kernel_rfl) (by kernel_rfl) (by kernel_rfl) (by intro _ _ _ h; exact h) (Or.inl ⟨by kernel_rfl, ?hy84⟩) (by assumption) ?rest84
  case hy84 =>
    intro w' hSw
    have hSw : Mods (fun y => y ≠ q) y4 w' := hSw
    clear hSw
    go_simp
    try with_reducible rfl
  change wpAnyH _ _ _ _ _ _ _ (Act.put _ (some 141) _) _
  try simp only [Act.put, List.setIfInBounds_toArray, List.set_cons_zero, List.set_cons_succ]
  refine wpAnyH_take (i := 2) (v := ?vv85) (by rfl) (by kernel_rfl) (by kernel_rfl) (by kernel_rfl) (by intro _ _ _ h; exact h) (Or.inl ⟨by kernel_rfl, ?hy85⟩) (by assumption) ?rest85
  case hy85 =>
    intro w' hSw
    have hSw : Mods (fun y => y ≠ q) y4 w' := hSw
    have hBq := HQ2.out.mods hSw (fun e => e rfl)
    have hx1 : World.cell? w' ⟨q, 1, none⟩ = some (.string (bstr xa)) := by rw [hBq.cell]; rfl
    clear hSw
    go_simp
    try with_reducible rfl
  change wpAnyH _ _ _ _ _ _ _ (Act.put _ (some 142) _) _
  try simp only [Act.put, List.setIfInBounds_toArray, List.set_cons_zero, List.set_cons_succ]
  refine wpAnyH_take (i := 4) (v := ?vv86) (by rfl) (by kernel_rfl) (by kernel_rfl) (by kernel_rfl) (by intro _ _ _ h; exact h) (Or.inl ⟨by kernel_rfl, ?hy86⟩) (by assumption) ?rest86
  case hy86 =>
    intro w' hSw
    have hSw : Mods (fun y => y ≠ q) y4 w' := hSw
    clear hSw
    go_simp
    try with_reducible rfl
  change wpAnyH _ _ _ _ _ _ _ (Act.put _ (some 144) _) _
  try simp only [Act.put, List.setIfInBounds_toArray, List.set_cons_zero, List.set_cons_succ]
  refine wpAnyH_take (i := 5) (v := ?vv87) (by rfl) (by kernel_rfl) (by kernel_rfl) (by kernel_rfl) (by intro _ _ _ h; exact h) (Or.inl ⟨by kernel_rfl, ?hy87⟩) (by assumption) ?rest87
  case hy87 =>
    intro w' hSw
    have hSw : Mods (fun y => y ≠ q) y4 w' := hSw
    clear hSw
    go_simp
    try with_reducible rfl
  change wpAnyH _ _ _ _ _ _ _ (Act.put _ (some 145) _) _
  try simp only [Act.put, List.setIfInBounds_toArray, List.set_cons_zero, List.set_cons_succ]
  refine wpAnyH_take (i := 6) (v := ?vv88) (by rfl) (by kernel_rfl) (by kernel_rfl) (by kernel_rfl) (by intro _ _ _ h; exact h) (Or.inl ⟨by kernel_rfl, ?hy88⟩) (by assumption) ?rest88
  case hy88 =>
    intro w' hSw
    have hSw : Mods (fun y => y ≠ q) y4 w' := hSw
    have hBq := HQ2.out.mods hSw (fun e => e rfl)
    have hx1 : World.cell? w' ⟨q, 1, none⟩ = some (.string (bstr xa)) := by rw [hBq.cell]; rfl
    clear hSw
    go_simp
    try with_reducible rfl
  change wpAnyH _ _ _ _ _ _ _ (Act.put _ (some 146) _) _
  try simp only [Act.put, List.setIfInBounds_toArray, List.set_cons_zero, List.set_cons_succ]
  refine wpAnyH_ready (rs := [3]) (by kernel_rfl) (by simp) ?_
  refine AllReadyH.cons (o := _) rfl (fun K hK => ?_) ?_
  · go_simp
    refine (has_two HT.out xa (by omega)).mono ?_
    rintro e wz ⟨rfl, rfl⟩
    have hb := hHeld
    go_wp2_with fail
    refine hK.out _ _ hb (fun _ => ?_)
    clear hK K hHeld
    have hHeld : Mods (fun y => y ≠ q) y4 xs := hb
    clear hb
    try simp only [Act.put, List.setIfInBounds_toArray, List.set_cons_zero, List.set_cons_succ]
    refine wpAnyH_ready (rs := [7]) (by kernel_rfl) (by simp) ?_
    refine AllReadyH.cons (o := _) rfl (fun K hK => ?_) ?_
    · go_simp
      refine (rshas_two HT.out xa).mono ?_
      rintro e wz ⟨rfl, rfl⟩
      have hb := hHeld
      go_wp2_with fail
      refine hK.out _ _ hb (fun _ => ?_)
      clear hK K hHeld
      have hHeld : Mods (fun y => y ≠ q) y4 xs := hb
      clear hb
      try simp only [Act.put, List.setIfInBounds_toArray, List.set_cons_zero, List.set_cons_succ]
      refine wpAnyH_take (i := 8) (v := ?vv89) (by rfl) (by kernel_rfl) (by kernel_rfl) (by kernel_rfl) (by intro _ _ _ h; exact h) (Or.inl ⟨by kernel_rfl, ?hy89⟩) (by assumption) ?rest89
      case hy89 =>
        intro w' hSw
        have hSw : Mods (fun y => y ≠ q) y4 w' := hSw
        clear hSw
        go_simp
        try with_reducible rfl
      change wpAnyH _ _ _ _ _ _ _ (Act.put _ (some 148) _) _
      try simp only [Act.put, List.setIfInBounds_toArray, List.set_cons_zero, List.set_cons_succ]
      refine wpAnyH_take (i := 9) (v := ?vv90) (by rfl) (by kernel_rfl) (by kernel_rfl) (by kernel_rfl) (by intro _ _ _ h; exact h) (Or.inl ⟨by kernel_rfl, ?hy90⟩) (by assumption) ?rest90
      case hy90 =>
        intro w' hSw
        have hSw : Mods (fun y => y ≠ q) y4 w' := hSw
        clear hSw
        go_simp
        try with_reducible rfl
      change wpAnyH _ _ _ _ _ _ _ (Act.put _ (some 6) _) _
      try simp only [Act.put, List.setIfInBounds_toArray, List.set_cons_zero, List.set_cons_succ]
      refine wpAnyH_done (by kernel_rfl) ?_ _
      refine NoPanic.normal ?_
      go_wp2_with fail
      go_ret
      exact ⟨_, _, ret_trueB HHA.out, (HT.out.drop (fun y hy => absurd hy (List.not_mem_nil))).more (by omega), HDF.out.more (by omega), Nat.le_succ _⟩
    exact AllReadyH.nil
  exact AllReadyH.nil
theorem do_any (h : TwoAt [] W w g d m r k) (hd : DR d r c) (hk : k ≤ 80000) (hc : c ≤ 1000000) (hn : d.nodes.length ≤ 60) (xk : Int) (xa xb : Str) (xn xc : Int) (pk : Option Addr) (nk ck : Nat) (keep : List Int) (hxa : xa.length ≤ 100) (hxb : xb.length ≤ 1000) (hxn : (Lit.int .i64 xn).wf = true) (hrow : Row W (.slice pk nk ck) (keep.map (Value.int .i64))) : Calls Tryz.prog 27 #[.pointer (some ⟨g, 0, none⟩), .pointer (some ⟨m, 0, none⟩), .agg #[.int .i64 xk, .string (bstr xa), .string (bstr xb), .int .i64 xn, .int .i64 xc, .slice pk nk ck]] w (SaDid W g m (d.nodes.length + 1) (k + 300) (c + 100)) := by
  by_cases h0 : xk = 0
  · exact do0_any h hd hk hc hn xk h0 xa xb xn xc pk nk ck keep hxa hxb hxn hrow
  by_cases h1 : xk = 1
  · exact do1_any h hd hk hc hn xk h1 xa xb xn xc pk nk ck keep hxa hxb hxn hrow
  by_cases h2 : xk = 2
  · exact do2_any h hd hk hc hn xk h2 xa xb xn xc pk nk ck keep hxa hxb hxn hrow
  by_cases h3 : xk = 3
  · exact do3_any h hd hk hc hn xk h3 xa xb xn xc pk nk ck keep hxa hxb hxn hrow
  by_cases h4 : xk = 4
  · exact do4_any h hd hk hc hn xk h4 xa xb xn xc pk nk ck keep hxa hxb hxn hrow
  by_cases h5 : xk = 5
  · exact do5_any h hd hk hc hn xk h5 xa xb xn xc pk nk ck keep hxa hxb hxn hrow
  by_cases h6 : xk = 6
  · exact do6_any h hd hk hc hn xk h6 xa xb xn xc pk nk ck keep hxa hxb hxn hrow
  by_cases h7 : xk = 7
  · exact do7_any h hd hk hc hn xk h7 xa xb xn xc pk nk ck keep hxa hxb hxn hrow
  by_cases h8 : xk = 8
  · exact do8_any h hd hk hc hn xk h8 xa xb xn xc pk nk ck keep hxa hxb hxn hrow
  by_cases h9 : xk = 9
  · exact do9_any h hd hk hc hn xk h9 xa xb xn xc pk nk ck keep hxa hxb hxn hrow
  exact do10_any h hd hk hc hn xk (by omega) xa xb xn xc pk nk ck keep hxa hxb hxn hrow
end
end Sa
end Go.Proofs.YtchjncnolmiejaaGreat

/- The reference's Light, put, get, Payload, Frame of records. Printed by gen_recref3.py. -/
import Derived.Test.YtekkjhjaacjhnaaRecRef2
import Derived.Test.YtekkjhjaacjhnaaRecReadPlain
namespace Go.Proofs.Ytekkjhjaacjhnaa
open Go.RowKit
namespace Rcd
open Oct Frm

theorem light_any (r : Rec) (v : Value) (w : World) (hr : Row w v (r.data.map u8v)) : Calls Try.prog 37 #[.agg (recA r v)] w fun e w' => e = .returned (.bool (decide (r.data.length ≤ 1000))) ∧ Keeps w w' := by
  obtain ⟨pv, cv, rfl, -, -⟩ := hr.form
  have hnl : (List.map u8v r.data).length = r.data.length := by simp
  rw [hnl] at hr ⊢
  clear hnl hr
  unfold recA
  go_enter Try.func37, Try.ntmps37
  go_wp2_with fail
  go_ret
  exact ⟨congrArg (fun b => Ending.returned (Value.bool b)) (by rw [Bool.eq_iff_iff, decide_eq_true_eq, decide_eq_true_eq]; omega), (Keeps.refl _).alloc _⟩
theorem rput_any (n : Nat) (hn : n < 9223372036854775808) (k : Int) (w : World) : Calls Try.prog 92 #[.int .i64 (n : Int), .int .i64 k] w fun e w' => e = .returned (.string (bstr (putL n k))) ∧ Keeps w w' := by
  have hw := wrapU (n := n) (by omega)
  go_enter Try.func92, Try.ntmps92
  go_wp2_with fail
  refine (rPut_any n (by omega) k _).mono ?_
  rintro e w1 ⟨b, rfl, hown1, hK1⟩
  have hst := rstr_at hown1.row
  clear hown1
  go_wp2_with fail
  go_ret
  exact ⟨rfl, hK1⟩
theorem rget_any (v : Value) (l : List UInt8) (a k : Int) (w : World) (hr : Row w v (l.map u8v)) : Calls Try.prog 101 #[v, .int .i64 a, .int .i64 k] w fun e w' => e = .returned (.int .i64 (gI l a k)) ∧ w = w' := by
  have HG := Lib.hid (rGet_any v l a k w hr)
  clear hr
  have HX : Hid (gI l a k = if 9223372036854775807 < getV l a k then 9223372036854775807 else (getV l a k : Int)) := Lib.hid rfl
  generalize getV l a k = x at *
  go_enter Try.func101, Try.ntmps101
  go_wp2_with fail
  refine HG.out.mono ?_
  rintro e w1 ⟨rfl, rfl⟩
  by_cases hx : 9223372036854775807 < x
  · have h1 : decide ((9223372036854775807 : Int) < (x : Int)) = true := decide_eq_true (by omega)
    have HY := Lib.hid (HX.out.trans (if_pos hx))
    clear hx HX
    go_wp2_with fail
    go_ret
    exact ⟨(congrArg (fun n => Ending.returned (Value.int .i64 n)) HY.out).symm, rfl⟩
  · have h1 : decide ((9223372036854775807 : Int) < (x : Int)) = false := decide_eq_false (by omega)
    have HY := Lib.hid (HX.out.trans (if_neg hx))
    have hw : IntKind.i64.wrap (x : Int) = (x : Int) := by rw [IntKind.wrap_i64]; omega
    clear hx HX
    go_wp2_with fail
    go_ret
    exact ⟨(congrArg (fun n => Ending.returned (Value.int .i64 n)) HY.out).symm, rfl⟩

/-- bytes, and an error -/
def RetRI (W : World) (l : List UInt8) (n : Int) (e : Ending) (w' : World) : Prop :=
  ∃ p c, e = .returned (.tuple #[.slice p l.length c, .int .i64 n]) ∧ Row w' (.slice p l.length c) (l.map u8v) ∧ Keeps W w'
theorem retRI {W w1 : World} {l l' : List UInt8} {n m : Int} {b k c : Nat} (hl : l = l') (hn : n = m) (hb : b = w1.heap.size) (hk : k = l'.length) (hc : c = grownCap w1 (bstr l').size 0 5) (hm : l'.length ≤ maxLen) (hK : Keeps W w1) :
    RetRI W l n (.returned (.tuple #[.slice (some ⟨b, 0, none⟩) k c, .int .i64 m])) (Lib.bytesWorld w1 5 (bstr l')) := by
  subst hl hn hk
  exact ⟨_, _, rfl, bytes_row w1 _ l hb rfl hc hm, hK.trans (bytes_keeps _ _ _)⟩
theorem fld_nat {r : Rec} {k : Int} (hok : ∀ q ∈ partsL k, okP r q = true) {q : Part} (hq : q ∈ partsL k) : ∃ n : Nat, fld r q.off = (n : Int) ∧ n < 9223372036854775808 ∧ putL n q.width = be q.width.toNat n := by
  have h := hok q hq
  obtain ⟨h1, h2, h3, h4, h5⟩ := part_ok q hq
  have hb : q.low ≤ fld r q.off ∧ fld r q.off ≤ q.high := by simpa [okP] using h
  refine ⟨(fld r q.off).toNat, by omega, by omega, ?_⟩
  exact putL_fld (by omega) ⟨h1, h2⟩ (by omega)
theorem sz_app {a b : ByteArray} {m n : Nat} (ha : a.size = m) (hb : b.size = n) : (a ++ b).size = m + n := by rw [ByteArray.size_append, ha, hb]
theorem strb (w : World) (s : ByteArray) {n : Nat} (h : s.size = n) : (convert 9 28 (.string s)).run Try.prog w = .ok (.slice (some ⟨w.heap.size, 0, none⟩) n (grownCap w n 0 5)) (Lib.bytesWorld w 5 s) := by
  subst h
  exact Lib.run_convert_string_bytes w 9 28 5 s Try.underlying9 Try.underlying28 Try.underlying5

set_option maxRecDepth 100000 in
set_option maxHeartbeats 4000000 in
theorem rPayload_any (r : Rec) (v : Value) (w : World) (hr : Row w v (r.data.map u8v)) :
    Calls Try.prog 39 #[.agg (recA r v)] w (RetRI w (payO r) (chk r)) := by
  obtain ⟨pv, cv, rfl, -, -⟩ := hr.form
  have hnl : (List.map u8v r.data).length = r.data.length := by simp
  rw [hnl] at hr ⊢
  clear hnl
  have HR := Lib.hid hr
  clear hr
  have HC := Lib.hid (fun w h => rCheck_any r (.slice pv r.data.length cv) w h)
  unfold recA
  go_enter Try.func39, Try.ntmps39
  go_upto_region 1 with fail
  generalize hW : World.alloc w _ = w1
  have HK := Lib.hid (show Keeps w w1 from by rw [← hW]; exact (Keeps.refl _).alloc _)
  have HA := Lib.hid (show Blk w1 w.heap.size 30 (recA r (.slice pv r.data.length cv)) from by rw [← hW]; exact Blk.new _ _ _ rfl)
  clear hW
  obtain ⟨Q, hQ⟩ : ∃ Q, Q = w.heap.size := ⟨_, rfl⟩
  rw [← hQ] at HA ⊢
  have HQ := Lib.hid hQ
  clear hQ
  obtain ⟨a0, a1, a2, a3, a4, a5, a6, a7, a8, a9, a10, a11⟩ := rec12 HA.out
  go_wp2_with fail
  refine (HC.out w1 (HR.out.keeps HK.out)).mono ?_
  rintro e w2 ⟨rfl, hk2⟩
  have HK := Lib.hid (HK.out.trans hk2)
  have HA := Lib.hid (HA.out.keeps hk2)
  clear hk2 a0 a1 a2 a3 a4 a5 a6 a7 a8 a9 a10 a11
  by_cases hc : chk r = 0
  case neg =>
    have hc' : (chk r != 0) = true := by simp [hc]
    have HX : Hid (payO r = []) := Lib.hid (by unfold payO; rw [if_neg hc])
    clear hc
    go_wp2_with fail
    go_ret2
    refine ⟨none, 0, ?_, ?_, HK.out⟩
    · rw [HX.out]; rfl
    · rw [HX.out]; exact row_nil _
  obtain ⟨hk, hok, -, hdl, hd6⟩ := chk_zero hc
  have hPO : payO r = numsL r (partsL r.kind) ++ r.data := by unfold payO; rw [if_pos hc]; rfl
  have hc' : (chk r != 0) = false := by simp [hc]
  have HCH := Lib.hid hc
  have HKr := Lib.hid (HR.out.keeps HK.out)
  clear hc
  obtain ⟨a0, a1, a2, a3, a4, a5, a6, a7, a8, a9, a10, a11⟩ := rec12 HA.out
  by_cases k1 : r.kind = 1
  · rw [k1] at hok hPO
    obtain ⟨n0, hn0, hl0, hp0⟩ := fld_nat hok (q := ⟨2, 1, 999, 1⟩) (by decide)
    have hf0 : r.user = (n0 : Int) := hn0
    have hp0' : putL n0 2 = be 2 n0 := hp0
    have C0 := Lib.hid (fun w => rput_any n0 hl0 2 w)
    rw [hp0'] at C0
    rw [hf0] at a1
    have hz0 : (bstr (be 2 n0)).size = 2 := by rw [bstr_size, be_length]
    have hy0 : (be 2 n0).length = 2 := be_length _ _
    obtain ⟨n1, hn1, hl1, hp1⟩ := fld_nat hok (q := ⟨4, 1, 2147483648, 2⟩) (by decide)
    have hf1 : r.seq = (n1 : Int) := hn1
    have hp1' : putL n1 4 = be 4 n1 := hp1
    have C1 := Lib.hid (fun w => rput_any n1 hl1 4 w)
    rw [hp1'] at C1
    rw [hf1] at a2
    have hz1 : (bstr (be 4 n1)).size = 4 := by rw [bstr_size, be_length]
    have hy1 : (be 4 n1).length = 4 := be_length _ _
    obtain ⟨n2, hn2, hl2, hp2⟩ := fld_nat hok (q := pNext) (by decide)
    have hf2 : r.next = (n2 : Int) := hn2
    have hp2' : putL n2 4 = be 4 n2 := hp2
    have C2 := Lib.hid (fun w => rput_any n2 hl2 4 w)
    rw [hp2'] at C2
    rw [hf2] at a3
    have hz2 : (bstr (be 4 n2)).size = 4 := by rw [bstr_size, be_length]
    have hy2 : (be 4 n2).length = 4 := be_length _ _
    obtain ⟨n3, hn3, hl3, hp3⟩ := fld_nat hok (q := ⟨4, 0, 2147483648, 4⟩) (by decide)
    have hf3 : r.base = (n3 : Int) := hn3
    have hp3' : putL n3 4 = be 4 n3 := hp3
    have C3 := Lib.hid (fun w => rput_any n3 hl3 4 w)
    rw [hp3'] at C3
    rw [hf3] at a4
    have hz3 : (bstr (be 4 n3)).size = 4 := by rw [bstr_size, be_length]
    have hy3 : (be 4 n3).length = 4 := be_length _ _
    have HP : Hid (payO r = be 2 n0 ++ be 4 n1 ++ be 4 n2 ++ be 4 n3) := Lib.hid (by rw [hPO, hd6 (by omega)]; simp [numsL, partsL, pUid, pFlags, pBody, pNext, fld, hf0, hf1, hf2, hf3])
    have e1 : (r.kind == 1) = true := by simp [k1]
    have HDL := Lib.hid hdl
    clear hk hok hPO hd6 hdl hn0 hf0 hp0 hp0' hn1 hf1 hp1 hp1' hn2 hf2 hp2 hp2' hn3 hf3 hp3 hp3' k1
    generalize be 2 n0 = X0 at *
    generalize be 4 n1 = X1 at *
    generalize be 4 n2 = X2 at *
    generalize be 4 n3 = X3 at *
    have hs1 : (bstr X0 ++ bstr X1).size = 6 := sz_app hz0 hz1
    have hs2 : (bstr X0 ++ bstr X1 ++ bstr X2).size = 10 := sz_app hs1 hz2
    have hs3 : (bstr X0 ++ bstr X1 ++ bstr X2 ++ bstr X3).size = 14 := sz_app hs2 hz3
    have HE : Hid (bstr X0 ++ bstr X1 ++ bstr X2 ++ bstr X3 = bstr (X0 ++ X1 ++ X2 ++ X3)) := Lib.hid (by simp only [bstr_append])
    have hcv : ∀ w, (convert 9 28 (.string (bstr X0 ++ bstr X1 ++ bstr X2 ++ bstr X3))).run Try.prog w = .ok (.slice (some ⟨w.heap.size, 0, none⟩) (14) (grownCap w (14) 0 5)) (Lib.bytesWorld w 5 (bstr X0 ++ bstr X1 ++ bstr X2 ++ bstr X3)) := fun w => strb w _ hs3
    have HLN : Hid (14 = (X0 ++ X1 ++ X2 ++ X3).length) := Lib.hid (by simp only [List.length_append]; omega)
    have HZS : Hid ((bstr (X0 ++ X1 ++ X2 ++ X3)).size = 14) := Lib.hid (by rw [bstr_size]; exact HLN.out.symm)
    go_upto_region 6 with fail
    have HT := Lib.hid ((Keeps.refl w2).drew)
    refine wp_region_noPanic ?_
    refine wp_region_held_drew (S := fun w' => Keeps (w2) w') (by kernel_rfl) ((Keeps.refl _).drew) (fun _ => ?_)
    have hHeld : Keeps (w2) (w2).drew := (Keeps.refl _).drew
    refine wpAnyH_take (i := 0) (v := ?vv1) (by rfl) (by kernel_rfl) (by kernel_rfl) (by kernel_rfl) (by intro _ _ _ h; exact h) (Or.inl ⟨by kernel_rfl, ?hy1⟩) (by assumption) ?rest1
    case hy1 =>
      intro w' hSw
      have hSw : Keeps _ w' := hSw
      clear hSw
      go_simp
      try with_reducible rfl
    change wpAnyH _ _ _ _ _ _ _ (Act.put _ (some 14) _) _
    try simp only [Act.put, List.setIfInBounds_toArray, List.set_cons_zero, List.set_cons_succ]
    refine wpAnyH_take (i := 1) (v := ?vv2) (by rfl) (by kernel_rfl) (by kernel_rfl) (by kernel_rfl) (by intro _ _ _ h; exact h) (Or.inl ⟨by kernel_rfl, ?hy2⟩) (by assumption) ?rest2
    case hy2 =>
      intro w' hSw
      have hSw : Keeps _ w' := hSw
      have h0 := keep1 hSw a1
      clear hSw
      go_simp
      try with_reducible rfl
    change wpAnyH _ _ _ _ _ _ _ (Act.put _ (some 15) _) _
    try simp only [Act.put, List.setIfInBounds_toArray, List.set_cons_zero, List.set_cons_succ]
    refine wpAnyH_take (i := 3) (v := ?vv3) (by rfl) (by kernel_rfl) (by kernel_rfl) (by kernel_rfl) (by intro _ _ _ h; exact h) (Or.inl ⟨by kernel_rfl, ?hy3⟩) (by assumption) ?rest3
    case hy3 =>
      intro w' hSw
      have hSw : Keeps _ w' := hSw
      clear hSw
      go_simp
      try with_reducible rfl
    change wpAnyH _ _ _ _ _ _ _ (Act.put _ (some 17) _) _
    try simp only [Act.put, List.setIfInBounds_toArray, List.set_cons_zero, List.set_cons_succ]
    refine wpAnyH_take (i := 4) (v := ?vv4) (by rfl) (by kernel_rfl) (by kernel_rfl) (by kernel_rfl) (by intro _ _ _ h; exact h) (Or.inl ⟨by kernel_rfl, ?hy4⟩) (by assumption) ?rest4
    case hy4 =>
      intro w' hSw
      have hSw : Keeps _ w' := hSw
      have h0 := keep1 hSw a2
      clear hSw
      go_simp
      try with_reducible rfl
    change wpAnyH _ _ _ _ _ _ _ (Act.put _ (some 18) _) _
    try simp only [Act.put, List.setIfInBounds_toArray, List.set_cons_zero, List.set_cons_succ]
    refine wpAnyH_take (i := 7) (v := ?vv5) (by rfl) (by kernel_rfl) (by kernel_rfl) (by kernel_rfl) (by intro _ _ _ h; exact h) (Or.inl ⟨by kernel_rfl, ?hy5⟩) (by assumption) ?rest5
    case hy5 =>
      intro w' hSw
      have hSw : Keeps _ w' := hSw
      clear hSw
      go_simp
      try with_reducible rfl
    change wpAnyH _ _ _ _ _ _ _ (Act.put _ (some 21) _) _
    try simp only [Act.put, List.setIfInBounds_toArray, List.set_cons_zero, List.set_cons_succ]
    refine wpAnyH_take (i := 8) (v := ?vv6) (by rfl) (by kernel_rfl) (by kernel_rfl) (by kernel_rfl) (by intro _ _ _ h; exact h) (Or.inl ⟨by kernel_rfl, ?hy6⟩) (by assumption) ?rest6
    case hy6 =>
      intro w' hSw
      have hSw : Keeps _ w' := hSw
      have h0 := keep1 hSw a3
      clear hSw
      go_simp
      try with_reducible rfl
    change wpAnyH _ _ _ _ _ _ _ (Act.put _ (some 22) _) _
    try simp only [Act.put, List.setIfInBounds_toArray, List.set_cons_zero, List.set_cons_succ]
    refine wpAnyH_take (i := 11) (v := ?vv7) (by rfl) (by kernel_rfl) (by kernel_rfl) (by kernel_rfl) (by intro _ _ _ h; exact h) (Or.inl ⟨by kernel_rfl, ?hy7⟩) (by assumption) ?rest7
    case hy7 =>
      intro w' hSw
      have hSw : Keeps _ w' := hSw
      clear hSw
      go_simp
      try with_reducible rfl
    change wpAnyH _ _ _ _ _ _ _ (Act.put _ (some 25) _) _
    try simp only [Act.put, List.setIfInBounds_toArray, List.set_cons_zero, List.set_cons_succ]
    refine wpAnyH_take (i := 12) (v := ?vv8) (by rfl) (by kernel_rfl) (by kernel_rfl) (by kernel_rfl) (by intro _ _ _ h; exact h) (Or.inl ⟨by kernel_rfl, ?hy8⟩) (by assumption) ?rest8
    case hy8 =>
      intro w' hSw
      have hSw : Keeps _ w' := hSw
      have h0 := keep1 hSw a4
      clear hSw
      go_simp
      try with_reducible rfl
    change wpAnyH _ _ _ _ _ _ _ (Act.put _ (some 26) _) _
    try simp only [Act.put, List.setIfInBounds_toArray, List.set_cons_zero, List.set_cons_succ]
    refine wpAnyH_ready (rs := [2]) (by kernel_rfl) (by simp) ?_
    refine AllReadyH.cons (o := _) rfl (fun K hK => ?_) AllReadyH.nil
    go_simp
    refine (C0.out _).mono ?_
    rintro e y0 ⟨rfl, hk⟩
    have hb : Keeps _ y0 := hHeld.trans hk
    have HT := Lib.hid (HT.out.trans hk)
    go_wp2_with fail
    refine hK.out _ _ hb (fun _ => ?_)
    clear hK K
    try simp only [Act.put, List.setIfInBounds_toArray, List.set_cons_zero, List.set_cons_succ]
    refine wpAnyH_more (S' := fun w' => Keeps y0 w') (fun _ h => hb.trans h) ?_
    clear hHeld hb hk
    have hHeld : Keeps y0 y0 := Keeps.refl _
    refine wpAnyH_ready (rs := [5]) (by kernel_rfl) (by simp) ?_
    refine AllReadyH.cons (o := _) rfl (fun K hK => ?_) AllReadyH.nil
    go_simp
    refine (C1.out _).mono ?_
    rintro e y1 ⟨rfl, hk⟩
    have hb : Keeps _ y1 := hHeld.trans hk
    have HT := Lib.hid (HT.out.trans hk)
    go_wp2_with fail
    refine hK.out _ _ hb (fun _ => ?_)
    clear hK K
    try simp only [Act.put, List.setIfInBounds_toArray, List.set_cons_zero, List.set_cons_succ]
    refine wpAnyH_more (S' := fun w' => Keeps y1 w') (fun _ h => hb.trans h) ?_
    clear hHeld hb hk
    have hHeld : Keeps y1 y1 := Keeps.refl _
    refine wpAnyH_take (i := 6) (v := ?vv9) (by rfl) (by kernel_rfl) (by kernel_rfl) (by kernel_rfl) (by intro _ _ _ h; exact h) (Or.inl ⟨by kernel_rfl, ?hy9⟩) (by assumption) ?rest9
    case hy9 =>
      intro w' hSw
      have hSw : Keeps _ w' := hSw
      clear hSw
      go_simp
      try with_reducible rfl
    change wpAnyH _ _ _ _ _ _ _ (Act.put _ (some 20) _) _
    try simp only [Act.put, List.setIfInBounds_toArray, List.set_cons_zero, List.set_cons_succ]
    refine wpAnyH_ready (rs := [9]) (by kernel_rfl) (by simp) ?_
    refine AllReadyH.cons (o := _) rfl (fun K hK => ?_) AllReadyH.nil
    go_simp
    refine (C2.out _).mono ?_
    rintro e y2 ⟨rfl, hk⟩
    have hb : Keeps _ y2 := hHeld.trans hk
    have HT := Lib.hid (HT.out.trans hk)
    go_wp2_with fail
    refine hK.out _ _ hb (fun _ => ?_)
    clear hK K
    try simp only [Act.put, List.setIfInBounds_toArray, List.set_cons_zero, List.set_cons_succ]
    refine wpAnyH_more (S' := fun w' => Keeps y2 w') (fun _ h => hb.trans h) ?_
    clear hHeld hb hk
    have hHeld : Keeps y2 y2 := Keeps.refl _
    refine wpAnyH_take (i := 10) (v := ?vv10) (by rfl) (by kernel_rfl) (by kernel_rfl) (by kernel_rfl) (by intro _ _ _ h; exact h) (Or.inl ⟨by kernel_rfl, ?hy10⟩) (by assumption) ?rest10
    case hy10 =>
      intro w' hSw
      have hSw : Keeps _ w' := hSw
      clear hSw
      go_simp
      try with_reducible rfl
    change wpAnyH _ _ _ _ _ _ _ (Act.put _ (some 24) _) _
    try simp only [Act.put, List.setIfInBounds_toArray, List.set_cons_zero, List.set_cons_succ]
    refine wpAnyH_ready (rs := [13]) (by kernel_rfl) (by simp) ?_
    refine AllReadyH.cons (o := _) rfl (fun K hK => ?_) AllReadyH.nil
    go_simp
    refine (C3.out _).mono ?_
    rintro e y3 ⟨rfl, hk⟩
    have hb : Keeps _ y3 := hHeld.trans hk
    have HT := Lib.hid (HT.out.trans hk)
    go_wp2_with fail
    refine hK.out _ _ hb (fun _ => ?_)
    clear hK K
    try simp only [Act.put, List.setIfInBounds_toArray, List.set_cons_zero, List.set_cons_succ]
    refine wpAnyH_more (S' := fun w' => Keeps y3 w') (fun _ h => hb.trans h) ?_
    clear hHeld hb hk
    have hHeld : Keeps y3 y3 := Keeps.refl _
    refine wpAnyH_take (i := 14) (v := ?vv11) (by rfl) (by kernel_rfl) (by kernel_rfl) (by kernel_rfl) (by intro _ _ _ h; exact h) (Or.inl ⟨by kernel_rfl, ?hy11⟩) (by assumption) ?rest11
    case hy11 =>
      intro w' hSw
      have hSw : Keeps _ w' := hSw
      clear hSw
      go_simp
      try with_reducible rfl
    change wpAnyH _ _ _ _ _ _ _ (Act.put _ (some 28) _) _
    try simp only [Act.put, List.setIfInBounds_toArray, List.set_cons_zero, List.set_cons_succ]
    refine wpAnyH_ready (rs := [15]) (by kernel_rfl) (by simp) ?_
    refine AllReadyH.cons (o := _) rfl (fun K hK => ?_) AllReadyH.nil
    have hcc := hcv y3
    go_simp
    have hb := hHeld.trans (bytes_keeps y3 5 (bstr X0 ++ bstr X1 ++ bstr X2 ++ bstr X3))
    have HW : Hid (∃ z, z = Lib.bytesWorld y3 5 (bstr X0 ++ bstr X1 ++ bstr X2 ++ bstr X3)) := Lib.hid ⟨_, rfl⟩
    obtain ⟨yc, hyc⟩ := HW.out
    have HYC := Lib.hid hyc
    rw [← hyc] at hb ⊢
    clear hcc hyc
    refine hK.out _ _ hb (fun _ => ?_)
    clear hK K
    try simp only [Act.put, List.setIfInBounds_toArray, List.set_cons_zero, List.set_cons_succ]
    refine wpAnyH_more (S' := fun w' => Keeps yc w') (fun _ h => hb.trans h) ?_
    clear hHeld hb
    have hHeld : Keeps yc yc := Keeps.refl _
    refine wpAnyH_take (i := 16) (v := ?vv12) (by rfl) (by kernel_rfl) (by kernel_rfl) (by kernel_rfl) (by intro _ _ _ h; exact h) (Or.inl ⟨by kernel_rfl, ?hy12⟩) (by assumption) ?rest12
    case hy12 =>
      intro w' hSw
      have hSw : Keeps _ w' := hSw
      clear hSw
      go_simp
      try with_reducible rfl
    change wpAnyH _ _ _ _ _ _ _ (Act.put _ (some 2) _) _
    try simp only [Act.put, List.setIfInBounds_toArray, List.set_cons_zero, List.set_cons_succ]
    refine wpAnyH_take (i := 17) (v := ?vv13) (by rfl) (by kernel_rfl) (by kernel_rfl) (by kernel_rfl) (by intro _ _ _ h; exact h) (Or.inl ⟨by kernel_rfl, ?hy13⟩) (by assumption) ?rest13
    case hy13 =>
      intro w' hSw
      have hSw : Keeps _ w' := hSw
      clear hSw
      go_simp
      try with_reducible rfl
    change wpAnyH _ _ _ _ _ _ _ (Act.put _ (some 3) _) _
    try simp only [Act.put, List.setIfInBounds_toArray, List.set_cons_zero, List.set_cons_succ]
    refine wpAnyH_done (by kernel_rfl) ?_ _
    refine NoPanic.normal ?_
    have HF : Hid (RetRI w (payO r) (chk r) (.returned (.tuple #[.slice (some ⟨y3.heap.size, 0, none⟩) (14) (grownCap y3 (14) 0 5), .int .i64 0])) yc) := Lib.hid (by
      rw [HYC.out, HE.out]
      exact retRI HP.out HCH.out rfl HLN.out (by rw [HZS.out]) (by rw [← HLN.out]; have := HDL.out; simp [maxLen]; try omega) (HK.out.trans HT.out))
    go_wp2_with fail
    go_ret2
    exact HF.out
  by_cases k2 : r.kind = 2
  · rw [k2] at hok hPO
    obtain ⟨n0, hn0, hl0, hp0⟩ := fld_nat hok (q := pUid) (by decide)
    have hf0 : r.uid = (n0 : Int) := hn0
    have hp0' : putL n0 4 = be 4 n0 := hp0
    have C0 := Lib.hid (fun w => rput_any n0 hl0 4 w)
    rw [hp0'] at C0
    rw [hf0] at a5
    have hz0 : (bstr (be 4 n0)).size = 4 := by rw [bstr_size, be_length]
    have hy0 : (be 4 n0).length = 4 := be_length _ _
    obtain ⟨n1, hn1, hl1, hp1⟩ := fld_nat hok (q := ⟨8, 0, 4503599627370496, 6⟩) (by decide)
    have hf1 : r.time = (n1 : Int) := hn1
    have hp1' : putL n1 8 = be 8 n1 := hp1
    have C1 := Lib.hid (fun w => rput_any n1 hl1 8 w)
    rw [hp1'] at C1
    rw [hf1] at a6
    have hz1 : (bstr (be 8 n1)).size = 8 := by rw [bstr_size, be_length]
    have hy1 : (be 8 n1).length = 8 := be_length _ _
    obtain ⟨n2, hn2, hl2, hp2⟩ := fld_nat hok (q := pFlags) (by decide)
    have hf2 : r.flags = (n2 : Int) := hn2
    have hp2' : putL n2 1 = be 1 n2 := hp2
    have C2 := Lib.hid (fun w => rput_any n2 hl2 1 w)
    rw [hp2'] at C2
    rw [hf2] at a7
    have hz2 : (bstr (be 1 n2)).size = 1 := by rw [bstr_size, be_length]
    have hy2 : (be 1 n2).length = 1 := be_length _ _
    obtain ⟨n3, hn3, hl3, hp3⟩ := fld_nat hok (q := pBody) (by decide)
    have hf3 : r.body = (n3 : Int) := hn3
    have hp3' : putL n3 4 = be 4 n3 := hp3
    have C3 := Lib.hid (fun w => rput_any n3 hl3 4 w)
    rw [hp3'] at C3
    rw [hf3] at a8
    have hz3 : (bstr (be 4 n3)).size = 4 := by rw [bstr_size, be_length]
    have hy3 : (be 4 n3).length = 4 := be_length _ _
    obtain ⟨n4, hn4, hl4, hp4⟩ := fld_nat hok (q := ⟨4, 0, 32768, 9⟩) (by decide)
    have hf4 : r.size = (n4 : Int) := hn4
    have hp4' : putL n4 4 = be 4 n4 := hp4
    have C4 := Lib.hid (fun w => rput_any n4 hl4 4 w)
    rw [hp4'] at C4
    rw [hf4] at a9
    have hz4 : (bstr (be 4 n4)).size = 4 := by rw [bstr_size, be_length]
    have hy4 : (be 4 n4).length = 4 := be_length _ _
    obtain ⟨n5, hn5, hl5, hp5⟩ := fld_nat hok (q := ⟨8, 0, 9007199254740992, 10⟩) (by decide)
    have hf5 : r.origin = (n5 : Int) := hn5
    have hp5' : putL n5 8 = be 8 n5 := hp5
    have C5 := Lib.hid (fun w => rput_any n5 hl5 8 w)
    rw [hp5'] at C5
    rw [hf5] at a10
    have hz5 : (bstr (be 8 n5)).size = 8 := by rw [bstr_size, be_length]
    have hy5 : (be 8 n5).length = 8 := be_length _ _
    have HP : Hid (payO r = be 4 n0 ++ be 8 n1 ++ be 1 n2 ++ be 4 n3 ++ be 4 n4 ++ be 8 n5) := Lib.hid (by rw [hPO, hd6 (by omega)]; simp [numsL, partsL, pUid, pFlags, pBody, pNext, fld, hf0, hf1, hf2, hf3, hf4, hf5])
    have e1 : (r.kind == 1) = false := by simp [k1]
    have e2 : (r.kind == 2) = true := by simp [k2]
    have HDL := Lib.hid hdl
    clear hk hok hPO hd6 hdl hn0 hf0 hp0 hp0' hn1 hf1 hp1 hp1' hn2 hf2 hp2 hp2' hn3 hf3 hp3 hp3' hn4 hf4 hp4 hp4' hn5 hf5 hp5 hp5' k1 k2
    generalize be 4 n0 = X0 at *
    generalize be 8 n1 = X1 at *
    generalize be 1 n2 = X2 at *
    generalize be 4 n3 = X3 at *
    generalize be 4 n4 = X4 at *
    generalize be 8 n5 = X5 at *
    have hs1 : (bstr X0 ++ bstr X1).size = 12 := sz_app hz0 hz1
    have hs2 : (bstr X0 ++ bstr X1 ++ bstr X2).size = 13 := sz_app hs1 hz2
    have hs3 : (bstr X0 ++ bstr X1 ++ bstr X2 ++ bstr X3).size = 17 := sz_app hs2 hz3
    have hs4 : (bstr X0 ++ bstr X1 ++ bstr X2 ++ bstr X3 ++ bstr X4).size = 21 := sz_app hs3 hz4
    have hs5 : (bstr X0 ++ bstr X1 ++ bstr X2 ++ bstr X3 ++ bstr X4 ++ bstr X5).size = 29 := sz_app hs4 hz5
    have HE : Hid (bstr X0 ++ bstr X1 ++ bstr X2 ++ bstr X3 ++ bstr X4 ++ bstr X5 = bstr (X0 ++ X1 ++ X2 ++ X3 ++ X4 ++ X5)) := Lib.hid (by simp only [bstr_append])
    have hcv : ∀ w, (convert 9 28 (.string (bstr X0 ++ bstr X1 ++ bstr X2 ++ bstr X3 ++ bstr X4 ++ bstr X5))).run Try.prog w = .ok (.slice (some ⟨w.heap.size, 0, none⟩) (29) (grownCap w (29) 0 5)) (Lib.bytesWorld w 5 (bstr X0 ++ bstr X1 ++ bstr X2 ++ bstr X3 ++ bstr X4 ++ bstr X5)) := fun w => strb w _ hs5
    have HLN : Hid (29 = (X0 ++ X1 ++ X2 ++ X3 ++ X4 ++ X5).length) := Lib.hid (by simp only [List.length_append]; omega)
    have HZS : Hid ((bstr (X0 ++ X1 ++ X2 ++ X3 ++ X4 ++ X5)).size = 29) := Lib.hid (by rw [bstr_size]; exact HLN.out.symm)
    go_upto_region 8 with fail
    have HT := Lib.hid ((Keeps.refl w2).drew)
    refine wp_region_noPanic ?_
    refine wp_region_held_drew (S := fun w' => Keeps (w2) w') (by kernel_rfl) ((Keeps.refl _).drew) (fun _ => ?_)
    have hHeld : Keeps (w2) (w2).drew := (Keeps.refl _).drew
    refine wpAnyH_take (i := 0) (v := ?vv14) (by rfl) (by kernel_rfl) (by kernel_rfl) (by kernel_rfl) (by intro _ _ _ h; exact h) (Or.inl ⟨by kernel_rfl, ?hy14⟩) (by assumption) ?rest14
    case hy14 =>
      intro w' hSw
      have hSw : Keeps _ w' := hSw
      clear hSw
      go_simp
      try with_reducible rfl
    change wpAnyH _ _ _ _ _ _ _ (Act.put _ (some 32) _) _
    try simp only [Act.put, List.setIfInBounds_toArray, List.set_cons_zero, List.set_cons_succ]
    refine wpAnyH_take (i := 1) (v := ?vv15) (by rfl) (by kernel_rfl) (by kernel_rfl) (by kernel_rfl) (by intro _ _ _ h; exact h) (Or.inl ⟨by kernel_rfl, ?hy15⟩) (by assumption) ?rest15
    case hy15 =>
      intro w' hSw
      have hSw : Keeps _ w' := hSw
      have h0 := keep1 hSw a5
      clear hSw
      go_simp
      try with_reducible rfl
    change wpAnyH _ _ _ _ _ _ _ (Act.put _ (some 33) _) _
    try simp only [Act.put, List.setIfInBounds_toArray, List.set_cons_zero, List.set_cons_succ]
    refine wpAnyH_take (i := 3) (v := ?vv16) (by rfl) (by kernel_rfl) (by kernel_rfl) (by kernel_rfl) (by intro _ _ _ h; exact h) (Or.inl ⟨by kernel_rfl, ?hy16⟩) (by assumption) ?rest16
    case hy16 =>
      intro w' hSw
      have hSw : Keeps _ w' := hSw
      clear hSw
      go_simp
      try with_reducible rfl
    change wpAnyH _ _ _ _ _ _ _ (Act.put _ (some 35) _) _
    try simp only [Act.put, List.setIfInBounds_toArray, List.set_cons_zero, List.set_cons_succ]
    refine wpAnyH_take (i := 4) (v := ?vv17) (by rfl) (by kernel_rfl) (by kernel_rfl) (by kernel_rfl) (by intro _ _ _ h; exact h) (Or.inl ⟨by kernel_rfl, ?hy17⟩) (by assumption) ?rest17
    case hy17 =>
      intro w' hSw
      have hSw : Keeps _ w' := hSw
      have h0 := keep1 hSw a6
      clear hSw
      go_simp
      try with_reducible rfl
    change wpAnyH _ _ _ _ _ _ _ (Act.put _ (some 36) _) _
    try simp only [Act.put, List.setIfInBounds_toArray, List.set_cons_zero, List.set_cons_succ]
    refine wpAnyH_take (i := 7) (v := ?vv18) (by rfl) (by kernel_rfl) (by kernel_rfl) (by kernel_rfl) (by intro _ _ _ h; exact h) (Or.inl ⟨by kernel_rfl, ?hy18⟩) (by assumption) ?rest18
    case hy18 =>
      intro w' hSw
      have hSw : Keeps _ w' := hSw
      clear hSw
      go_simp
      try with_reducible rfl
    change wpAnyH _ _ _ _ _ _ _ (Act.put _ (some 39) _) _
    try simp only [Act.put, List.setIfInBounds_toArray, List.set_cons_zero, List.set_cons_succ]
    refine wpAnyH_take (i := 8) (v := ?vv19) (by rfl) (by kernel_rfl) (by kernel_rfl) (by kernel_rfl) (by intro _ _ _ h; exact h) (Or.inl ⟨by kernel_rfl, ?hy19⟩) (by assumption) ?rest19
    case hy19 =>
      intro w' hSw
      have hSw : Keeps _ w' := hSw
      have h0 := keep1 hSw a7
      clear hSw
      go_simp
      try with_reducible rfl
    change wpAnyH _ _ _ _ _ _ _ (Act.put _ (some 40) _) _
    try simp only [Act.put, List.setIfInBounds_toArray, List.set_cons_zero, List.set_cons_succ]
    refine wpAnyH_take (i := 11) (v := ?vv20) (by rfl) (by kernel_rfl) (by kernel_rfl) (by kernel_rfl) (by intro _ _ _ h; exact h) (Or.inl ⟨by kernel_rfl, ?hy20⟩) (by assumption) ?rest20
    case hy20 =>
      intro w' hSw
      have hSw : Keeps _ w' := hSw
      clear hSw
      go_simp
      try with_reducible rfl
    change wpAnyH _ _ _ _ _ _ _ (Act.put _ (some 43) _) _
    try simp only [Act.put, List.setIfInBounds_toArray, List.set_cons_zero, List.set_cons_succ]
    refine wpAnyH_take (i := 12) (v := ?vv21) (by rfl) (by kernel_rfl) (by kernel_rfl) (by kernel_rfl) (by intro _ _ _ h; exact h) (Or.inl ⟨by kernel_rfl, ?hy21⟩) (by assumption) ?rest21
    case hy21 =>
      intro w' hSw
      have hSw : Keeps _ w' := hSw
      have h0 := keep1 hSw a8
      clear hSw
      go_simp
      try with_reducible rfl
    change wpAnyH _ _ _ _ _ _ _ (Act.put _ (some 44) _) _
    try simp only [Act.put, List.setIfInBounds_toArray, List.set_cons_zero, List.set_cons_succ]
    refine wpAnyH_take (i := 15) (v := ?vv22) (by rfl) (by kernel_rfl) (by kernel_rfl) (by kernel_rfl) (by intro _ _ _ h; exact h) (Or.inl ⟨by kernel_rfl, ?hy22⟩) (by assumption) ?rest22
    case hy22 =>
      intro w' hSw
      have hSw : Keeps _ w' := hSw
      clear hSw
      go_simp
      try with_reducible rfl
    change wpAnyH _ _ _ _ _ _ _ (Act.put _ (some 47) _) _
    try simp only [Act.put, List.setIfInBounds_toArray, List.set_cons_zero, List.set_cons_succ]
    refine wpAnyH_take (i := 16) (v := ?vv23) (by rfl) (by kernel_rfl) (by kernel_rfl) (by kernel_rfl) (by intro _ _ _ h; exact h) (Or.inl ⟨by kernel_rfl, ?hy23⟩) (by assumption) ?rest23
    case hy23 =>
      intro w' hSw
      have hSw : Keeps _ w' := hSw
      have h0 := keep1 hSw a9
      clear hSw
      go_simp
      try with_reducible rfl
    change wpAnyH _ _ _ _ _ _ _ (Act.put _ (some 48) _) _
    try simp only [Act.put, List.setIfInBounds_toArray, List.set_cons_zero, List.set_cons_succ]
    refine wpAnyH_take (i := 19) (v := ?vv24) (by rfl) (by kernel_rfl) (by kernel_rfl) (by kernel_rfl) (by intro _ _ _ h; exact h) (Or.inl ⟨by kernel_rfl, ?hy24⟩) (by assumption) ?rest24
    case hy24 =>
      intro w' hSw
      have hSw : Keeps _ w' := hSw
      clear hSw
      go_simp
      try with_reducible rfl
    change wpAnyH _ _ _ _ _ _ _ (Act.put _ (some 51) _) _
    try simp only [Act.put, List.setIfInBounds_toArray, List.set_cons_zero, List.set_cons_succ]
    refine wpAnyH_take (i := 20) (v := ?vv25) (by rfl) (by kernel_rfl) (by kernel_rfl) (by kernel_rfl) (by intro _ _ _ h; exact h) (Or.inl ⟨by kernel_rfl, ?hy25⟩) (by assumption) ?rest25
    case hy25 =>
      intro w' hSw
      have hSw : Keeps _ w' := hSw
      have h0 := keep1 hSw a10
      clear hSw
      go_simp
      try with_reducible rfl
    change wpAnyH _ _ _ _ _ _ _ (Act.put _ (some 52) _) _
    try simp only [Act.put, List.setIfInBounds_toArray, List.set_cons_zero, List.set_cons_succ]
    refine wpAnyH_ready (rs := [2]) (by kernel_rfl) (by simp) ?_
    refine AllReadyH.cons (o := _) rfl (fun K hK => ?_) AllReadyH.nil
    go_simp
    refine (C0.out _).mono ?_
    rintro e y0 ⟨rfl, hk⟩
    have hb : Keeps _ y0 := hHeld.trans hk
    have HT := Lib.hid (HT.out.trans hk)
    go_wp2_with fail
    refine hK.out _ _ hb (fun _ => ?_)
    clear hK K
    try simp only [Act.put, List.setIfInBounds_toArray, List.set_cons_zero, List.set_cons_succ]
    refine wpAnyH_more (S' := fun w' => Keeps y0 w') (fun _ h => hb.trans h) ?_
    clear hHeld hb hk
    have hHeld : Keeps y0 y0 := Keeps.refl _
    refine wpAnyH_ready (rs := [5]) (by kernel_rfl) (by simp) ?_
    refine AllReadyH.cons (o := _) rfl (fun K hK => ?_) AllReadyH.nil
    go_simp
    refine (C1.out _).mono ?_
    rintro e y1 ⟨rfl, hk⟩
    have hb : Keeps _ y1 := hHeld.trans hk
    have HT := Lib.hid (HT.out.trans hk)
    go_wp2_with fail
    refine hK.out _ _ hb (fun _ => ?_)
    clear hK K
    try simp only [Act.put, List.setIfInBounds_toArray, List.set_cons_zero, List.set_cons_succ]
    refine wpAnyH_more (S' := fun w' => Keeps y1 w') (fun _ h => hb.trans h) ?_
    clear hHeld hb hk
    have hHeld : Keeps y1 y1 := Keeps.refl _
    refine wpAnyH_take (i := 6) (v := ?vv26) (by rfl) (by kernel_rfl) (by kernel_rfl) (by kernel_rfl) (by intro _ _ _ h; exact h) (Or.inl ⟨by kernel_rfl, ?hy26⟩) (by assumption) ?rest26
    case hy26 =>
      intro w' hSw
      have hSw : Keeps _ w' := hSw
      clear hSw
      go_simp
      try with_reducible rfl
    change wpAnyH _ _ _ _ _ _ _ (Act.put _ (some 38) _) _
    try simp only [Act.put, List.setIfInBounds_toArray, List.set_cons_zero, List.set_cons_succ]
    refine wpAnyH_ready (rs := [9]) (by kernel_rfl) (by simp) ?_
    refine AllReadyH.cons (o := _) rfl (fun K hK => ?_) AllReadyH.nil
    go_simp
    refine (C2.out _).mono ?_
    rintro e y2 ⟨rfl, hk⟩
    have hb : Keeps _ y2 := hHeld.trans hk
    have HT := Lib.hid (HT.out.trans hk)
    go_wp2_with fail
    refine hK.out _ _ hb (fun _ => ?_)
    clear hK K
    try simp only [Act.put, List.setIfInBounds_toArray, List.set_cons_zero, List.set_cons_succ]
    refine wpAnyH_more (S' := fun w' => Keeps y2 w') (fun _ h => hb.trans h) ?_
    clear hHeld hb hk
    have hHeld : Keeps y2 y2 := Keeps.refl _
    refine wpAnyH_take (i := 10) (v := ?vv27) (by rfl) (by kernel_rfl) (by kernel_rfl) (by kernel_rfl) (by intro _ _ _ h; exact h) (Or.inl ⟨by kernel_rfl, ?hy27⟩) (by assumption) ?rest27
    case hy27 =>
      intro w' hSw
      have hSw : Keeps _ w' := hSw
      clear hSw
      go_simp
      try with_reducible rfl
    change wpAnyH _ _ _ _ _ _ _ (Act.put _ (some 42) _) _
    try simp only [Act.put, List.setIfInBounds_toArray, List.set_cons_zero, List.set_cons_succ]
    refine wpAnyH_ready (rs := [13]) (by kernel_rfl) (by simp) ?_
    refine AllReadyH.cons (o := _) rfl (fun K hK => ?_) AllReadyH.nil
    go_simp
    refine (C3.out _).mono ?_
    rintro e y3 ⟨rfl, hk⟩
    have hb : Keeps _ y3 := hHeld.trans hk
    have HT := Lib.hid (HT.out.trans hk)
    go_wp2_with fail
    refine hK.out _ _ hb (fun _ => ?_)
    clear hK K
    try simp only [Act.put, List.setIfInBounds_toArray, List.set_cons_zero, List.set_cons_succ]
    refine wpAnyH_more (S' := fun w' => Keeps y3 w') (fun _ h => hb.trans h) ?_
    clear hHeld hb hk
    have hHeld : Keeps y3 y3 := Keeps.refl _
    refine wpAnyH_take (i := 14) (v := ?vv28) (by rfl) (by kernel_rfl) (by kernel_rfl) (by kernel_rfl) (by intro _ _ _ h; exact h) (Or.inl ⟨by kernel_rfl, ?hy28⟩) (by assumption) ?rest28
    case hy28 =>
      intro w' hSw
      have hSw : Keeps _ w' := hSw
      clear hSw
      go_simp
      try with_reducible rfl
    change wpAnyH _ _ _ _ _ _ _ (Act.put _ (some 46) _) _
    try simp only [Act.put, List.setIfInBounds_toArray, List.set_cons_zero, List.set_cons_succ]
    refine wpAnyH_ready (rs := [17]) (by kernel_rfl) (by simp) ?_
    refine AllReadyH.cons (o := _) rfl (fun K hK => ?_) AllReadyH.nil
    go_simp
    refine (C4.out _).mono ?_
    rintro e y4 ⟨rfl, hk⟩
    have hb : Keeps _ y4 := hHeld.trans hk
    have HT := Lib.hid (HT.out.trans hk)
    go_wp2_with fail
    refine hK.out _ _ hb (fun _ => ?_)
    clear hK K
    try simp only [Act.put, List.setIfInBounds_toArray, List.set_cons_zero, List.set_cons_succ]
    refine wpAnyH_more (S' := fun w' => Keeps y4 w') (fun _ h => hb.trans h) ?_
    clear hHeld hb hk
    have hHeld : Keeps y4 y4 := Keeps.refl _
    refine wpAnyH_take (i := 18) (v := ?vv29) (by rfl) (by kernel_rfl) (by kernel_rfl) (by kernel_rfl) (by intro _ _ _ h; exact h) (Or.inl ⟨by kernel_rfl, ?hy29⟩) (by assumption) ?rest29
    case hy29 =>
      intro w' hSw
      have hSw : Keeps _ w' := hSw
      clear hSw
      go_simp
      try with_reducible rfl
    change wpAnyH _ _ _ _ _ _ _ (Act.put _ (some 50) _) _
    try simp only [Act.put, List.setIfInBounds_toArray, List.set_cons_zero, List.set_cons_succ]
    refine wpAnyH_ready (rs := [21]) (by kernel_rfl) (by simp) ?_
    refine AllReadyH.cons (o := _) rfl (fun K hK => ?_) AllReadyH.nil
    go_simp
    refine (C5.out _).mono ?_
    rintro e y5 ⟨rfl, hk⟩
    have hb : Keeps _ y5 := hHeld.trans hk
    have HT := Lib.hid (HT.out.trans hk)
    go_wp2_with fail
    refine hK.out _ _ hb (fun _ => ?_)
    clear hK K
    try simp only [Act.put, List.setIfInBounds_toArray, List.set_cons_zero, List.set_cons_succ]
    refine wpAnyH_more (S' := fun w' => Keeps y5 w') (fun _ h => hb.trans h) ?_
    clear hHeld hb hk
    have hHeld : Keeps y5 y5 := Keeps.refl _
    refine wpAnyH_take (i := 22) (v := ?vv30) (by rfl) (by kernel_rfl) (by kernel_rfl) (by kernel_rfl) (by intro _ _ _ h; exact h) (Or.inl ⟨by kernel_rfl, ?hy30⟩) (by assumption) ?rest30
    case hy30 =>
      intro w' hSw
      have hSw : Keeps _ w' := hSw
      clear hSw
      go_simp
      try with_reducible rfl
    change wpAnyH _ _ _ _ _ _ _ (Act.put _ (some 54) _) _
    try simp only [Act.put, List.setIfInBounds_toArray, List.set_cons_zero, List.set_cons_succ]
    refine wpAnyH_ready (rs := [23]) (by kernel_rfl) (by simp) ?_
    refine AllReadyH.cons (o := _) rfl (fun K hK => ?_) AllReadyH.nil
    have hcc := hcv y5
    go_simp
    have hb := hHeld.trans (bytes_keeps y5 5 (bstr X0 ++ bstr X1 ++ bstr X2 ++ bstr X3 ++ bstr X4 ++ bstr X5))
    have HW : Hid (∃ z, z = Lib.bytesWorld y5 5 (bstr X0 ++ bstr X1 ++ bstr X2 ++ bstr X3 ++ bstr X4 ++ bstr X5)) := Lib.hid ⟨_, rfl⟩
    obtain ⟨yc, hyc⟩ := HW.out
    have HYC := Lib.hid hyc
    rw [← hyc] at hb ⊢
    clear hcc hyc
    refine hK.out _ _ hb (fun _ => ?_)
    clear hK K
    try simp only [Act.put, List.setIfInBounds_toArray, List.set_cons_zero, List.set_cons_succ]
    refine wpAnyH_more (S' := fun w' => Keeps yc w') (fun _ h => hb.trans h) ?_
    clear hHeld hb
    have hHeld : Keeps yc yc := Keeps.refl _
    refine wpAnyH_take (i := 24) (v := ?vv31) (by rfl) (by kernel_rfl) (by kernel_rfl) (by kernel_rfl) (by intro _ _ _ h; exact h) (Or.inl ⟨by kernel_rfl, ?hy31⟩) (by assumption) ?rest31
    case hy31 =>
      intro w' hSw
      have hSw : Keeps _ w' := hSw
      clear hSw
      go_simp
      try with_reducible rfl
    change wpAnyH _ _ _ _ _ _ _ (Act.put _ (some 2) _) _
    try simp only [Act.put, List.setIfInBounds_toArray, List.set_cons_zero, List.set_cons_succ]
    refine wpAnyH_take (i := 25) (v := ?vv32) (by rfl) (by kernel_rfl) (by kernel_rfl) (by kernel_rfl) (by intro _ _ _ h; exact h) (Or.inl ⟨by kernel_rfl, ?hy32⟩) (by assumption) ?rest32
    case hy32 =>
      intro w' hSw
      have hSw : Keeps _ w' := hSw
      clear hSw
      go_simp
      try with_reducible rfl
    change wpAnyH _ _ _ _ _ _ _ (Act.put _ (some 3) _) _
    try simp only [Act.put, List.setIfInBounds_toArray, List.set_cons_zero, List.set_cons_succ]
    refine wpAnyH_done (by kernel_rfl) ?_ _
    refine NoPanic.normal ?_
    have HF : Hid (RetRI w (payO r) (chk r) (.returned (.tuple #[.slice (some ⟨y5.heap.size, 0, none⟩) (29) (grownCap y5 (29) 0 5), .int .i64 0])) yc) := Lib.hid (by
      rw [HYC.out, HE.out]
      exact retRI HP.out HCH.out rfl HLN.out (by rw [HZS.out]) (by rw [← HLN.out]; have := HDL.out; simp [maxLen]; try omega) (HK.out.trans HT.out))
    go_wp2_with fail
    go_ret2
    exact HF.out
  by_cases k3 : r.kind = 3
  · rw [k3] at hok hPO
    obtain ⟨n0, hn0, hl0, hp0⟩ := fld_nat hok (q := pUid) (by decide)
    have hf0 : r.uid = (n0 : Int) := hn0
    have hp0' : putL n0 4 = be 4 n0 := hp0
    have C0 := Lib.hid (fun w => rput_any n0 hl0 4 w)
    rw [hp0'] at C0
    rw [hf0] at a5
    have hz0 : (bstr (be 4 n0)).size = 4 := by rw [bstr_size, be_length]
    have hy0 : (be 4 n0).length = 4 := be_length _ _
    have HP : Hid (payO r = be 4 n0) := Lib.hid (by rw [hPO, hd6 (by omega)]; simp [numsL, partsL, pUid, pFlags, pBody, pNext, fld, hf0])
    have e1 : (r.kind == 1) = false := by simp [k1]
    have e2 : (r.kind == 2) = false := by simp [k2]
    have e3 : (r.kind == 3) = true := by simp [k3]
    have HDL := Lib.hid hdl
    clear hk hok hPO hd6 hdl hn0 hf0 hp0 hp0' k1 k2 k3
    generalize be 4 n0 = X0 at *
    have hcv : ∀ w, (convert 9 28 (.string (bstr X0))).run Try.prog w = .ok (.slice (some ⟨w.heap.size, 0, none⟩) (4) (grownCap w (4) 0 5)) (Lib.bytesWorld w 5 (bstr X0)) := fun w => strb w _ hz0
    have HLN : Hid (4 = (X0).length) := Lib.hid (by omega)
    have HZS : Hid ((bstr (X0)).size = 4) := Lib.hid (by rw [bstr_size]; exact HLN.out.symm)
    go_wp2_with fail
    refine (C0.out _).mono ?_
    rintro e y0 ⟨rfl, hky⟩
    have HF : Hid (RetRI w (payO r) (chk r) (.returned (.tuple #[.slice (some ⟨y0.heap.size, 0, none⟩) (4) (grownCap y0 (4) 0 5), .int .i64 0])) (Lib.bytesWorld y0 5 (bstr X0))) := Lib.hid (by
      exact retRI HP.out HCH.out rfl HLN.out (by rw [HZS.out]) (by rw [← HLN.out]; have := HDL.out; simp [maxLen]; try omega) (HK.out.trans hky))
    go_wp2_with fail
    go_ret2
    exact HF.out
  by_cases k4 : r.kind = 4
  · rw [k4] at hok hPO
    obtain ⟨n0, hn0, hl0, hp0⟩ := fld_nat hok (q := pUid) (by decide)
    have hf0 : r.uid = (n0 : Int) := hn0
    have hp0' : putL n0 4 = be 4 n0 := hp0
    have C0 := Lib.hid (fun w => rput_any n0 hl0 4 w)
    rw [hp0'] at C0
    rw [hf0] at a5
    have hz0 : (bstr (be 4 n0)).size = 4 := by rw [bstr_size, be_length]
    have hy0 : (be 4 n0).length = 4 := be_length _ _
    obtain ⟨n1, hn1, hl1, hp1⟩ := fld_nat hok (q := pFlags) (by decide)
    have hf1 : r.flags = (n1 : Int) := hn1
    have hp1' : putL n1 1 = be 1 n1 := hp1
    have C1 := Lib.hid (fun w => rput_any n1 hl1 1 w)
    rw [hp1'] at C1
    rw [hf1] at a7
    have hz1 : (bstr (be 1 n1)).size = 1 := by rw [bstr_size, be_length]
    have hy1 : (be 1 n1).length = 1 := be_length _ _
    have HP : Hid (payO r = be 4 n0 ++ be 1 n1) := Lib.hid (by rw [hPO, hd6 (by omega)]; simp [numsL, partsL, pUid, pFlags, pBody, pNext, fld, hf0, hf1])
    have e1 : (r.kind == 1) = false := by simp [k1]
    have e2 : (r.kind == 2) = false := by simp [k2]
    have e3 : (r.kind == 3) = false := by simp [k3]
    have e4 : (r.kind == 4) = true := by simp [k4]
    have HDL := Lib.hid hdl
    clear hk hok hPO hd6 hdl hn0 hf0 hp0 hp0' hn1 hf1 hp1 hp1' k1 k2 k3 k4
    generalize be 4 n0 = X0 at *
    generalize be 1 n1 = X1 at *
    have hs1 : (bstr X0 ++ bstr X1).size = 5 := sz_app hz0 hz1
    have HE : Hid (bstr X0 ++ bstr X1 = bstr (X0 ++ X1)) := Lib.hid (by simp only [bstr_append])
    have hcv : ∀ w, (convert 9 28 (.string (bstr X0 ++ bstr X1))).run Try.prog w = .ok (.slice (some ⟨w.heap.size, 0, none⟩) (5) (grownCap w (5) 0 5)) (Lib.bytesWorld w 5 (bstr X0 ++ bstr X1)) := fun w => strb w _ hs1
    have HLN : Hid (5 = (X0 ++ X1).length) := Lib.hid (by simp only [List.length_append]; omega)
    have HZS : Hid ((bstr (X0 ++ X1)).size = 5) := Lib.hid (by rw [bstr_size]; exact HLN.out.symm)
    go_upto_region 12 with fail
    have HT := Lib.hid ((Keeps.refl w2).drew)
    refine wp_region_noPanic ?_
    refine wp_region_held_drew (S := fun w' => Keeps (w2) w') (by kernel_rfl) ((Keeps.refl _).drew) (fun _ => ?_)
    have hHeld : Keeps (w2) (w2).drew := (Keeps.refl _).drew
    refine wpAnyH_take (i := 0) (v := ?vv33) (by rfl) (by kernel_rfl) (by kernel_rfl) (by kernel_rfl) (by intro _ _ _ h; exact h) (Or.inl ⟨by kernel_rfl, ?hy33⟩) (by assumption) ?rest33
    case hy33 =>
      intro w' hSw
      have hSw : Keeps _ w' := hSw
      clear hSw
      go_simp
      try with_reducible rfl
    change wpAnyH _ _ _ _ _ _ _ (Act.put _ (some 64) _) _
    try simp only [Act.put, List.setIfInBounds_toArray, List.set_cons_zero, List.set_cons_succ]
    refine wpAnyH_take (i := 1) (v := ?vv34) (by rfl) (by kernel_rfl) (by kernel_rfl) (by kernel_rfl) (by intro _ _ _ h; exact h) (Or.inl ⟨by kernel_rfl, ?hy34⟩) (by assumption) ?rest34
    case hy34 =>
      intro w' hSw
      have hSw : Keeps _ w' := hSw
      have h0 := keep1 hSw a5
      clear hSw
      go_simp
      try with_reducible rfl
    change wpAnyH _ _ _ _ _ _ _ (Act.put _ (some 65) _) _
    try simp only [Act.put, List.setIfInBounds_toArray, List.set_cons_zero, List.set_cons_succ]
    refine wpAnyH_take (i := 3) (v := ?vv35) (by rfl) (by kernel_rfl) (by kernel_rfl) (by kernel_rfl) (by intro _ _ _ h; exact h) (Or.inl ⟨by kernel_rfl, ?hy35⟩) (by assumption) ?rest35
    case hy35 =>
      intro w' hSw
      have hSw : Keeps _ w' := hSw
      clear hSw
      go_simp
      try with_reducible rfl
    change wpAnyH _ _ _ _ _ _ _ (Act.put _ (some 67) _) _
    try simp only [Act.put, List.setIfInBounds_toArray, List.set_cons_zero, List.set_cons_succ]
    refine wpAnyH_take (i := 4) (v := ?vv36) (by rfl) (by kernel_rfl) (by kernel_rfl) (by kernel_rfl) (by intro _ _ _ h; exact h) (Or.inl ⟨by kernel_rfl, ?hy36⟩) (by assumption) ?rest36
    case hy36 =>
      intro w' hSw
      have hSw : Keeps _ w' := hSw
      have h0 := keep1 hSw a7
      clear hSw
      go_simp
      try with_reducible rfl
    change wpAnyH _ _ _ _ _ _ _ (Act.put _ (some 68) _) _
    try simp only [Act.put, List.setIfInBounds_toArray, List.set_cons_zero, List.set_cons_succ]
    refine wpAnyH_ready (rs := [2]) (by kernel_rfl) (by simp) ?_
    refine AllReadyH.cons (o := _) rfl (fun K hK => ?_) AllReadyH.nil
    go_simp
    refine (C0.out _).mono ?_
    rintro e y0 ⟨rfl, hk⟩
    have hb : Keeps _ y0 := hHeld.trans hk
    have HT := Lib.hid (HT.out.trans hk)
    go_wp2_with fail
    refine hK.out _ _ hb (fun _ => ?_)
    clear hK K
    try simp only [Act.put, List.setIfInBounds_toArray, List.set_cons_zero, List.set_cons_succ]
    refine wpAnyH_more (S' := fun w' => Keeps y0 w') (fun _ h => hb.trans h) ?_
    clear hHeld hb hk
    have hHeld : Keeps y0 y0 := Keeps.refl _
    refine wpAnyH_ready (rs := [5]) (by kernel_rfl) (by simp) ?_
    refine AllReadyH.cons (o := _) rfl (fun K hK => ?_) AllReadyH.nil
    go_simp
    refine (C1.out _).mono ?_
    rintro e y1 ⟨rfl, hk⟩
    have hb : Keeps _ y1 := hHeld.trans hk
    have HT := Lib.hid (HT.out.trans hk)
    go_wp2_with fail
    refine hK.out _ _ hb (fun _ => ?_)
    clear hK K
    try simp only [Act.put, List.setIfInBounds_toArray, List.set_cons_zero, List.set_cons_succ]
    refine wpAnyH_more (S' := fun w' => Keeps y1 w') (fun _ h => hb.trans h) ?_
    clear hHeld hb hk
    have hHeld : Keeps y1 y1 := Keeps.refl _
    refine wpAnyH_take (i := 6) (v := ?vv37) (by rfl) (by kernel_rfl) (by kernel_rfl) (by kernel_rfl) (by intro _ _ _ h; exact h) (Or.inl ⟨by kernel_rfl, ?hy37⟩) (by assumption) ?rest37
    case hy37 =>
      intro w' hSw
      have hSw : Keeps _ w' := hSw
      clear hSw
      go_simp
      try with_reducible rfl
    change wpAnyH _ _ _ _ _ _ _ (Act.put _ (some 70) _) _
    try simp only [Act.put, List.setIfInBounds_toArray, List.set_cons_zero, List.set_cons_succ]
    refine wpAnyH_ready (rs := [7]) (by kernel_rfl) (by simp) ?_
    refine AllReadyH.cons (o := _) rfl (fun K hK => ?_) AllReadyH.nil
    have hcc := hcv y1
    go_simp
    have hb := hHeld.trans (bytes_keeps y1 5 (bstr X0 ++ bstr X1))
    have HW : Hid (∃ z, z = Lib.bytesWorld y1 5 (bstr X0 ++ bstr X1)) := Lib.hid ⟨_, rfl⟩
    obtain ⟨yc, hyc⟩ := HW.out
    have HYC := Lib.hid hyc
    rw [← hyc] at hb ⊢
    clear hcc hyc
    refine hK.out _ _ hb (fun _ => ?_)
    clear hK K
    try simp only [Act.put, List.setIfInBounds_toArray, List.set_cons_zero, List.set_cons_succ]
    refine wpAnyH_more (S' := fun w' => Keeps yc w') (fun _ h => hb.trans h) ?_
    clear hHeld hb
    have hHeld : Keeps yc yc := Keeps.refl _
    refine wpAnyH_take (i := 8) (v := ?vv38) (by rfl) (by kernel_rfl) (by kernel_rfl) (by kernel_rfl) (by intro _ _ _ h; exact h) (Or.inl ⟨by kernel_rfl, ?hy38⟩) (by assumption) ?rest38
    case hy38 =>
      intro w' hSw
      have hSw : Keeps _ w' := hSw
      clear hSw
      go_simp
      try with_reducible rfl
    change wpAnyH _ _ _ _ _ _ _ (Act.put _ (some 2) _) _
    try simp only [Act.put, List.setIfInBounds_toArray, List.set_cons_zero, List.set_cons_succ]
    refine wpAnyH_take (i := 9) (v := ?vv39) (by rfl) (by kernel_rfl) (by kernel_rfl) (by kernel_rfl) (by intro _ _ _ h; exact h) (Or.inl ⟨by kernel_rfl, ?hy39⟩) (by assumption) ?rest39
    case hy39 =>
      intro w' hSw
      have hSw : Keeps _ w' := hSw
      clear hSw
      go_simp
      try with_reducible rfl
    change wpAnyH _ _ _ _ _ _ _ (Act.put _ (some 3) _) _
    try simp only [Act.put, List.setIfInBounds_toArray, List.set_cons_zero, List.set_cons_succ]
    refine wpAnyH_done (by kernel_rfl) ?_ _
    refine NoPanic.normal ?_
    have HF : Hid (RetRI w (payO r) (chk r) (.returned (.tuple #[.slice (some ⟨y1.heap.size, 0, none⟩) (5) (grownCap y1 (5) 0 5), .int .i64 0])) yc) := Lib.hid (by
      rw [HYC.out, HE.out]
      exact retRI HP.out HCH.out rfl HLN.out (by rw [HZS.out]) (by rw [← HLN.out]; have := HDL.out; simp [maxLen]; try omega) (HK.out.trans HT.out))
    go_wp2_with fail
    go_ret2
    exact HF.out
  by_cases k5 : r.kind = 5
  · rw [k5] at hok hPO
    obtain ⟨n0, hn0, hl0, hp0⟩ := fld_nat hok (q := pNext) (by decide)
    have hf0 : r.next = (n0 : Int) := hn0
    have hp0' : putL n0 4 = be 4 n0 := hp0
    have C0 := Lib.hid (fun w => rput_any n0 hl0 4 w)
    rw [hp0'] at C0
    rw [hf0] at a3
    have hz0 : (bstr (be 4 n0)).size = 4 := by rw [bstr_size, be_length]
    have hy0 : (be 4 n0).length = 4 := be_length _ _
    have HP : Hid (payO r = be 4 n0) := Lib.hid (by rw [hPO, hd6 (by omega)]; simp [numsL, partsL, pUid, pFlags, pBody, pNext, fld, hf0])
    have e1 : (r.kind == 1) = false := by simp [k1]
    have e2 : (r.kind == 2) = false := by simp [k2]
    have e3 : (r.kind == 3) = false := by simp [k3]
    have e4 : (r.kind == 4) = false := by simp [k4]
    have e5 : (r.kind == 5) = true := by simp [k5]
    have HDL := Lib.hid hdl
    clear hk hok hPO hd6 hdl hn0 hf0 hp0 hp0' k1 k2 k3 k4 k5
    generalize be 4 n0 = X0 at *
    have hcv : ∀ w, (convert 9 28 (.string (bstr X0))).run Try.prog w = .ok (.slice (some ⟨w.heap.size, 0, none⟩) (4) (grownCap w (4) 0 5)) (Lib.bytesWorld w 5 (bstr X0)) := fun w => strb w _ hz0
    have HLN : Hid (4 = (X0).length) := Lib.hid (by omega)
    have HZS : Hid ((bstr (X0)).size = 4) := Lib.hid (by rw [bstr_size]; exact HLN.out.symm)
    go_wp2_with fail
    refine (C0.out _).mono ?_
    rintro e y0 ⟨rfl, hky⟩
    have HF : Hid (RetRI w (payO r) (chk r) (.returned (.tuple #[.slice (some ⟨y0.heap.size, 0, none⟩) (4) (grownCap y0 (4) 0 5), .int .i64 0])) (Lib.bytesWorld y0 5 (bstr X0))) := Lib.hid (by
      exact retRI HP.out HCH.out rfl HLN.out (by rw [HZS.out]) (by rw [← HLN.out]; have := HDL.out; simp [maxLen]; try omega) (HK.out.trans hky))
    go_wp2_with fail
    go_ret2
    exact HF.out
  have k6 : r.kind = 6 := by omega
  rw [k6] at hok hPO
  obtain ⟨n0, hn0, hl0, hp0⟩ := fld_nat hok (q := pBody) (by decide)
  have hf0 : r.body = (n0 : Int) := hn0
  have hp0' : putL n0 4 = be 4 n0 := hp0
  have C0 := Lib.hid (fun w => rput_any n0 hl0 4 w)
  rw [hp0'] at C0
  rw [hf0] at a8
  have hz0 : (bstr (be 4 n0)).size = 4 := by rw [bstr_size, be_length]
  have hy0 : (be 4 n0).length = 4 := be_length _ _
  have HP : Hid (payO r = be 4 n0 ++ r.data) := Lib.hid (by rw [hPO]; simp [numsL, partsL, pUid, pFlags, pBody, pNext, fld, hf0])
  have e1 : (r.kind == 1) = false := by simp [k1]
  have e2 : (r.kind == 2) = false := by simp [k2]
  have e3 : (r.kind == 3) = false := by simp [k3]
  have e4 : (r.kind == 4) = false := by simp [k4]
  have e5 : (r.kind == 5) = false := by simp [k5]
  have HDL := Lib.hid hdl
  clear hk hok hPO hd6 hdl hn0 hf0 hp0 hp0' k1 k2 k3 k4 k5 k6
  generalize be 4 n0 = X0 at *
  have hzd : (bstr r.data).size = r.data.length := bstr_size _
  have hs1 : (bstr X0 ++ bstr r.data).size = 4 + r.data.length := sz_app hz0 hzd
  have HE : Hid (bstr X0 ++ bstr r.data = bstr (X0 ++ r.data)) := Lib.hid (by simp only [bstr_append])
  have hcv : ∀ w, (convert 9 28 (.string (bstr X0 ++ bstr r.data))).run Try.prog w = .ok (.slice (some ⟨w.heap.size, 0, none⟩) (4 + r.data.length) (grownCap w (4 + r.data.length) 0 5)) (Lib.bytesWorld w 5 (bstr X0 ++ bstr r.data)) := fun w => strb w _ hs1
  have HLN : Hid (4 + r.data.length = (X0 ++ r.data).length) := Lib.hid (by simp only [List.length_append]; omega)
  have HZS : Hid ((bstr (X0 ++ r.data)).size = 4 + r.data.length) := Lib.hid (by rw [bstr_size]; exact HLN.out.symm)
  go_upto_region 15 with fail
  have HT := Lib.hid ((Keeps.refl w2).drew)
  refine wp_region_noPanic ?_
  refine wp_region_held_drew (S := fun w' => Keeps (w2) w') (by kernel_rfl) ((Keeps.refl _).drew) (fun _ => ?_)
  have hHeld : Keeps (w2) (w2).drew := (Keeps.refl _).drew
  refine wpAnyH_take (i := 0) (v := ?vv40) (by rfl) (by kernel_rfl) (by kernel_rfl) (by kernel_rfl) (by intro _ _ _ h; exact h) (Or.inl ⟨by kernel_rfl, ?hy40⟩) (by assumption) ?rest40
  case hy40 =>
    intro w' hSw
    have hSw : Keeps _ w' := hSw
    clear hSw
    go_simp
    try with_reducible rfl
  change wpAnyH _ _ _ _ _ _ _ (Act.put _ (some 78) _) _
  try simp only [Act.put, List.setIfInBounds_toArray, List.set_cons_zero, List.set_cons_succ]
  refine wpAnyH_take (i := 1) (v := ?vv41) (by rfl) (by kernel_rfl) (by kernel_rfl) (by kernel_rfl) (by intro _ _ _ h; exact h) (Or.inl ⟨by kernel_rfl, ?hy41⟩) (by assumption) ?rest41
  case hy41 =>
    intro w' hSw
    have hSw : Keeps _ w' := hSw
    have h0 := keep1 hSw a8
    clear hSw
    go_simp
    try with_reducible rfl
  change wpAnyH _ _ _ _ _ _ _ (Act.put _ (some 79) _) _
  try simp only [Act.put, List.setIfInBounds_toArray, List.set_cons_zero, List.set_cons_succ]
  refine wpAnyH_take (i := 3) (v := ?vv42) (by rfl) (by kernel_rfl) (by kernel_rfl) (by kernel_rfl) (by intro _ _ _ h; exact h) (Or.inl ⟨by kernel_rfl, ?hy42⟩) (by assumption) ?rest42
  case hy42 =>
    intro w' hSw
    have hSw : Keeps _ w' := hSw
    clear hSw
    go_simp
    try with_reducible rfl
  change wpAnyH _ _ _ _ _ _ _ (Act.put _ (some 81) _) _
  try simp only [Act.put, List.setIfInBounds_toArray, List.set_cons_zero, List.set_cons_succ]
  refine wpAnyH_take (i := 4) (v := ?vv43) (by rfl) (by kernel_rfl) (by kernel_rfl) (by kernel_rfl) (by intro _ _ _ h; exact h) (Or.inl ⟨by kernel_rfl, ?hy43⟩) (by assumption) ?rest43
  case hy43 =>
    intro w' hSw
    have hSw : Keeps _ w' := hSw
    have h0 := keep1 hSw a11
    clear hSw
    go_simp
    try with_reducible rfl
  change wpAnyH _ _ _ _ _ _ _ (Act.put _ (some 82) _) _
  try simp only [Act.put, List.setIfInBounds_toArray, List.set_cons_zero, List.set_cons_succ]
  refine wpAnyH_take (i := 5) (v := ?vv44) (by rfl) (by kernel_rfl) (by kernel_rfl) (by kernel_rfl) (by intro _ _ _ h; exact h) (Or.inl ⟨by kernel_rfl, ?hy44⟩) (by assumption) ?rest44
  case hy44 =>
    intro w' hSw
    have hSw : Keeps _ w' := hSw
    have hc := rstr_at (HKr.out.keeps hSw)
    clear hSw
    go_simp
    try with_reducible rfl
  change wpAnyH _ _ _ _ _ _ _ (Act.put _ (some 83) _) _
  try simp only [Act.put, List.setIfInBounds_toArray, List.set_cons_zero, List.set_cons_succ]
  refine wpAnyH_ready (rs := [2]) (by kernel_rfl) (by simp) ?_
  refine AllReadyH.cons (o := _) rfl (fun K hK => ?_) AllReadyH.nil
  go_simp
  refine (C0.out _).mono ?_
  rintro e y0 ⟨rfl, hk⟩
  have hb : Keeps _ y0 := hHeld.trans hk
  have HT := Lib.hid (HT.out.trans hk)
  go_wp2_with fail
  refine hK.out _ _ hb (fun _ => ?_)
  clear hK K
  try simp only [Act.put, List.setIfInBounds_toArray, List.set_cons_zero, List.set_cons_succ]
  refine wpAnyH_more (S' := fun w' => Keeps y0 w') (fun _ h => hb.trans h) ?_
  clear hHeld hb hk
  have hHeld : Keeps y0 y0 := Keeps.refl _
  refine wpAnyH_take (i := 6) (v := ?vv45) (by rfl) (by kernel_rfl) (by kernel_rfl) (by kernel_rfl) (by intro _ _ _ h; exact h) (Or.inl ⟨by kernel_rfl, ?hy45⟩) (by assumption) ?rest45
  case hy45 =>
    intro w' hSw
    have hSw : Keeps _ w' := hSw
    have hq : ¬ 9223372036854775807 < 4 + r.data.length := by have := HDL.out; omega
    clear hSw
    go_simp
    try with_reducible rfl
  change wpAnyH _ _ _ _ _ _ _ (Act.put _ (some 84) _) _
  try simp only [Act.put, List.setIfInBounds_toArray, List.set_cons_zero, List.set_cons_succ]
  refine wpAnyH_ready (rs := [7]) (by kernel_rfl) (by simp) ?_
  refine AllReadyH.cons (o := _) rfl (fun K hK => ?_) AllReadyH.nil
  have hcc := hcv y0
  go_simp
  have hb := hHeld.trans (bytes_keeps y0 5 (bstr X0 ++ bstr r.data))
  have HW : Hid (∃ z, z = Lib.bytesWorld y0 5 (bstr X0 ++ bstr r.data)) := Lib.hid ⟨_, rfl⟩
  obtain ⟨yc, hyc⟩ := HW.out
  have HYC := Lib.hid hyc
  rw [← hyc] at hb ⊢
  clear hcc hyc
  refine hK.out _ _ hb (fun _ => ?_)
  clear hK K
  try simp only [Act.put, List.setIfInBounds_toArray, List.set_cons_zero, List.set_cons_succ]
  refine wpAnyH_more (S' := fun w' => Keeps yc w') (fun _ h => hb.trans h) ?_
  clear hHeld hb
  have hHeld : Keeps yc yc := Keeps.refl _
  refine wpAnyH_take (i := 8) (v := ?vv46) (by rfl) (by kernel_rfl) (by kernel_rfl) (by kernel_rfl) (by intro _ _ _ h; exact h) (Or.inl ⟨by kernel_rfl, ?hy46⟩) (by assumption) ?rest46
  case hy46 =>
    intro w' hSw
    have hSw : Keeps _ w' := hSw
    clear hSw
    go_simp
    try with_reducible rfl
  change wpAnyH _ _ _ _ _ _ _ (Act.put _ (some 2) _) _
  try simp only [Act.put, List.setIfInBounds_toArray, List.set_cons_zero, List.set_cons_succ]
  refine wpAnyH_take (i := 9) (v := ?vv47) (by rfl) (by kernel_rfl) (by kernel_rfl) (by kernel_rfl) (by intro _ _ _ h; exact h) (Or.inl ⟨by kernel_rfl, ?hy47⟩) (by assumption) ?rest47
  case hy47 =>
    intro w' hSw
    have hSw : Keeps _ w' := hSw
    clear hSw
    go_simp
    try with_reducible rfl
  change wpAnyH _ _ _ _ _ _ _ (Act.put _ (some 3) _) _
  try simp only [Act.put, List.setIfInBounds_toArray, List.set_cons_zero, List.set_cons_succ]
  refine wpAnyH_done (by kernel_rfl) ?_ _
  refine NoPanic.normal ?_
  have HF : Hid (RetRI w (payO r) (chk r) (.returned (.tuple #[.slice (some ⟨y0.heap.size, 0, none⟩) (4 + r.data.length) (grownCap y0 (4 + r.data.length) 0 5), .int .i64 0])) yc) := Lib.hid (by
    rw [HYC.out, HE.out]
    exact retRI HP.out HCH.out rfl HLN.out (by rw [HZS.out]) (by rw [← HLN.out]; have := HDL.out; simp [maxLen]; try omega) (HK.out.trans HT.out))
  go_wp2_with fail
  go_ret2
  exact HF.out

set_option maxRecDepth 100000 in
set_option maxHeartbeats 2000000 in
theorem rFrame_any (r : Rec) (v : Value) (w : World) (hr : Row w v (r.data.map u8v)) :
    Calls Try.prog 41 #[.agg (recA r v)] w (RetRI w (frmL r) (chk r)) := by
  obtain ⟨pv, cv, rfl, -, -⟩ := hr.form
  have hnl : (List.map u8v r.data).length = r.data.length := by simp
  rw [hnl] at hr ⊢
  clear hnl
  have HR := Lib.hid hr
  clear hr
  have HP := Lib.hid (fun w h => rPayload_any r (.slice pv r.data.length cv) w h)
  unfold recA
  go_enter Try.func41, Try.ntmps41
  go_upto_region 1 with fail
  generalize hW : World.alloc w _ = w1
  have HK := Lib.hid (show Keeps w w1 from by rw [← hW]; exact (Keeps.refl _).alloc _)
  have HA := Lib.hid (show Blk w1 w.heap.size 30 (recA r (.slice pv r.data.length cv)) from by rw [← hW]; exact Blk.new _ _ _ rfl)
  clear hW
  obtain ⟨Q, hQ⟩ : ∃ Q, Q = w.heap.size := ⟨_, rfl⟩
  rw [← hQ] at HA ⊢
  have HQ := Lib.hid hQ
  clear hQ
  obtain ⟨a0, a1, a2, a3, a4, a5, a6, a7, a8, a9, a10, a11⟩ := rec12 HA.out
  go_wp2_with fail
  refine (HP.out w1 (HR.out.keeps HK.out)).mono ?_
  rintro e w2 ⟨p2, c2, rfl, ho2, hk2⟩
  have HA := Lib.hid (HA.out.keeps hk2)
  have HO := Lib.hid ho2
  have HKK := Lib.hid (HK.out.trans hk2)
  clear hk2 ho2 a0 a1 a2 a3 a4 a5 a6 a7 a8 a9 a10 a11
  by_cases hc : chk r = 0
  · have hX : payO r = payL r := by unfold payO; rw [if_pos hc]
    have HX : Hid (frmL r = wrapL r.kind (payL r)) := Lib.hid (by unfold frmL; rw [if_pos hc])
    have HCH := Lib.hid hc
    have hc' : (chk r != 0) = false := by simp [hc]
    rw [hX] at HO
    have hl : (payO r).length = (payL r).length := by rw [hX]
    rw [hl]
    clear hc hX hl
    obtain ⟨a0, -⟩ := rec12 HA.out
    go_wp2_with fail
    refine (rWrap_any r.kind _ (payL r) w2 HO.out).mono ?_
    rintro e w3 ⟨v3, rfl, ho3, hk3⟩
    obtain ⟨p3, c3, rfl, -, -⟩ := ho3.row.form
    have hnl : (List.map u8v (wrapL r.kind (payL r))).length = (wrapL r.kind (payL r)).length := by simp
    rw [hnl] at ho3 ⊢
    have HO3 := Lib.hid ho3.row
    clear ho3 hnl
    generalize wrapL r.kind (payL r) = fl at *
    go_wp2_with fail
    go_ret2
    refine ⟨p3, c3, ?_, ?_, HKK.out.trans hk3⟩
    · rw [HX.out, HCH.out]; rfl
    · rw [HX.out]; exact HO3.out
  · have hc' : (chk r != 0) = true := by simp [hc]
    have HX : Hid (frmL r = []) := Lib.hid (by unfold frmL; rw [if_neg hc])
    clear hc
    go_wp2_with fail
    go_ret2
    refine ⟨none, 0, ?_, ?_, HKK.out⟩
    · rw [HX.out]; rfl
    · rw [HX.out]; exact row_nil _
end Rcd
end Go.Proofs.Ytekkjhjaacjhnaa

/- TxlogBytes: its walk. -/
import Derived.Test.YtchjncnolmiejaaK42
namespace Go.Proofs.Ytchjncnolmiejaa
open Go.RowKit
namespace Txl
open Oct Frm
def BulkD (most : Nat) (l : List (Value × List UInt8)) (w : World) (e : Ending) (w' : World) : Prop :=
  ∃ n : Nat, e = .returned (.int .i64 (n : Int)) ∧ n ≤ 20000 ∧ (n ≤ most → ∀ x ∈ l, x.2.length ≤ most) ∧ w = w'
set_option maxRecDepth 100000 in
set_option maxHeartbeats 2000000 in
theorem bulkD_any (most : Nat) (hm : most ≤ 5000) (v : Value) (l : List (Value × List UInt8)) (w : World) (hr : Row w v (l.map (·.1))) (hp : ∀ x ∈ l, payOk w x) : Calls Try.prog 35 #[v, .int .i64 (most : Int)] w (BulkD most l w) := by
  obtain ⟨p, cap, rfl, hc1, hc2⟩ := hr.form
  rw [List.length_map] at hc1 ⊢
  have HR := Lib.hid hr
  have HP := Lib.hid hp
  unfold maxLen at hc2
  clear hr hp
  go_enter Try.func35, Try.ntmps35
  go_wp2_with fail
  go_loopw [5, 6] (fun nv iv wr => ∃ (n i : Nat), nv = .int .i64 (n : Int) ∧ iv = .int .i64 (i : Int) ∧ i ≤ l.length ∧ n ≤ most + most + 2 ∧ Hid (n ≤ most → ∀ x ∈ l.take i, x.2.length ≤ most) ∧ wr = w) (fun _ iv _ => l.length - (intOf iv).toNat)
  case atStart => exact ⟨0, 0, rfl, rfl, Nat.zero_le _, by omega, Lib.hid (by simp), rfl⟩
  case round =>
    obtain ⟨n, i, rfl, rfl, hi, hn, HA, rfl⟩ := hrel
    by_cases hlt : i < l.length
    · by_cases hn1 : n ≤ most
      · obtain ⟨b, off, cap', hv, hc⟩ := row_cells HR.out (by rw [List.length_map]; omega)
        simp only [Value.slice.injEq] at hv
        obtain ⟨rfl, -, rfl⟩ := hv
        have hcell : wr.cell? ⟨b, off + i, none⟩ = some l[i].1 := hc.out i _ (by simp [hlt])
        have hpay := HP.out l[i] (List.getElem_mem hlt)
        have HT : Hid (l.take (i + 1) = l.take i ++ [l[i]]) := Lib.hid (List.take_succ_eq_append_getElem hlt)
        generalize l[i] = y at *
        obtain ⟨yv, yl⟩ := y
        unfold payOk at hpay
        obtain ⟨q, qc, hyv, hq1, hq2⟩ := hpay.formB
        simp only at hyv hcell hq1
        subst hyv
        clear hpay hc
        by_cases hy : yl.length ≤ most + 1
        · have hmin : min (yl.length : Int) ((most : Int) + 1) = yl.length := by omega
          go_wp2_with fail
          go_roundw
          case rel => exact ⟨n + 1 + yl.length, i + 1, by simp, by simp, by omega, by omega, Lib.hid (fun h x hx => by
            rw [HT.out] at hx
            rcases List.mem_append.1 hx with h | h
            · exact HA.out (by omega) x h
            · simp at h; subst h; simp only; omega), trivial⟩
          case measure => simp [intOf] <;> omega
        · have hmin : min (yl.length : Int) ((most : Int) + 1) = (most : Int) + 1 := by omega
          go_wp2_with fail
          go_roundw
          case rel => exact ⟨n + 1 + (most + 1), i + 1, by simp; omega, by simp, by omega, by omega, Lib.hid (fun h x hx => by omega), trivial⟩
          case measure => simp [intOf] <;> omega
      · go_wp2_with fail
        go_ret
        exact ⟨n, rfl, by omega, fun h => by omega, rfl⟩
    · have hil : i = l.length := by omega
      have H : Hid (BulkD most l wr (.returned (.int .i64 (n : Int))) wr) := Lib.hid ⟨n, rfl, by omega, fun h x hx => HA.out h x (by rw [hil, List.take_length]; exact hx), rfl⟩
      clear hil
      by_cases hn1 : n ≤ most
      · go_wp2_with fail
        go_ret
        exact H.out
      · go_wp2_with fail
        go_ret
        exact H.out
theorem iSl : (Try.prog.info? 22).map (fun i => (i.zero, i.size, i.bytes)) = some (some (.slice none 0 0), 1, 24) := by kernel_rfl
theorem make_nils (w : World) (n : Nat) (hn : n ≤ 100000) : ∃ wm, (Instr.makeSlice 62 (.int .i64 (n : Int)) (.int .i64 (n : Int))).run Try.prog w = .ok (.slice (some ⟨w.heap.size, 0, none⟩) n n) wm ∧ Row wm (.slice (some ⟨w.heap.size, 0, none⟩) n n) (List.replicate n (.slice none 0 0)) ∧ Keeps w wm := by
  obtain ⟨i, hi, hz, hs, hby⟩ := info_parts iSl
  refine ⟨_, run_make (P := Try.prog) w 62 22 i (.slice none 0 0) Try.underlying62 hi hz .i64 .i64 n n (by omega) (by omega) (by rw [hby]; omega) (by omega), ?_, (Keeps.refl _).alloc _⟩
  have := row_mark (w := w) (n := n) (b := w.heap.size) (cs := madeCells (Value.slice none 0 0).cells ((n : Int).toNat * i.size)) (e := 22) (fr := (0, 0)) (l := List.replicate n (.slice none 0 0)) rfl (by rw [hs, Nat.mul_one, Int.toNat_natCast]; show (madeCells #[.slice none 0 0] n).toList = _; rw [toList_madeCells_one]) (by simp) (by unfold maxLen; omega)
  simpa using this
theorem make_bytes (w : World) (n : Nat) (hn : n ≤ 1099511627776) : ∃ wm, (Instr.makeSlice 22 (.int .i64 (n : Int)) (.int .i64 (n : Int))).run Try.prog w = .ok (.slice (some ⟨w.heap.size, 0, none⟩) n n) wm ∧ Row wm (.slice (some ⟨w.heap.size, 0, none⟩) n n) ((List.replicate n (0 : UInt8)).map u8v) ∧ Keeps w wm := by
  obtain ⟨i, hi, hz, hs, hby⟩ := info_parts i22
  refine ⟨_, run_make (P := Try.prog) w 22 5 i (.int .u8 0) Try.underlying22 hi hz .i64 .i64 n n (by omega) (by omega) (by rw [hby]; omega) (by omega), ?_, (Keeps.refl _).alloc _⟩
  have := row_mark (w := w) (n := n) (b := w.heap.size) (cs := madeCells (Value.int .u8 0).cells ((n : Int).toNat * i.size)) (e := 5) (fr := (0, 0)) (l := (List.replicate n (0 : UInt8)).map u8v) rfl (by rw [hs, Nat.mul_one, Int.toNat_natCast]; show (madeCells #[.int .u8 0] n).toList = _; rw [toList_madeCells_one, List.map_replicate]; rfl) (by simp) (by unfold maxLen; omega)
  simpa using this
def nils (n : Nat) : List (Value × List UInt8) := List.replicate n (.slice none 0 0, [])
theorem nils_e (n : Nat) : txE 1 ((nils n).map (·.2)) = if 1000 < n then 4 else 0 := by
  unfold txE nils
  rw [if_neg (by decide), List.map_replicate, List.length_replicate]
  split
  · rfl
  · rw [if_neg]
    intro hh
    obtain ⟨x, hx, hy⟩ := List.any_eq_true.1 hh
    have := List.eq_of_mem_replicate hx
    subst this
    simp [bigB] at hy
theorem zeros_e (n : Nat) : txE 1 [List.replicate n (0 : UInt8)] = if 4096 < n then 4 else 0 := by
  unfold txE
  rw [if_neg (by decide), if_neg (by simp)]
  simp [bigB]
set_option maxRecDepth 100000 in
set_option maxHeartbeats 4000000 in
theorem txlogBytes_walk (W : World) (n : Int) (v : Value) (l : List (Value × List UInt8)) (more : Int) (w0 : (Lit.int .i64 n).wf = true) (r1 : RowS W 1 v l.length (l.flatMap payC)) (w1 : ∀ y ∈ l, payOk W y) (_w2 : (Lit.int .i64 more).wf = true) : Calls Try.prog 7 #[.int .i64 n, v, .int .i64 more] W fun e w' => e = .returned (.bool true) ∧ Keeps W w' := by
  have hr : Row W v (l.map (·.1)) := by
    have := r1.row
    rw [pay_map] at this
    exact this
  have hn : n ≤ 9223372036854775807 := by
    have : -9223372036854775808 ≤ n ∧ n ≤ 9223372036854775807 := by simpa [Lit.wf, IntKind.min, IntKind.max, IntKind.signed, IntKind.bits] using w0
    exact this.2
  obtain ⟨p, c, rfl, -, -⟩ := r1.form
  have HR := Lib.hid hr
  have HP := Lib.hid w1
  have HAW := Lib.hid (awake17_any W)
  clear hr w1 r1 w0 _w2
  go_enter Try.func7, Try.ntmps7
  go_wp2_with fail
  refine HAW.out.mono ?_
  rintro e w1 ⟨rfl, hk1⟩
  have HK1 := Lib.hid hk1
  clear hk1 HAW
  by_cases h1 : more = 1
  · subst h1
    have HE1 := Lib.hid (show txE 1 ((nils 1001).map (·.2)) = 4 from by rw [nils_e]; rfl)
    have HE2 := Lib.hid (fun v => show txE 1 ([((v : Value), List.replicate 4097 (0 : UInt8))].map (·.2)) = 4 from by show txE 1 [List.replicate 4097 (0 : UInt8)] = 4; rw [zeros_e]; rfl)
    obtain ⟨wm, hm, hrm, hkm⟩ := make_nils w1 1001 (by omega)
    have HB1 := Lib.hid (txBytes_any 1 (by omega) _ (nils 1001) wm (by rw [show (nils 1001).map (·.1) = List.replicate 1001 (Value.slice none 0 0) from by unfold nils; rw [List.map_replicate]]; exact hrm) (fun y hy => by rw [List.eq_of_mem_replicate hy]; exact .inl ⟨none, 0, rfl, rfl, Nat.zero_le _, fun _ => rfl⟩))
    rw [HE1.out] at HB1
    unfold RetSI at HB1
    have HKm := Lib.hid (HK1.out.trans hkm)
    have hm : (Instr.makeSlice 62 (.int .i64 1001) (.int .i64 1001)).run Try.prog w1 = .ok (.slice (some ⟨w1.heap.size, 0, none⟩) 1001 1001) wm := hm
    clear hrm hkm
    go_wp2_with fail
    refine HB1.out.mono ?_
    rintro e w2 ⟨v2, rfl, ho2, hk2⟩
    obtain ⟨p2, n2, c2, rfl⟩ := ho2.sl
    have HK2 := Lib.hid (HKm.out.trans hk2)
    obtain ⟨wz, hz, hrz, hkz⟩ := make_bytes w2 4097 (by omega)
    have hz : (Instr.makeSlice 22 (.int .i64 4097) (.int .i64 4097)).run Try.prog w2 = .ok (.slice (some ⟨w2.heap.size, 0, none⟩) 4097 4097) wz := hz
    obtain ⟨wy, hwy⟩ : ∃ wy, wy = wz.alloc (.cells #[.slice (some ⟨w2.heap.size, 0, none⟩) 4097 4097] 22) := ⟨_, rfl⟩
    have HKy := Lib.hid (show Keeps wz wy from by rw [hwy]; exact (Keeps.refl _).alloc _)
    have HB2 := Lib.hid (txBytes_any 1 (by omega) (.slice (some ⟨wz.heap.size, 0, none⟩) 1 1) [((Value.slice (some ⟨w2.heap.size, 0, none⟩) 4097 4097), List.replicate 4097 (0 : UInt8))] wy (by rw [hwy]; exact row_alloc rfl rfl rfl (by unfold maxLen; simp)) (fun y hy => by simp only [List.mem_singleton] at hy; subst hy; exact hrz.keeps HKy.out))
    rw [HE2.out] at HB2
    rw [hwy] at HB2
    unfold RetSI at HB2
    have HKy2 := Lib.hid (show Keeps W (wz.alloc (.cells #[.slice (some ⟨w2.heap.size, 0, none⟩) 4097 4097] 22)) from (HK2.out.trans hkz).alloc _)
    clear ho2 hk2 HB1 hm hrz hkz hwy HKy
    go_wp2_with fail
    refine HB2.out.mono ?_
    rintro e w3 ⟨v3, rfl, ho3, hk3⟩
    obtain ⟨p3, n3, c3, rfl⟩ := ho3.sl
    have HK3 := Lib.hid (HKy2.out.trans hk3)
    clear ho3 hk3 HB2 hz
    have HBK := Lib.hid (bulkD_any 3000 (by omega) (.slice p l.length c) l w3 (HR.out.keeps HK3.out) (fun y hy => (HP.out y hy).keeps HK3.out))
    rw [show ((3000 : Nat) : Int) = 3000 from rfl] at HBK
    unfold BulkD at HBK
    go_wp2_with fail
    refine HBK.out.mono ?_
    rintro e w9 ⟨bk, rfl, hbk, -, rfl⟩
    by_cases hb1 : 3000 < bk
    · go_wp2_with fail
      go_ret
      exact ⟨rfl, HK3.out⟩
    by_cases hb2 : 30 < l.length
    · go_wp2_with fail
      go_ret
      exact ⟨rfl, HK3.out⟩
    have HTA := Lib.hid (txBytes_any n hn (.slice p l.length c) l w3 (HR.out.keeps HK3.out) (fun y hy => (HP.out y hy).keeps HK3.out))
    have HTB := Lib.hid (fun w' (hk : Keeps W w') => rtxBytes_any n hn (.slice p l.length c) l w' (HR.out.keeps hk) (fun y hy => (HP.out y hy).keeps hk))
    unfold RetSI at HTA HTB
    generalize txL n (l.map (·.2)) = tl at *
    generalize txE n (l.map (·.2)) = te at *
    go_wp2_with fail
    refine HTA.out.mono ?_
    rintro e wa ⟨va, rfl, hoa, hka⟩
    have HKA := Lib.hid (HK3.out.trans hka)
    have HOA := Lib.hid hoa
    obtain ⟨pa, ca, rfl, -, -⟩ := hoa.row.formB
    clear hoa hka HTA
    go_wp2_with fail
    refine (HTB.out _ HKA.out).mono ?_
    rintro e wb ⟨vb, rfl, hob, hkb⟩
    have HKB := Lib.hid (HKA.out.trans hkb)
    have hc1 := str_at' (HOA.out.row.keeps hkb)
    have hc2 := str_at' hob.row
    obtain ⟨pb, cb, rfl, -, -⟩ := hob.row.formB
    have heq : ((bstr tl).toList == (bstr tl).toList) = true := by simp
    have hee : (te == te) = true := by simp
    clear hob hkb HTB
    go_wp2_with fail
    go_ret
    exact ⟨by simp, HKB.out⟩
  by_cases h0 : more = 0
  · subst h0
    have HE1 := Lib.hid (show txE 1 ((nils 1000).map (·.2)) = 0 from by rw [nils_e]; rfl)
    have HE2 := Lib.hid (fun v => show txE 1 ([((v : Value), List.replicate 4096 (0 : UInt8))].map (·.2)) = 0 from by show txE 1 [List.replicate 4096 (0 : UInt8)] = 0; rw [zeros_e]; rfl)
    obtain ⟨wm, hm, hrm, hkm⟩ := make_nils w1 1000 (by omega)
    have HB1 := Lib.hid (txBytes_any 1 (by omega) _ (nils 1000) wm (by rw [show (nils 1000).map (·.1) = List.replicate 1000 (Value.slice none 0 0) from by unfold nils; rw [List.map_replicate]]; exact hrm) (fun y hy => by rw [List.eq_of_mem_replicate hy]; exact .inl ⟨none, 0, rfl, rfl, Nat.zero_le _, fun _ => rfl⟩))
    rw [HE1.out] at HB1
    unfold RetSI at HB1
    have HKm := Lib.hid (HK1.out.trans hkm)
    have hm : (Instr.makeSlice 62 (.int .i64 1000) (.int .i64 1000)).run Try.prog w1 = .ok (.slice (some ⟨w1.heap.size, 0, none⟩) 1000 1000) wm := hm
    clear hrm hkm
    go_wp2_with fail
    refine HB1.out.mono ?_
    rintro e w2 ⟨v2, rfl, ho2, hk2⟩
    obtain ⟨p2, n2, c2, rfl⟩ := ho2.sl
    have HK2 := Lib.hid (HKm.out.trans hk2)
    obtain ⟨wz, hz, hrz, hkz⟩ := make_bytes w2 4096 (by omega)
    have hz : (Instr.makeSlice 22 (.int .i64 4096) (.int .i64 4096)).run Try.prog w2 = .ok (.slice (some ⟨w2.heap.size, 0, none⟩) 4096 4096) wz := hz
    obtain ⟨wy, hwy⟩ : ∃ wy, wy = wz.alloc (.cells #[.slice (some ⟨w2.heap.size, 0, none⟩) 4096 4096] 22) := ⟨_, rfl⟩
    have HKy := Lib.hid (show Keeps wz wy from by rw [hwy]; exact (Keeps.refl _).alloc _)
    have HB2 := Lib.hid (txBytes_any 1 (by omega) (.slice (some ⟨wz.heap.size, 0, none⟩) 1 1) [((Value.slice (some ⟨w2.heap.size, 0, none⟩) 4096 4096), List.replicate 4096 (0 : UInt8))] wy (by rw [hwy]; exact row_alloc rfl rfl rfl (by unfold maxLen; simp)) (fun y hy => by simp only [List.mem_singleton] at hy; subst hy; exact hrz.keeps HKy.out))
    rw [HE2.out] at HB2
    rw [hwy] at HB2
    unfold RetSI at HB2
    have HKy2 := Lib.hid (show Keeps W (wz.alloc (.cells #[.slice (some ⟨w2.heap.size, 0, none⟩) 4096 4096] 22)) from (HK2.out.trans hkz).alloc _)
    clear ho2 hk2 HB1 hm hrz hkz hwy HKy
    go_wp2_with fail
    refine HB2.out.mono ?_
    rintro e w3 ⟨v3, rfl, ho3, hk3⟩
    obtain ⟨p3, n3, c3, rfl⟩ := ho3.sl
    have HK3 := Lib.hid (HKy2.out.trans hk3)
    clear ho3 hk3 HB2 hz
    have HBK := Lib.hid (bulkD_any 3000 (by omega) (.slice p l.length c) l w3 (HR.out.keeps HK3.out) (fun y hy => (HP.out y hy).keeps HK3.out))
    rw [show ((3000 : Nat) : Int) = 3000 from rfl] at HBK
    unfold BulkD at HBK
    go_wp2_with fail
    refine HBK.out.mono ?_
    rintro e w9 ⟨bk, rfl, hbk, -, rfl⟩
    by_cases hb1 : 3000 < bk
    · go_wp2_with fail
      go_ret
      exact ⟨rfl, HK3.out⟩
    by_cases hb2 : 30 < l.length
    · go_wp2_with fail
      go_ret
      exact ⟨rfl, HK3.out⟩
    have HTA := Lib.hid (txBytes_any n hn (.slice p l.length c) l w3 (HR.out.keeps HK3.out) (fun y hy => (HP.out y hy).keeps HK3.out))
    have HTB := Lib.hid (fun w' (hk : Keeps W w') => rtxBytes_any n hn (.slice p l.length c) l w' (HR.out.keeps hk) (fun y hy => (HP.out y hy).keeps hk))
    unfold RetSI at HTA HTB
    generalize txL n (l.map (·.2)) = tl at *
    generalize txE n (l.map (·.2)) = te at *
    go_wp2_with fail
    refine HTA.out.mono ?_
    rintro e wa ⟨va, rfl, hoa, hka⟩
    have HKA := Lib.hid (HK3.out.trans hka)
    have HOA := Lib.hid hoa
    obtain ⟨pa, ca, rfl, -, -⟩ := hoa.row.formB
    clear hoa hka HTA
    go_wp2_with fail
    refine (HTB.out _ HKA.out).mono ?_
    rintro e wb ⟨vb, rfl, hob, hkb⟩
    have HKB := Lib.hid (HKA.out.trans hkb)
    have hc1 := str_at' (HOA.out.row.keeps hkb)
    have hc2 := str_at' hob.row
    obtain ⟨pb, cb, rfl, -, -⟩ := hob.row.formB
    have heq : ((bstr tl).toList == (bstr tl).toList) = true := by simp
    have hee : (te == te) = true := by simp
    clear hob hkb HTB
    go_wp2_with fail
    go_ret
    exact ⟨by simp, HKB.out⟩
  have e1 : (more == 1) = false := by simp [h1]
  have e0 : (more == 0) = false := by simp [h0]
  clear h1 h0
  have HBK := Lib.hid (bulkD_any 3000 (by omega) (.slice p l.length c) l w1 (HR.out.keeps HK1.out) (fun y hy => (HP.out y hy).keeps HK1.out))
  rw [show ((3000 : Nat) : Int) = 3000 from rfl] at HBK
  unfold BulkD at HBK
  go_wp2_with fail
  refine HBK.out.mono ?_
  rintro e w9 ⟨bk, rfl, hbk, -, rfl⟩
  by_cases hb1 : 3000 < bk
  · go_wp2_with fail
    go_ret
    exact ⟨rfl, HK1.out⟩
  by_cases hb2 : 30 < l.length
  · go_wp2_with fail
    go_ret
    exact ⟨rfl, HK1.out⟩
  have HTA := Lib.hid (txBytes_any n hn (.slice p l.length c) l w1 (HR.out.keeps HK1.out) (fun y hy => (HP.out y hy).keeps HK1.out))
  have HTB := Lib.hid (fun w' (hk : Keeps W w') => rtxBytes_any n hn (.slice p l.length c) l w' (HR.out.keeps hk) (fun y hy => (HP.out y hy).keeps hk))
  unfold RetSI at HTA HTB
  generalize txL n (l.map (·.2)) = tl at *
  generalize txE n (l.map (·.2)) = te at *
  go_wp2_with fail
  refine HTA.out.mono ?_
  rintro e wa ⟨va, rfl, hoa, hka⟩
  have HKA := Lib.hid (HK1.out.trans hka)
  have HOA := Lib.hid hoa
  obtain ⟨pa, ca, rfl, -, -⟩ := hoa.row.formB
  clear hoa hka HTA
  go_wp2_with fail
  refine (HTB.out _ HKA.out).mono ?_
  rintro e wb ⟨vb, rfl, hob, hkb⟩
  have HKB := Lib.hid (HKA.out.trans hkb)
  have hc1 := str_at' (HOA.out.row.keeps hkb)
  have hc2 := str_at' hob.row
  obtain ⟨pb, cb, rfl, -, -⟩ := hob.row.formB
  have heq : ((bstr tl).toList == (bstr tl).toList) = true := by simp
  have hee : (te == te) = true := by simp
  clear hob hkb HTB
  go_wp2_with fail
  go_ret
  exact ⟨by simp, HKB.out⟩
end Txl
end Go.Proofs.Ytchjncnolmiejaa

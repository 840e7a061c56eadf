/- The law FrameMost, walked. -/
import Derived.Test.YtfmjlgkbohidjaaFrameAwake
import Derived.Test.YtfmjlgkbohidjaaFrameBackPlain
import Derived.Test.YtfmjlgkbohidjaaOctetLaws
import Derived.Laws.OwnMore
namespace Go.Proofs.Ytfmjlgkbohidjaa
open Go.RowKit
namespace Frm
open Oct

theorem make_bytes (w : World) (n : Nat) (hn : n ≤ 1099511627776) : ∃ wm, (Instr.makeSlice 22 (.int .i64 (n : Int)) (.int .i64 (n : Int))).run Try.prog w = .ok (.slice (some ⟨w.heap.size, 0, none⟩) n n) wm ∧ Row wm (.slice (some ⟨w.heap.size, 0, none⟩) n n) ((List.replicate n (0 : UInt8)).map u8v) ∧ Keeps w wm := by
  obtain ⟨i, hi, hz, hs, hby⟩ := info_parts i22
  refine ⟨_, run_make (P := Try.prog) w 22 5 i (.int .u8 0) Try.underlying22 hi hz .i64 .i64 n n (by omega) (by omega) (by rw [hby]; omega) (by omega), ?_, (Keeps.refl _).alloc _⟩
  have := row_mark (w := w) (cs := madeCells (Value.int .u8 0).cells ((n : Int).toNat * i.size)) (e := 5) (fr := (0, 0)) (l := (List.replicate n (0 : UInt8)).map u8v) rfl (by rw [hs, Nat.mul_one, Int.toNat_natCast]; show (madeCells #[.int .u8 0] n).toList = _; rw [toList_madeCells_one, List.map_replicate]; rfl) (by simp [maxLen]; omega)
  simpa using this

set_option maxRecDepth 100000 in
set_option maxHeartbeats 1000000 in
theorem frameMost_walk (W : World) (a0 : Int) (_w0 : (Lit.int .i64 a0).wf = true) : Calls Try.prog 9 #[.int .i64 a0] W fun e w' => e = .returned (.bool true) ∧ Keeps W w' := by
  by_cases hr : a0 < -2 ∨ 2 < a0
  · have hr' : a0 < -2 ∨ (-2 ≤ a0 ∧ 2 < a0) := by omega
    clear hr
    rcases hr' with h | ⟨h, h'⟩
    all_goals
      go_enter Try.func9, Try.ntmps9
      go_wp2_with fail
      refine (awake_any _).mono ?_
      rintro e w1 ⟨rfl, hK1⟩
      go_wp2_with fail
      go_ret
      exact ⟨rfl, hK1⟩
  have h1 : -2 ≤ a0 := by omega
  have h2 : a0 ≤ 2 := by omega
  obtain ⟨n, hn⟩ : ∃ n : Nat, 65536 + a0 = (n : Int) := ⟨(65536 + a0).toNat, by omega⟩
  clear hr
  have CW := Lib.hid (fun (w : World) (v : Value) (hr : Row w v ((List.replicate n (0 : UInt8)).map u8v)) => wrap_any 7 v (List.replicate n 0) w hr)
  have CM := Lib.hid (fun w => make_bytes w n (by omega))
  rw [← hn] at CM
  by_cases h0 : 0 < a0
  · have hE : wrapE 7 (List.replicate n (0 : UInt8)).length = 4 := by
      unfold wrapE; rw [List.length_replicate, if_neg (by omega), if_pos (by omega)]
    have hL : wrapL 7 (List.replicate n (0 : UInt8)) = [] := by unfold wrapL; rw [if_neg (by rw [hE]; decide)]
    rw [hE, hL] at CW
    have HN := Lib.hid hn
    clear hn hE hL
    go_enter Try.func9, Try.ntmps9
    go_wp2_with fail
    refine (awake_any _).mono ?_
    rintro e w1 ⟨rfl, hK1⟩
    obtain ⟨wm, hm, hrm, hKm⟩ := CM.out w1
    have hC := CW.out _ _ hrm
    have HC := Lib.hid hC
    have HK := Lib.hid (hK1.trans hKm)
    clear hrm hKm hC hK1
    go_wp2_with fail
    refine HC.out.mono ?_
    rintro e w2 ⟨b, rfl, hown, hK2⟩
    obtain ⟨p, cap, rfl, -, -⟩ := hown.row.formB
    clear hown
    go_wp2_with fail
    go_ret
    exact ⟨rfl, HK.out.trans hK2⟩
  · have hln : (List.replicate n (0 : UInt8)).length = n := List.length_replicate
    obtain ⟨hE, hL⟩ := wrapL_ok (k := 7) (p := List.replicate n (0 : UInt8)) (by decide) (by rw [hln]; omega)
    obtain ⟨hA, hF⟩ := at_put (l := wrapL 7 (List.replicate n (0 : UInt8))) (a := 0) (r := []) (k := 7) (p := List.replicate n (0 : UInt8)) (by decide) (by rw [hln]; omega) (by simp)
    have hlen : (wrapL 7 (List.replicate n (0 : UInt8))).length ≤ 200000 := by
      rw [show (7 : Int) = ((7 : Nat) : Int) from rfl, hL, List.length_cons]
      have := (veil_len (body 7 (List.replicate n (0 : UInt8)))).2
      rw [body_len, hln] at this
      omega
    have hb : ((n : Int) == 65536 + a0) = true := by rw [hn]; simp
    rw [show (7 : Int) = ((7 : Nat) : Int) from rfl, hE] at CW
    rw [show ((7 : Nat) : Int) = 7 from rfl] at CW
    have hA' : atE (wrapL 7 (List.replicate n (0 : UInt8))) 0 = 0 := hA
    have hF' : atF (wrapL 7 (List.replicate n (0 : UInt8))) 0 = ⟨0, (wrapL 7 (List.replicate n (0 : UInt8))).length, 7, List.replicate n (0 : UInt8)⟩ := hF
    clear hA hF
    generalize wrapL 7 (List.replicate n (0 : UInt8)) = L at *
    have HN := Lib.hid hn
    clear hn hE hL
    go_enter Try.func9, Try.ntmps9
    go_wp2_with fail
    refine (awake_any _).mono ?_
    rintro e w1 ⟨rfl, hK1⟩
    obtain ⟨wm, hm, hrm, hKm⟩ := CM.out w1
    have hC := CW.out _ _ hrm
    have HC := Lib.hid hC
    have HK := Lib.hid (hK1.trans hKm)
    clear hrm hKm hC hK1
    go_wp2_with fail
    refine HC.out.mono ?_
    rintro e w2 ⟨b, rfl, hown, hK2⟩
    obtain ⟨p, cap, rfl, -, -⟩ := hown.row.formB
    have HA := Lib.hid (at_any _ L 0 w2 hown.row (by omega))
    rw [hA', hF'] at HA
    have HK2 := Lib.hid (HK.out.trans hK2)
    clear hown hm hK2 HK
    go_wp2_with fail
    refine HA.out.mono ?_
    rintro e w3 ⟨pv, rfl, hpv, hK3⟩
    obtain ⟨pp, pc, rfl, -, -⟩ := hpv.form
    clear hpv
    unfold frV
    simp only [List.length_map, hln] at *
    have HX := Lib.hid (fun w' (k : Keeps w3 w') => HK2.out.trans (hK3.trans k))
    clear hK3
    go_wp2_with fail
    go_ret
    exact ⟨rfl, HX.out _ ((Keeps.refl _).alloc _)⟩
end Frm
end Go.Proofs.Ytfmjlgkbohidjaa

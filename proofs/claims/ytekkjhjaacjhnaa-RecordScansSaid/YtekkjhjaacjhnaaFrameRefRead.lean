/- The reference's read of one veiled byte. -/
import Derived.Test.YtekkjhjaacjhnaaFrameRead
import Derived.Test.YtekkjhjaacjhnaaFrameRefAtPlain
namespace Go.Proofs.Ytekkjhjaacjhnaa
open Go.RowKit
namespace Frm
open Oct

def rpV (a : Nat) (x : Int × UInt8 × Nat) : Value := .agg #[.int .u8 (rpC x), .int .i64 (rpN a x), .int .i64 x.1]
theorem rpV_err {a : Nat} {l : List UInt8} {n : Int} (h : (rd l).1 = n) (hn : n ≠ 0) : rpV a (rd l) = .agg #[.int .u8 0, .int .i64 0, .int .i64 n] := by
  unfold rpV rpC rpN
  rw [if_neg (by rw [h]; exact hn), if_neg (by rw [h]; exact hn), h]
theorem rpV_ok {a s : Nat} {l : List UInt8} {c : UInt8} (h : rd l = (0, c, s)) : rpV a (rd l) = .agg #[.int .u8 (c.toNat : Int), .int .i64 ((a : Int) + s), .int .i64 0] := by
  rw [h]; rfl

set_option maxRecDepth 100000 in
set_option maxHeartbeats 2000000 in
theorem rread_any (v : Value) (l : List UInt8) (a : Nat) (w : World) (hr : Row w v (l.map u8v)) (hl : l.length ≤ 70368744177664) (ha : a ≤ l.length) : Calls Try.prog 148 #[v, .int .i64 (a : Int)] w fun e w' => e = .returned (rpV a (rd (l.drop a))) ∧ Keeps w w' := by
  by_cases h1 : a = l.length
  · have HX := Lib.hid (rpV_err (a := a) (l := l.drop a) (n := 2) (by rw [h1, List.drop_length]; rfl) (by decide))
    obtain ⟨p, cap, rfl, hc1, hc2⟩ := hr.formB
    have hd : (l.length : Int) ≤ a := by omega
    clear h1
    go_enter Try.func148, Try.ntmps148
    go_wp2_with fail
    exact bodyPost_ret (v := .agg #[.int .u8 0, .int .i64 0, .int .i64 2]) (by simp [results, Try.results148, go_sem]) rfl ⟨by rw [HX.out]; try rfl, by repeat (first | assumption | exact Keeps.refl _ | refine Keeps.alloc ?_ _ | refine Keeps.setCell ?_ (by simp; try omega) _ | refine Keeps.drewN ?_ _ | refine Keeps.drew ?_)⟩
  have hlt : a < l.length := by omega
  obtain ⟨bb, off, cap, rfl, hc1, hc2, HC⟩ := hr.bytesAt (by omega)
  have hcell : w.cell? ⟨bb, off + a, none⟩ = some (.int .u8 (l[a].toNat : Int)) := HC.out a _ (by simp [hlt])
  have hbl := lt_of_cell hcell
  have hge : ¬ (l.length : Int) ≤ a := by omega
  have HD := Lib.hid (drop_cons' hlt)
  have hxl := l[a].toNat_lt
  clear h1 hr
  by_cases h80 : l[a] = 80
  · have HX := Lib.hid (rpV_err (a := a) (l := l.drop a) (n := 3) (by rw [HD.out, h80]; rfl) (by decide))
    have hx0 : ((l[a].toNat : Int) == 80) = true := by rw [h80]; rfl
    clear h80 HD HC
    generalize l[a] = x at *
    go_enter Try.func148, Try.ntmps148
    go_wp2_with fail
    exact bodyPost_ret (v := .agg #[.int .u8 0, .int .i64 0, .int .i64 3]) (by simp [results, Try.results148, go_sem]) rfl ⟨by rw [HX.out]; try rfl, by repeat (first | assumption | exact Keeps.refl _ | refine Keeps.alloc ?_ _ | refine Keeps.setCell ?_ (by simp; try omega) _ | refine Keeps.drewN ?_ _ | refine Keeps.drew ?_)⟩
  have hx0 : ((l[a].toNat : Int) == 80) = false := beq80 h80
  by_cases h81 : l[a] ≠ 81
  · have HX := Lib.hid (rpV_ok (a := a) (l := l.drop a) (c := l[a]) (s := 1) (by rw [HD.out]; exact rd_plain h80 h81))
    have hx1 : ((l[a].toNat : Int) != 81) = true := by rw [bne_iff_ne]; intro h; exact h81 (UInt8.toNat_inj.1 (by simp; omega))
    clear h80 h81 HD HC
    generalize l[a] = x at *
    go_enter Try.func148, Try.ntmps148
    go_wp2_with fail
    exact bodyPost_ret (v := .agg #[.int .u8 (x.toNat : Int), .int .i64 ((a : Int) + 1), .int .i64 0]) (by simp [results, Try.results148, go_sem]) rfl ⟨by rw [HX.out]; try rfl, by repeat (first | assumption | exact Keeps.refl _ | refine Keeps.alloc ?_ _ | refine Keeps.setCell ?_ (by simp; try omega) _ | refine Keeps.drewN ?_ _ | refine Keeps.drew ?_)⟩
  have h81 : l[a] = 81 := Classical.not_not.1 h81
  have hx1 : ((l[a].toNat : Int) != 81) = false := by rw [h81]; rfl
  by_cases h2 : a + 1 = l.length
  · have HX := Lib.hid (rpV_err (a := a) (l := l.drop a) (n := 2) (by rw [HD.out, h81, h2, List.drop_length]; rfl) (by decide))
    have hd2 : (l.length : Int) ≤ (a : Int) + 1 := by omega
    clear h80 h81 HD HC h2
    generalize l[a] = x at *
    go_enter Try.func148, Try.ntmps148
    go_wp2_with fail
    exact bodyPost_ret (v := .agg #[.int .u8 0, .int .i64 0, .int .i64 2]) (by simp [results, Try.results148, go_sem]) rfl ⟨by rw [HX.out]; try rfl, by repeat (first | assumption | exact Keeps.refl _ | refine Keeps.alloc ?_ _ | refine Keeps.setCell ?_ (by simp; try omega) _ | refine Keeps.drewN ?_ _ | refine Keeps.drew ?_)⟩
  have hlt2 : a + 1 < l.length := by omega
  have hge2 : ¬ (l.length : Int) ≤ (a : Int) + 1 := by omega
  have hcell2 : w.cell? ⟨bb, off + (a + 1), none⟩ = some (.int .u8 (l[a + 1].toNat : Int)) := HC.out (a + 1) _ (by simp [hlt2])
  have HD2 := Lib.hid (drop_cons' hlt2)
  have hyl := l[a + 1].toNat_lt
  have hi2 : ((a : Int) + 1).toNat = a + 1 := by omega
  clear h2
  by_cases hy0 : l[a + 1] = 0
  · have HX := Lib.hid (rpV_ok (a := a) (l := l.drop a) (c := 80) (s := 2) (by rw [HD.out, h81, HD2.out, hy0]; rfl))
    have hy : ((l[a + 1].toNat : Int) == 0) = true := by rw [hy0]; rfl
    clear h80 h81 HD HC HD2 hy0
    generalize l[a] = x at *
    generalize l[a + 1] = y at *
    go_enter Try.func148, Try.ntmps148
    go_wp2_with fail
    exact bodyPost_ret (v := .agg #[.int .u8 80, .int .i64 ((a : Int) + 2), .int .i64 0]) (by simp [results, Try.results148, go_sem]) rfl ⟨by rw [HX.out]; try rfl, by repeat (first | assumption | exact Keeps.refl _ | refine Keeps.alloc ?_ _ | refine Keeps.setCell ?_ (by simp; try omega) _ | refine Keeps.drewN ?_ _ | refine Keeps.drew ?_)⟩
  have hy : ((l[a + 1].toNat : Int) == 0) = false := by
    rw [beq_eq_false_iff_ne]
    intro h
    exact hy0 (UInt8.toNat_inj.1 (by simp; omega))
  by_cases hy1 : l[a + 1] = 1
  · have HX := Lib.hid (rpV_ok (a := a) (l := l.drop a) (c := 81) (s := 2) (by rw [HD.out, h81, HD2.out, hy1]; rfl))
    have hyy : ((l[a + 1].toNat : Int) == 1) = true := by rw [hy1]; rfl
    clear h80 h81 HD HC HD2 hy0 hy1
    generalize l[a] = x at *
    generalize l[a + 1] = y at *
    go_enter Try.func148, Try.ntmps148
    go_wp2_with fail
    exact bodyPost_ret (v := .agg #[.int .u8 81, .int .i64 ((a : Int) + 2), .int .i64 0]) (by simp [results, Try.results148, go_sem]) rfl ⟨by rw [HX.out]; try rfl, by repeat (first | assumption | exact Keeps.refl _ | refine Keeps.alloc ?_ _ | refine Keeps.setCell ?_ (by simp; try omega) _ | refine Keeps.drewN ?_ _ | refine Keeps.drew ?_)⟩
  have hyy : ((l[a + 1].toNat : Int) == 1) = false := by
    rw [beq_eq_false_iff_ne]
    intro h
    exact hy1 (UInt8.toNat_inj.1 (by simp; omega))
  have HX := Lib.hid (rpV_err (a := a) (l := l.drop a) (n := 3) (by
    rw [HD.out, h81, HD2.out]
    refine rd_81big ?_
    have h0 : l[a + 1].toNat ≠ 0 := fun h => hy0 (UInt8.toNat_inj.1 h)
    have h1 : l[a + 1].toNat ≠ 1 := fun h => hy1 (UInt8.toNat_inj.1 h)
    omega) (by decide))
  clear h80 h81 HD HC HD2 hy0 hy1
  generalize l[a] = x at *
  generalize l[a + 1] = y at *
  go_enter Try.func148, Try.ntmps148
  go_wp2_with fail
  exact bodyPost_ret (v := .agg #[.int .u8 0, .int .i64 0, .int .i64 3]) (by simp [results, Try.results148, go_sem]) rfl ⟨by rw [HX.out]; try rfl, by repeat (first | assumption | exact Keeps.refl _ | refine Keeps.alloc ?_ _ | refine Keeps.setCell ?_ (by simp; try omega) _ | refine Keeps.drewN ?_ _ | refine Keeps.drew ?_)⟩
end Frm
end Go.Proofs.Ytekkjhjaacjhnaa

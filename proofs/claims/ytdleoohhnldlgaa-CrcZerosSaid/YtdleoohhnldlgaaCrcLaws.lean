/- The laws CrcIs and CrcTells, walked. -/
import Derived.Test.YtdleoohhnldlgaaCrcSame
import Derived.Test.YtdleoohhnldlgaaOwn
import Derived.Lib.SlBytesConst
namespace Go.Proofs.Ytdleoohhnldlgaa
open Go.RowKit
namespace Crc

theorem of9 : more 0 [49, 50, 51, 52, 53, 54, 55, 56, 57] = 3421780262 := by decide +kernel
theorem of0 : more 0 [] = 0 := by decide +kernel
theorem of4 : more (more 0 [49, 50, 51, 52]) [53, 54, 55, 56, 57] = 3421780262 := by decide +kernel

set_option maxHeartbeats 1000000 in
theorem awake_any (w : World) : Calls Try.prog 11 #[] w fun e w' => e = .returned (.bool true) ∧ Keeps w w' := by
  have e9 : ((more 0 [49, 50, 51, 52, 53, 54, 55, 56, 57] : Nat) : Int) = 3421780262 := by rw [of9]; rfl
  have e0 : ((more 0 [] : Nat) : Int) = 0 := by rw [of0]; rfl
  have e4 : ((more (more 0 [49, 50, 51, 52]) [53, 54, 55, 56, 57] : Nat) : Int) = 3421780262 := by rw [of4]; rfl
  have es : (more 0 [49, 50, 51, 52, 53, 54, 55, 56, 57] == 3421780262) = true := by rw [of9]; rfl
  have kc := fun (w : World) (C : Array Value) (n c : Nat) => Lib.run_convert_bytes_const (P := Try.prog) w 22 5 C n c Try.underlying22 Try.underlying5
  go_enter Try.func11, Try.ntmps11
  go_wp2_with fail
  refine (of_any _ [49, 50, 51, 52, 53, 54, 55, 56, 57] _ ?_).mono ?_
  · exact row_mark rfl rfl rfl (by decide)
  rintro e w1 ⟨rfl, hk1⟩
  go_wp2_with fail
  refine (of_any _ [] _ (row_nil _)).mono ?_
  rintro e w2 ⟨rfl, hk2⟩
  go_wp2_with fail
  refine (of_any _ [49, 50, 51, 52] _ ?_).mono ?_
  · exact row_mark rfl rfl rfl (by decide)
  rintro e w3 ⟨rfl, hk3⟩
  go_wp2_with fail
  refine (more_any _ (more_lt _ _) _ [53, 54, 55, 56, 57] _ ?_).mono ?_
  · exact row_mark rfl rfl rfl (by decide)
  rintro e w4 ⟨rfl, hk4⟩
  go_wp2_with fail
  refine (same_any _ [49, 50, 51, 52, 53, 54, 55, 56, 57] 3421780262 _ ?_).mono ?_
  · exact row_mark rfl rfl rfl (by decide)
  rintro e w5 ⟨rfl, hk5⟩
  go_wp2_with fail
  go_ret
  refine ⟨by simp [es], ?_⟩
  exact ((((((Keeps.refl w).alloc _).trans hk1).trans hk2).trans (((Keeps.refl w2).alloc _).trans hk3)).trans (((Keeps.refl w3).alloc _).trans hk4)).trans (((Keeps.refl w4).alloc _).trans hk5)

theorem u32_nat {a : Int} (h : (Lit.int .u32 a).wf = true) : ∃ s : Nat, a = (s : Int) ∧ s < 4294967296 := by
  have hb : 0 ≤ a ∧ a ≤ 4294967295 := by simpa [Lit.wf, IntKind.min, IntKind.max, IntKind.signed, IntKind.bits] using h
  exact ⟨a.toNat, by omega, by omega⟩
theorem u8_nat {a : Int} (h : (Lit.int .u8 a).wf = true) : ∃ y : UInt8, a = (y.toNat : Int) := by
  have hb : 0 ≤ a ∧ a ≤ 255 := by simpa [Lit.wf, IntKind.min, IntKind.max, IntKind.signed, IntKind.bits] using h
  exact ⟨UInt8.ofNat a.toNat, by simp; omega⟩

set_option maxHeartbeats 1000000 in
theorem crcIs_walk (W : World) (v0 : Value) (l : List UInt8) (a1 : Int) (r0 : Row W v0 (l.map u8v)) (w1 : (Lit.int .u32 a1).wf = true) :
    Calls Try.prog 3 #[v0, .int .u32 a1] W fun e w' => e = .returned (.bool true) ∧ Keeps W w' := by
  obtain ⟨s, rfl, hs⟩ := u32_nat w1
  clear w1
  obtain ⟨p, cap, rfl, hlc, hcm⟩ := r0.form
  have HR := Lib.hid r0
  clear r0
  rw [List.length_map] at hlc HR
  rw [List.length_map]
  unfold maxLen at hcm
  by_cases h3 : 3000 < l.length
  · go_enter Try.func3, Try.ntmps3
    go_wp2_with fail
    refine (awake_any _).mono ?_
    rintro e w1 ⟨rfl, hk1⟩
    have hK1 : Keeps W w1 := by
      refine Keeps.trans ?_ hk1
      repeat (first | exact Keeps.refl W | refine Keeps.alloc ?_ _ | refine Keeps.setCell ?_ (by simp; try omega) _ | refine Keeps.drewN ?_ _ | refine Keeps.drew ?_)
    clear hk1
    go_wp2_with fail
    go_ret
    exact ⟨rfl, hK1⟩
  · have he : (more 0 l == s) = (((more 0 l : Nat) : Int) == (s : Int)) := by rw [Bool.eq_iff_iff]; simp; omega
    have HE := Lib.hid he
    clear he
    go_enter Try.func3, Try.ntmps3
    go_wp2_with fail
    refine (awake_any _).mono ?_
    rintro e w1 ⟨rfl, hk1⟩
    have hK1 : Keeps W w1 := by
      refine Keeps.trans ?_ hk1
      repeat (first | exact Keeps.refl W | refine Keeps.alloc ?_ _ | refine Keeps.setCell ?_ (by simp; try omega) _ | refine Keeps.drewN ?_ _ | refine Keeps.drew ?_)
    clear hk1
    go_wp2_with fail
    refine (of_any _ l _ (HR.out.keeps hK1)).mono ?_
    rintro e w2 ⟨rfl, hk2⟩
    have hK2 : Keeps W w2 := by
      refine Keeps.trans ?_ hk2
      repeat (first | exact hK1 | refine Keeps.alloc ?_ _ | refine Keeps.setCell ?_ (by simp; try omega) _ | refine Keeps.drewN ?_ _ | refine Keeps.drew ?_)
    clear hk2 hK1
    go_wp2_with fail
    refine (rOf_any _ l _ (HR.out.keeps hK2)).mono ?_
    rintro e w' ⟨rfl, rfl⟩
    go_wp2_with fail
    refine (more_any _ hs _ l _ (HR.out.keeps hK2)).mono ?_
    rintro e w3 ⟨rfl, hk3⟩
    have hK3 : Keeps W w3 := by
      refine Keeps.trans ?_ hk3
      repeat (first | exact hK2 | refine Keeps.alloc ?_ _ | refine Keeps.setCell ?_ (by simp; try omega) _ | refine Keeps.drewN ?_ _ | refine Keeps.drew ?_)
    clear hk3 hK2
    go_wp2_with fail
    refine (rMore_any _ hs _ l _ (HR.out.keeps hK3)).mono ?_
    rintro e w' ⟨rfl, rfl⟩
    go_wp2_with fail
    refine (same_any _ l s _ (HR.out.keeps hK3)).mono ?_
    rintro e w4 ⟨rfl, hk4⟩
    have hK4 : Keeps W w4 := by
      refine Keeps.trans ?_ hk4
      repeat (first | exact hK3 | refine Keeps.alloc ?_ _ | refine Keeps.setCell ?_ (by simp; try omega) _ | refine Keeps.drewN ?_ _ | refine Keeps.drew ?_)
    clear hk4 hK3
    go_wp2_with fail
    refine (rOf_any _ l _ (HR.out.keeps hK4)).mono ?_
    rintro e w' ⟨rfl, rfl⟩
    go_wp2_with fail
    go_ret
    exact ⟨by simp [HE.out], hK4⟩

theorem tells_plain (l m : List UInt8) (k : Nat) (y : UInt8) (hk : k < l.length) (hy : y ≠ 0) :
    more 0 (l.set k (l[k] ^^^ y)) ≠ more 0 l ∧ more (more 0 (l.set k (l[k] ^^^ y))) m ≠ more (more 0 l) m := by
  have hne : l[k] ^^^ y ≠ l[k] := by
    intro h
    apply hy
    have := congrArg (l[k] ^^^ ·) h
    simpa [← UInt8.xor_assoc] using this
  have e1 : l.set k (l[k] ^^^ y) = l.take k ++ (l[k] ^^^ y) :: l.drop (k + 1) := by rw [List.set_eq_take_append_cons_drop, if_pos hk]
  have e2 : l = l.take k ++ l[k] :: l.drop (k + 1) := by simp
  have h1 : more 0 (l.set k (l[k] ^^^ y)) ≠ more 0 l := by
    rw [e1]
    conv => rhs; rw [e2]
    exact more_tells _ _ _ hne
  exact ⟨h1, fun h => h1 (more_inj (more_lt _ _) (more_lt _ _) h)⟩
end Crc
end Go.Proofs.Ytdleoohhnldlgaa

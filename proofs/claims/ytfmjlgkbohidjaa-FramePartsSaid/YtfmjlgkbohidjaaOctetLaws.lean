/- The laws OctetNumbers and OctetTurns, walked. -/
import Derived.Test.YtfmjlgkbohidjaaOctetAwake
namespace Go.Proofs.Ytfmjlgkbohidjaa
open Go.RowKit

theorem u64_nat {a : Int} (h : (Lit.int .u64 a).wf = true) : ∃ s : Nat, a = (s : Int) ∧ s < 18446744073709551616 := by
  have hb : 0 ≤ a ∧ a ≤ 18446744073709551615 := by simpa [Lit.wf, IntKind.min, IntKind.max, IntKind.signed, IntKind.bits] using h
  exact ⟨a.toNat, by omega, by omega⟩
theorem i64_wf {a : Int} (h : (Lit.int .i64 a).wf = true) : -9223372036854775808 ≤ a ∧ a ≤ 9223372036854775807 := by
  simpa [Lit.wf, IntKind.min, IntKind.max, IntKind.signed, IntKind.bits] using h

namespace Oct

theorem turn_twice {v : Nat} {k : Int} (h : putB v k = true) : turnV (turnV v k) k = v ∧ putB (turnV v k) k = true ∧ turnV v k < 18446744073709551616 := by
  have hk : okk k = true := by simp [putB] at h; exact h.1
  have hv : v < 256 ^ k.toNat := by simp [putB] at h; exact h.2
  have e1 : turnV v k = valOf (le k.toNat v) := by simp [turnV, h]
  have hlt : valOf (le k.toNat v) < 256 ^ k.toNat := by
    have := valOf_lt (le k.toNat v)
    rwa [le_length] at this
  have hp : putB (turnV v k) k = true := by rw [e1]; simp [putB, hk, hlt]
  refine ⟨?_, hp, ?_⟩
  · have e2 : turnV (turnV v k) k = valOf (le k.toNat (turnV v k)) := if_pos hp
    rw [e2, e1, ← be_reverse]
    have hbe : be k.toNat (valOf (le k.toNat v)) = le k.toNat v := by
      have := be_valOf (le k.toNat v)
      rwa [le_length] at this
    rw [hbe, ← be_reverse, List.reverse_reverse, valOf_be, Nat.mod_eq_of_lt hv]
  · rw [e1]
    exact Nat.lt_of_lt_of_le hlt (pow256_le (by simp [okk] at hk; omega))

theorem fits_okk {x k : Int} (h : fitsB x k = true) : okk k = true := by simp [fitsB] at h; exact h.1
theorem get_be {v n : Nat} (h1 : 1 ≤ n) (h8 : n ≤ 8) (h : v < 256 ^ n) : getB (be n v) 0 n = true ∧ getV (be n v) 0 n = v := by
  have hb : getB (be n v) 0 n = true := by simp [getB, okk, be_length]; omega
  refine ⟨hb, ?_⟩
  have := getV_nat (l := be n v) (a := 0) (n := n) hb
  rw [show (((0 : Nat) : Int)) = 0 from rfl] at this
  rw [this, List.drop_zero, List.take_of_length_le (by rw [be_length]; omega), valOf_be, Nat.mod_eq_of_lt h]
theorem uns_put {x k : Int} (hf : fitsB x k = true) : putB (unsV x k) k = true ∧ sgnV (unsV x k) k = x ∧ putL (unsV x k) k = be k.toNat (unsV x k) ∧ unsV x k < 18446744073709551616 := by
  have hk : okk k = true := by simp [fitsB] at hf; exact hf.1
  obtain ⟨n, rfl, h1, h8⟩ := okk_nat hk
  have hu := uns_half h1 h8 hf
  have hf2 := hf
  rw [fits_half h1 h8] at hf2
  have hb : -(half n : Int) ≤ x ∧ x < half n := of_decide_eq_true hf2
  have h2 := two_half h1
  have hlt : unsV x n < 256 ^ n := by rw [← h2]; split at hu <;> omega
  have hp : putB (unsV x n) n = true := by simp [putB, hk, hlt]
  refine ⟨hp, ?_, by simp [putL, hp], Nat.lt_of_lt_of_le hlt (pow256_le h8)⟩
  rw [(sgn_half h1 hp).1]
  split at hu <;> split <;> omega

theorem uns_get {x k : Int} (hf : fitsB x k = true) : getB (be k.toNat (unsV x k)) 0 k = true ∧ getV (be k.toNat (unsV x k)) 0 k = unsV x k ∧ ((be k.toNat (unsV x k)).length : Int) = k ∧ (be k.toNat (unsV x k)).length ≤ 8 := by
  obtain ⟨n, rfl, h1, h8⟩ := okk_nat (fits_okk hf)
  have h := uns_put hf
  have := get_be (v := unsV x n) h1 h8 (by have := h.1; simp [putB] at this; exact this.2)
  exact ⟨this.1, this.2, by rw [be_length]; rfl, by rw [be_length]; exact h8⟩

set_option maxRecDepth 100000 in
set_option maxHeartbeats 2000000 in
theorem octetNumbers_walk (W : World) (a0 a1 a2 : Int) (v3 : Value) (l : List UInt8) (a4 : Int) (w0 : (Lit.int .u64 a0).wf = true) (w1 : (Lit.int .i64 a1).wf = true) (_w2 : (Lit.int .i64 a2).wf = true) (r3 : Row W v3 (l.map u8v)) (_w4 : (Lit.int .i64 a4).wf = true) :
    Calls Try.prog 4 #[.int .u64 a0, .int .i64 a1, .int .i64 a2, v3, .int .i64 a4] W fun e w' => e = .returned (.bool true) ∧ Keeps W w' := by
  obtain ⟨v, rfl, hv⟩ := u64_nat w0
  have hb1 := i64_wf w1
  clear w0 w1 _w2 _w4
  obtain ⟨p, cap, rfl, hc1, hc2⟩ := r3.formB
  have HR := Lib.hid r3
  clear r3
  by_cases h60 : 60 < l.length
  · go_enter Try.func4, Try.ntmps4
    go_wp2_with fail
    refine (awake_any _).mono ?_
    rintro e w1 ⟨rfl, hK1⟩
    go_wp2_with fail
    go_ret
    exact ⟨rfl, hK1⟩
  · have bt := bstr_toList
    go_enter Try.func4, Try.ntmps4
    go_wp2_with fail
    refine (awake_any _).mono ?_
    rintro e w1 ⟨rfl, hK1⟩
    go_wp2_with fail
    refine (put_any v hv a2 _).mono ?_
    rintro e w2 ⟨b2, rfl, hown2, hK2⟩
    go_wp2_with fail
    refine (rPut_any v hv a2 _).mono ?_
    rintro e w3 ⟨b3, rfl, hown3, hK3⟩
    have hs2 := str_at (hown2.keeps hK3).row
    have hs3 := str_at hown3.row
    clear hown2 hown3
    have HK3 := Lib.hid ((hK1.trans hK2).trans hK3)
    clear hK1 hK2 hK3
    go_wp2_with fail
    clear hs2 hs3
    refine (get_any _ l a4 a2 _ (HR.out.keeps HK3.out)).mono ?_
    rintro e w4 ⟨rfl, rfl⟩
    go_wp2_with fail
    refine (rGet_any _ l a4 a2 _ (HR.out.keeps HK3.out)).mono ?_
    rintro e w4 ⟨rfl, rfl⟩
    go_wp2_with fail
    refine (signed_any v hv a2 _).mono ?_
    rintro e w4 ⟨rfl, rfl⟩
    go_wp2_with fail
    refine (rSigned_any v hv a2 _).mono ?_
    rintro e w4 ⟨rfl, rfl⟩
    go_wp2_with fail
    refine (fits_any a1 a2 hb1 _).mono ?_
    rintro e w4 ⟨rfl, rfl⟩
    go_wp2_with fail
    refine (rFits_any a1 a2 hb1 _).mono ?_
    rintro e w4 ⟨rfl, rfl⟩
    go_wp2_with fail
    refine (turn_any v hv a2 _).mono ?_
    rintro e w4 ⟨rfl, rfl⟩
    go_wp2_with fail
    refine (rTurn_any v hv a2 _).mono ?_
    rintro e w4 ⟨rfl, hK4⟩
    go_wp2_with fail
    go_ret
    exact ⟨rfl, HK3.out.trans hK4⟩

set_option maxRecDepth 100000 in
set_option maxHeartbeats 2000000 in
theorem octetTurns_walk (W : World) (a0 a1 a2 : Int) (w0 : (Lit.int .u64 a0).wf = true) (w1 : (Lit.int .i64 a1).wf = true) (_w2 : (Lit.int .i64 a2).wf = true) :
    Calls Try.prog 5 #[.int .u64 a0, .int .i64 a1, .int .i64 a2] W fun e w' => e = .returned (.bool true) ∧ Keeps W w' := by
  obtain ⟨v, rfl, hv⟩ := u64_nat w0
  have hb1 := i64_wf w1
  clear w0 w1 _w2
  -- behind the two turns
  have rest : ∀ (g : Nat) (w1 : World), Keeps W w1 → W.heap.size ≤ g → SinkAt w1 g (.slice none 0 0) [] → True := fun _ _ _ _ _ => trivial
  clear rest
  have HF := Lib.hid (fun w => fits_any a1 a2 hb1 w)
  cases hp : putB v a2
  all_goals cases hf : fitsB a1 a2
  all_goals
    first | (have HUP := Lib.hid (uns_put hf); have HG := Lib.hid (uns_get hf)) | skip
    have CT := Lib.hid (fun w => turn_any v hv a2 w)
    rw [hp] at CT
    rw [hf] at HF
    first
    | (have TT := Lib.hid (turn_twice hp)
       have CT2 := Lib.hid (fun w => turn_any (turnV v a2) TT.out.2.2 a2 w)
       rw [TT.out.1, TT.out.2.1] at CT2
       clear TT)
    | have CT2 := Lib.hid trivial
    clear hp
    go_enter Try.func5, Try.ntmps5
    go_wp2_with fail
    refine (awake_any _).mono ?_
    rintro e w1 ⟨rfl, hK1⟩
    go_wp2_with fail
    refine (CT.out _).mono ?_
    rintro e w2 ⟨rfl, rfl⟩
    go_wp2_with fail
    first
    | ((with_reducible refine (newSink_any _).mono ?_); skip)
    | ((with_reducible refine (CT2.out _).mono ?_); rintro e w2 ⟨rfl, rfl⟩; go_wp2_with fail; refine (newSink_any _).mono ?_)
    rintro e w2 ⟨g, rfl, hg, hS2, hK2⟩
    have HK2 := Lib.hid (hK1.trans hK2)
    have hsz1 := hK1.size
    have CI := Lib.hid (sinkI_any g _ [] a1 hb1 a2 w2 hS2 (by decide))
    rw [hf] at CI
    clear hK1 hK2 hS2
    go_wp2_with fail
    refine CI.out.mono ?_
    rintro e w3 ⟨v3, rfl, hS3, hM3, hF3⟩
    have HK3 := Lib.hid (hM3.keeps HK2.out (fun x hx => hx.elim (fun e => by omega) (fun e => by simp [Value.ownBlock] at e)))
    clear hM3
  · rw [if_neg (by decide)] at hS3
    go_wp2_with fail
    refine (HF.out _).mono ?_
    rintro e w4 ⟨rfl, rfl⟩
    go_wp2_with fail
    refine (sinkLen_any g v3 _ _ hS3).mono ?_
    rintro e w4 ⟨rfl, rfl⟩
    go_wp2_with fail
    go_ret
    exact ⟨rfl, HK3.out⟩
  · rw [if_pos (by trivial), List.nil_append, HUP.out.2.2.1] at hS3
    have C4 := Lib.hid (sinkBytes_any g v3 _ w3 hS3 (by have := HG.out.2.2.2; omega))
    go_wp2_with fail
    refine C4.out.mono ?_
    rintro e w4 ⟨b4, rfl, hown4, hK4⟩
    have C5 := Lib.hid (get_any b4 _ 0 a2 w4 hown4.row)
    rw [HG.out.1, HG.out.2.1] at C5
    have C6 := Lib.hid (signed_any (unsV a1 a2) HUP.out.2.2.2 a2 w4)
    rw [HUP.out.1, HUP.out.2.1] at C6
    have C7 := Lib.hid (sinkLen_any g v3 _ w4 (hS3.keeps hK4))
    rw [HG.out.2.2.1] at C7
    clear hown4 hS3
    go_wp2_with fail
    refine C5.out.mono ?_
    rintro e w5 ⟨rfl, rfl⟩
    go_wp2_with fail
    refine C6.out.mono ?_
    rintro e w5 ⟨rfl, rfl⟩
    go_wp2_with fail
    refine C7.out.mono ?_
    rintro e w5 ⟨rfl, rfl⟩
    go_wp2_with fail
    go_ret
    exact ⟨rfl, HK3.out.trans hK4⟩
  · rw [if_neg (by decide)] at hS3
    go_wp2_with fail
    refine (HF.out _).mono ?_
    rintro e w4 ⟨rfl, rfl⟩
    go_wp2_with fail
    refine (sinkLen_any g v3 _ _ hS3).mono ?_
    rintro e w4 ⟨rfl, rfl⟩
    go_wp2_with fail
    go_ret
    exact ⟨rfl, HK3.out⟩
  · rw [if_pos (by trivial), List.nil_append, HUP.out.2.2.1] at hS3
    have C4 := Lib.hid (sinkBytes_any g v3 _ w3 hS3 (by have := HG.out.2.2.2; omega))
    go_wp2_with fail
    refine C4.out.mono ?_
    rintro e w4 ⟨b4, rfl, hown4, hK4⟩
    have C5 := Lib.hid (get_any b4 _ 0 a2 w4 hown4.row)
    rw [HG.out.1, HG.out.2.1] at C5
    have C6 := Lib.hid (signed_any (unsV a1 a2) HUP.out.2.2.2 a2 w4)
    rw [HUP.out.1, HUP.out.2.1] at C6
    have C7 := Lib.hid (sinkLen_any g v3 _ w4 (hS3.keeps hK4))
    rw [HG.out.2.2.1] at C7
    clear hown4 hS3
    go_wp2_with fail
    refine C5.out.mono ?_
    rintro e w5 ⟨rfl, rfl⟩
    go_wp2_with fail
    refine C6.out.mono ?_
    rintro e w5 ⟨rfl, rfl⟩
    go_wp2_with fail
    refine C7.out.mono ?_
    rintro e w5 ⟨rfl, rfl⟩
    go_wp2_with fail
    go_ret
    exact ⟨rfl, HK3.out.trans hK4⟩
end Oct
end Go.Proofs.Ytfmjlgkbohidjaa

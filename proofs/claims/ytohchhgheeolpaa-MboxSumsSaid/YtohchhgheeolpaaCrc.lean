/- The functions of package crc, and the reference's, compute the plain sums. -/
import Derived.Test.YtohchhgheeolpaaCrcRow
namespace Go.Proofs.Ytohchhgheeolpaa
open Go.RowKit
namespace Crc

theorem u32_not {c : Nat} (h : c < 4294967296) : (IntKind.u32.wrap (4294967295 - (c : Int))) = ((4294967295 - c : Nat) : Int) := by
  rw [IntKind.wrap_u32']; omega
theorem and15 {c : Nat} (h : c < 4294967296) : bits BinOp.and IntKind.u32 (c : Int) 15 = ((c % 16 : Nat) : Int) := by
  have := u32_and_nat c 15 h (by omega)
  rw [show ((15 : Nat) : Int) = 15 from rfl] at this
  rw [this, nat_mask4]
theorem nib_bits {c : Nat} (h : c < 4294967296) : bits BinOp.xor IntKind.u32 ((sts 4 (c % 16) : Nat) : Int) ((c : Int) / 16) = ((nib c : Nat) : Int) := by
  exact u32_xor_nat (sts 4 (c % 16)) (c / 16) (sts_lt 4 (by omega)) (by omega)
theorem xor_byte {c : Nat} (h : c < 4294967296) (x : UInt8) : bits BinOp.xor IntKind.u32 (c : Int) (x.toNat : Int) = ((c ^^^ x.toNat : Nat) : Int) := by
  exact u32_xor_nat c x.toNat h (by have := byte_lt x; omega)

set_option maxHeartbeats 1000000 in
theorem rMore_any (s : Nat) (hs : s < 4294967296) (v : Value) (l : List UInt8) (w : World) (hr : Row w v (l.map u8v)) :
    Calls Try.prog 246 #[.int .u32 (s : Int), v] w fun e w' => e = .returned (.int .u32 (more s l : Nat)) ∧ w = w' := by
  have es : (4294967295 - (s : Int)) = ((4294967295 - s : Nat) : Int) := by omega
  have hp : (l = [] ∧ ∃ p cap, v = .slice p 0 cap) ∨ ∃ b off cap, v = .slice (some ⟨b, off, none⟩) l.length cap ∧ Hid (∀ i x, l[i]? = some x → w.cell? ⟨b, off + i, none⟩ = some (.int .u8 (x.toNat : Int))) ∧ l.length ≤ cap ∧ cap ≤ maxLen := by
    rcases hr with ⟨a0, cap', rfl, hl, -, -⟩ | ⟨b, off, cap', rfl, h1, h2, hcell⟩
    · exact .inl ⟨by simpa using hl, _, _, rfl⟩
    · exact .inr ⟨b, off, cap', by simp, Lib.hid fun i x hx => hcell i _ (by simp [hx, u8v]), by simpa using h1, h2⟩
  have go0 : run (4294967295 - s) [] = 4294967295 - s := rfl
  rcases hp with ⟨rfl, p, cap, rfl⟩ | ⟨b, off, cap, rfl, HC, hle, hcap⟩
  · have hfin : (4294967295 - ((4294967295 - s : Nat) : Int)) = ((more s [] : Nat) : Int) := by unfold more run; simp only [List.foldl_nil]; omega
    have HF := Lib.hid hfin
    clear hfin go0
    go_enter Try.func246, Try.ntmps246
    go_wp2
    go_loop [5, 6, 7] (fun c i k => i = .int .i64 0 ∧ c = .int .u32 ((4294967295 - s : Nat) : Int)) (fun _ _ _ => 0)
    case atStart => exact ⟨rfl, rfl⟩
    case round =>
      obtain ⟨rfl, rfl⟩ := hrel
      go_wp2
      go_ret
      exact ⟨ret_u32 HF.out, rfl⟩
  · unfold maxLen at hcap
    clear go0
    go_enter Try.func246, Try.ntmps246
    go_wp2
    go_loop [5, 6, 7] (fun c i k => ∃ n c0 : Nat, n ≤ l.length ∧ i = .int .i64 n ∧ c = .int .u32 (c0 : Int) ∧ c0 < 4294967296 ∧ run (4294967295 - s) l = run c0 (l.drop n)) (fun _ i _ => l.length - (intOf i).toNat)
    case atStart => exact ⟨0, 4294967295 - s, by omega, rfl, rfl, by omega, rfl⟩
    case round =>
      obtain ⟨n, c0, hn, rfl, rfl, hc0, hrun⟩ := hrel
      have HR := Lib.hid hrun
      clear hrun
      by_cases hlt : n < l.length
      · have hcell : w.cell? ⟨b, off + n, none⟩ = some (.int .u8 (l[n].toNat : Int)) := HC.out n _ (by simp [hlt])
        have HD : Hid (l.drop n = l[n] :: l.drop (n + 1)) := Lib.hid (List.drop_eq_getElem_cons hlt)
        have hb := byte_lt l[n]
        generalize l[n] = x at *
        have hx := xor_byte hc0 x
        have hlt0 : (c0 ^^^ x.toNat) < 4294967296 := xor_lt hc0 (by omega)
        have HU : Hid (sts 8 (c0 ^^^ x.toNat) = upd c0 x) := Lib.hid rfl
        generalize c0 ^^^ x.toNat = c1 at *
        go_wp2
        go_loop [5, 7] (fun c i => ∃ j : Nat, j ≤ 8 ∧ i = .int .i64 j ∧ c = .int .u32 ((sts j c1 : Nat) : Int)) (fun _ i => 8 - (intOf i).toNat)
        case atStart => exact ⟨0, by omega, rfl, rfl⟩
        case round =>
          obtain ⟨j, hj, rfl, rfl⟩ := hrel
          have HS := Lib.hid (sts_snoc j c1)
          have hcj := sts_lt j hlt0
          by_cases hj8 : j < 8
          · generalize sts j c1 = c2 at *
            go_wp2_with (go_at_call 258; refine (rStep_any _ hcj _).mono ?_; rintro e w' ⟨rfl, rfl⟩)
            go_round
            case rel => exact ⟨j + 1, by omega, by go_num, by rw [HS.out]⟩
            case measure => simp [intOf] <;> omega
          · obtain rfl : j = 8 := by omega
            clear HS
            have HU' : Hid (sts 8 c1 = upd c0 x) := HU
            generalize sts 8 c1 = c2 at *
            go_wp2
            go_round
            case rel => exact ⟨n + 1, c2, by omega, by go_num, rfl, hcj, by rw [HR.out, HD.out, HU'.out]; rfl⟩
            case measure => simp [intOf] <;> omega
      · have hfin : (4294967295 - (c0 : Int)) = ((more s l : Nat) : Int) := by unfold more; rw [HR.out, List.drop_of_length_le (by omega)]; simp only [run, List.foldl_nil]; omega
        have HF := Lib.hid hfin
        clear hfin
        go_wp2
        go_ret
        exact ⟨ret_u32 HF.out, rfl⟩
end Crc
end Go.Proofs.Ytohchhgheeolpaa

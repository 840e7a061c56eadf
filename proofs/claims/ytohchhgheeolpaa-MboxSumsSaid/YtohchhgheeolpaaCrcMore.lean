/- crc.More, Of, Same and the reference's Of, and what the document tells. -/
import Derived.Test.YtohchhgheeolpaaCrc
namespace Go.Proofs.Ytohchhgheeolpaa
open Go.RowKit
namespace Crc

theorem ones_xor {c : Nat} (h : c < 4294967296) : 4294967295 ^^^ c = 4294967295 - c := by
  have h1 : (BitVec.allOnes 32 ^^^ BitVec.ofNat 32 c) = ~~~ (BitVec.ofNat 32 c) := by rw [BitVec.xor_comm, BitVec.xor_allOnes]
  have h2 := congrArg BitVec.toNat h1
  rw [BitVec.toNat_xor, BitVec.toNat_not, BitVec.toNat_allOnes, BitVec.toNat_ofNat] at h2
  rw [Nat.mod_eq_of_lt (by omega)] at h2
  exact h2
theorem not_u32 {c : Nat} (h : c < 4294967296) : bits BinOp.xor IntKind.u32 IntKind.u32.max (c : Int) = ((4294967295 - c : Nat) : Int) := by
  have := u32_xor_nat 4294967295 c (by omega) h
  rw [ones_xor h] at this
  rw [← this]
  rfl

set_option maxHeartbeats 1000000 in
theorem more_any (s : Nat) (hs : s < 4294967296) (v : Value) (l : List UInt8) (w : World) (hr : Row w v (l.map u8v)) :
    Calls Try.prog 213 #[.int .u32 (s : Int), v] w fun e w' => e = .returned (.int .u32 (more s l : Nat)) ∧ Keeps w w' := by
  have hp : (l = [] ∧ ∃ p cap, v = .slice p 0 cap) ∨ ∃ b off cap, v = .slice (some ⟨b, off, none⟩) l.length cap ∧ Hid (∀ i x, l[i]? = some x → w.cell? ⟨b, off + i, none⟩ = some (.int .u8 (x.toNat : Int))) ∧ l.length ≤ cap ∧ cap ≤ maxLen := by
    rcases hr with ⟨a0, cap', rfl, hl, -, -⟩ | ⟨b, off, cap', rfl, h1, h2, hcell⟩
    · exact .inl ⟨by simpa using hl, _, _, rfl⟩
    · exact .inr ⟨b, off, cap', by simp, Lib.hid fun i x hx => hcell i _ (by simp [hx, u8v]), by simpa using h1, h2⟩
  rcases hp with ⟨rfl, p, cap, rfl⟩ | ⟨b, off, cap, rfl, HC, hle, hcap⟩
  · go_enter Try.func213, Try.ntmps213
    go_wp2_with fail
    refine (row_any _).mono ?_
    rintro e w1 ⟨rfl, hk1⟩
    go_wp2_with fail
    generalize hW : World.alloc _ _ = w2
    have hK : Keeps w w2 := by rw [← hW]; exact hk1.alloc _
    clear hW hk1
    have H0 := Lib.hid (not_u32 hs)
    have HF : Hid (((4294967295 - (4294967295 - s) : Nat) : Int) = ((more s [] : Nat) : Int)) := Lib.hid (by unfold more run; rfl)
    go_loop [6, 8, 14] (fun c x i => i = .int .i64 0 ∧ c = .int .u32 ((4294967295 - s : Nat) : Int)) (fun _ _ _ => 0)
    case atStart => exact ⟨rfl, congrArg (Value.int .u32) H0.out⟩
    case round =>
      obtain ⟨rfl, rfl⟩ := hrel
      have hn := not_u32 (c := 4294967295 - s) (by omega)
      go_wp2
      go_ret
      exact ⟨ret_u32 HF.out, hK⟩
  · unfold maxLen at hcap
    go_enter Try.func213, Try.ntmps213
    go_wp2_with fail
    refine (row_any _).mono ?_
    rintro e w1 ⟨rfl, hk1⟩
    go_wp2_with fail
    generalize hW : World.alloc _ _ = w2
    have HT : Hid (∀ i, i < 16 → w2.cell? ⟨w1.heap.size, i, none⟩ = some (.int .u32 (sts 4 i : Nat))) := Lib.hid (by
      intro i hi
      rw [← hW, cell_alloc_new]
      exact tab_get i hi)
    have hK : Keeps w w2 := by rw [← hW]; exact hk1.alloc _
    clear hW hk1
    have H0 := Lib.hid (not_u32 hs)
    go_loop [6, 8, 14] (fun c x i => ∃ n c0 : Nat, n ≤ l.length ∧ i = .int .i64 n ∧ c = .int .u32 (c0 : Int) ∧ c0 < 4294967296 ∧ run (4294967295 - s) l = run c0 (l.drop n)) (fun _ _ i => l.length - (intOf i).toNat)
    case atStart => exact ⟨0, 4294967295 - s, by omega, rfl, congrArg (Value.int .u32) H0.out, by omega, rfl⟩
    case round =>
      obtain ⟨n, c0, hn, rfl, rfl, hc0, hrun⟩ := hrel
      have HR := Lib.hid hrun
      clear hrun
      by_cases hlt : n < l.length
      · have hcell : w2.cell? ⟨b, off + n, none⟩ = some (.int .u8 (l[n].toNat : Int)) := keep1 hK (HC.out n _ (by simp [hlt]))
        have HD : Hid (l.drop n = l[n] :: l.drop (n + 1)) := Lib.hid (List.drop_eq_getElem_cons hlt)
        have hb := byte_lt l[n]
        generalize l[n] = x at *
        have hx := xor_byte hc0 x
        have hlt0 : (c0 ^^^ x.toNat) < 4294967296 := xor_lt hc0 (by omega)
        have HU : Hid (nib (nib (c0 ^^^ x.toNat)) = upd c0 x) := Lib.hid (upd_nib c0 x).symm
        generalize c0 ^^^ x.toNat = c1 at *
        have ha1 := and15 hlt0
        have ht1 := HT.out (c1 % 16) (by omega)
        have hn1 := nib_bits hlt0
        have hl1 : nib c1 < 4294967296 := by rw [nib_eq]; exact sts_lt 4 hlt0
        generalize nib c1 = c2 at *
        have ha2 := and15 hl1
        have ht2 := HT.out (c2 % 16) (by omega)
        have hn2 := nib_bits hl1
        have hl2 : nib c2 < 4294967296 := by rw [nib_eq]; exact sts_lt 4 hl1
        generalize nib c2 = c3 at *
        go_wp2
        go_round
        case rel => exact ⟨n + 1, c3, by omega, by go_num, rfl, by have := HU.out; rw [this]; exact upd_lt hc0 x, by rw [HR.out, HD.out, HU.out]; rfl⟩
        case measure => simp [intOf] <;> omega
      · have HF : Hid (((4294967295 - c0 : Nat) : Int) = ((more s l : Nat) : Int)) := Lib.hid (by unfold more; rw [HR.out, List.drop_of_length_le (by omega)]; rfl)
        have hn := not_u32 hc0
        go_wp2
        go_ret
        exact ⟨ret_u32 HF.out, hK⟩

theorem of_any (v : Value) (l : List UInt8) (w : World) (hr : Row w v (l.map u8v)) :
    Calls Try.prog 214 #[v] w fun e w' => e = .returned (.int .u32 (more 0 l : Nat)) ∧ Keeps w w' := by
  have H := Lib.hid (more_any 0 (by omega) v l w hr)
  go_enter Try.func214, Try.ntmps214
  go_wp2_with fail
  refine H.out.mono ?_
  rintro e w1 ⟨rfl, hk1⟩
  go_wp2_with fail
  go_ret
  exact ⟨rfl, hk1⟩
theorem rOf_any (v : Value) (l : List UInt8) (w : World) (hr : Row w v (l.map u8v)) :
    Calls Try.prog 227 #[v] w fun e w' => e = .returned (.int .u32 (more 0 l : Nat)) ∧ w = w' := by
  have H := Lib.hid (rMore_any 0 (by omega) v l w hr)
  go_enter Try.func227, Try.ntmps227
  go_wp2_with fail
  refine H.out.mono ?_
  rintro e w1 ⟨rfl, rfl⟩
  go_wp2_with fail
  go_ret
  exact ⟨rfl, rfl⟩
end Crc
end Go.Proofs.Ytohchhgheeolpaa

/- The source's Raw and Text. -/
import Derived.Test.YtohchhgheeolpaaOctetTakes
import Derived.StillTailTactics
namespace Go.Proofs.Ytohchhgheeolpaa
open Go.RowKit
namespace Oct

def rE (n a : Nat) (er k : Int) : Int := if er ≠ 0 then er else if k < 0 then 1 else if (n : Int) - a < k then 2 else 0
def rA (n a : Nat) (er k : Int) : Nat := if rE n a er k = 0 then a + k.toNat else a
def rL (l : List UInt8) (a : Nat) (er k : Int) : List UInt8 := if rE l.length a er k = 0 then (l.drop a).take k.toNat else []

/-- the call gives bytes of its own, and changes the source's block alone -/
def RawDid (W : World) (g : Nat) (v : Value) (l : List UInt8) (a : Nat) (er : Int) (m : List UInt8) (e : Ending) (w' : World) : Prop :=
  ∃ b, e = .returned b ∧ Own w' W.heap.size 5 b (m.map u8v) ∧ SrcAt w' g v l a er ∧ Mods (· = g) W w'

theorem mods_size {S : Nat → Prop} {a b : World} (h : Mods S a b) : a.heap.size ≤ b.heap.size := h.size

set_option maxRecDepth 100000 in
set_option maxHeartbeats 1000000 in
theorem srcRaw_any (g : Nat) (v : Value) (l : List UInt8) (a : Nat) (er k : Int) (w : World) (h : SrcAt w g v l a er) :
    Calls Try.prog 206 #[.pointer (some ⟨g, 0, none⟩), .int .i64 k] w (RawDid w g v l (rA l.length a er k) (rE l.length a er k) (rL l a er k)) := by
  by_cases he : er = 0
  · subst he
    have hle := h.le
    have hlen := h.len
    by_cases h0 : k < 0
    · have hE : rE l.length a 0 k = 1 := by simp [rE, h0]
      have H : Hid (rE l.length a 0 k = 1 ∧ rA l.length a 0 k = a ∧ rL l a 0 k = []) := Lib.hid ⟨hE, by simp [rA, hE], by simp [rL, hE]⟩
      have HF := Lib.hid (fail_any g v l a 0 true 1 w h)
      rw [show failB true 1 0 = true from rfl, show failE true 1 0 = 1 from rfl] at HF
      clear h hE
      go_enter Try.func206, Try.ntmps206
      go_wp2_with fail
      refine HF.out.mono ?_
      rintro e w1 ⟨rfl, hS1, hM1⟩
      go_wp2_with fail
      go_ret
      exact ⟨_, rfl, by rw [H.out.2.2]; exact Own.nil _ _ _, by rw [H.out.1, H.out.2.1]; exact hS1, hM1⟩
    · have hd0 : decide (k < 0) = false := by simp; omega
      have HF := Lib.hid (fail_any g v l a 0 false 1 w h)
      rw [show failB false 1 0 = false from rfl, show failE false 1 0 = 0 from rfl] at HF
      by_cases hlt : (l.length : Int) - a < k
      · have hE : rE l.length a 0 k = 2 := by simp [rE, h0, hlt]
        have H : Hid (rE l.length a 0 k = 2 ∧ rA l.length a 0 k = a ∧ rL l a 0 k = []) := Lib.hid ⟨hE, by simp [rA, hE], by simp [rL, hE]⟩
        clear h hE
        go_enter Try.func206, Try.ntmps206
        go_wp2_with fail
        refine HF.out.mono ?_
        rintro e w1 ⟨rfl, hS1, hM1⟩
        have HL := Lib.hid (left_any g v l a 0 w1 hS1)
        go_wp2_with fail
        refine HL.out.mono ?_
        rintro e w2 ⟨rfl, hK2⟩
        have HF2 := Lib.hid (fail_any g v l a 0 true 2 w2 (hS1.keeps hK2))
        rw [show failB true 2 0 = true from rfl, show failE true 2 0 = 2 from rfl] at HF2
        clear hS1 HL
        go_wp2_with fail
        refine HF2.out.mono ?_
        rintro e w3 ⟨rfl, hS3, hM3⟩
        go_wp2_with fail
        go_ret
        exact ⟨_, rfl, by rw [H.out.2.2]; exact Own.nil _ _ _, by rw [H.out.1, H.out.2.1]; exact hS3, (hM1.then hK2).trans hM3 fun _ h _ => h⟩
      · have hE : rE l.length a 0 k = 0 := by simp [rE, h0, hlt]
        obtain ⟨n, rfl⟩ := Int.eq_ofNat_of_zero_le (show 0 ≤ k by omega)
        have H : Hid (rE l.length a 0 n = 0 ∧ rA l.length a 0 n = a + n ∧ rL l a 0 n = (l.drop a).take n) := Lib.hid ⟨hE, by simp [rA, hE], by simp [rL, hE]⟩
        have hd : decide ((l.length : Int) - a < (n : Int)) = false := by simp; omega
        clear h hE
        go_enter Try.func206, Try.ntmps206
        go_wp2_with fail
        refine HF.out.mono ?_
        rintro e w1 ⟨rfl, hS1, hM1⟩
        have HL := Lib.hid (left_any g v l a 0 w1 hS1)
        go_wp2_with fail
        refine HL.out.mono ?_
        rintro e w2 ⟨rfl, hK2⟩
        have HF2 := Lib.hid (fail_any g v l a 0 false 2 w2 (hS1.keeps hK2))
        rw [show failB false 2 0 = false from rfl, show failE false 2 0 = 0 from rfl] at HF2
        clear hS1 HL
        go_wp2_with fail
        refine HF2.out.mono ?_
        rintro e w3 ⟨rfl, hS3, hM3⟩
        obtain ⟨hc0, hc1, hc2⟩ := hS3.cells
        obtain ⟨hf0, hf1, hf2⟩ := hS3.free
        obtain ⟨p, cap, rfl, hcap1, hcap2⟩ := hS3.own.row.formB
        have HRow := Lib.hid hS3.own.row
        have HS3 := Lib.hid hS3
        clear hS3
        have hM03 := Lib.hid ((hM1.then hK2).trans hM3 fun _ h _ => h)
        clear hM1 hK2 hM3
        have EA := Lib.hid (show ∀ w, (Instr.slice 22 (.slice p l.length cap) (some (.int .i64 (a : Int))) (some (.int .i64 ((a : Int) + (n : Int)))) none).run Try.prog w = .ok (cutv p a (a + n) cap) w from fun w => by
          rw [show ((a : Int) + (n : Int)) = ((a + n : Nat) : Int) from by omega]
          exact run_cut_lh w Try.underlying22 s5 p l.length cap a (a + n) (by omega) (by omega))
        go_wp2_with fail
        have ea := EA.out
        generalize hW : World.setCell w3 _ _ = w4
        have hS4 : SrcAt w4 g (.slice p l.length cap) l (a + n) 0 := by rw [← hW]; simpa using HS3.out.setA (a + n) (by omega)
        have HM4 : Hid (Mods (· = g) w w4) := Lib.hid (by rw [← hW]; exact Mods.setCell (p := ⟨g, 1, none⟩) hM03.out (fun _ => rfl) _)
        clear hW HS3 HRow hM03 hc0 hc1 hc2 hf0 hf1 hf2
        obtain ⟨hc0, hc1, hc2⟩ := hS4.cells
        have HS4 := Lib.hid hS4
        clear hS4
        rw [show (((a + n : Nat)) : Int) = (a : Int) + n from by omega] at hc1
        have hwa : IntKind.i64.wrap (a : Int) = a := IntWalk.i64_in _ (by omega)
        go_still_tail 15, (by kernel_rfl)
        change wpList _ _ _ _ _ (World.drew _)
        clear hwa ea
        have HCl := Lib.hid (clone_any (cutv p a (a + n) cap) ((l.drop a).take n) w4.drew (by
          have := (HS4.out.keeps ((Keeps.refl _).drew)).own.row.cut (lo := a) (hi := a + n) (by omega) (by simp; omega)
          rw [show a + n - a = n from by omega] at this
          simpa [List.map_take, List.map_drop] using this) (by simp; omega))
        go_wp2_with fail
        refine HCl.out.mono ?_
        rintro e w5 ⟨b, rfl, hown5, hK5⟩
        go_wp2_with fail
        go_ret
        have hM5 := (HM4.out.drew).then hK5
        exact ⟨_, rfl, by rw [H.out.2.2]; exact hown5.lower HM4.out.drew.size, by rw [H.out.1, H.out.2.1]; exact (HS4.out.keeps ((Keeps.refl _).drew)).keeps hK5, hM5⟩
  · have hE : rE l.length a er k = er := by simp [rE, he]
    have H : Hid (rE l.length a er k = er ∧ rA l.length a er k = a ∧ rL l a er k = []) := Lib.hid ⟨hE, by simp [rA, hE, he], by simp [rL, hE, he]⟩
    have HF := Lib.hid (fail_any g v l a er (decide (k < 0)) 1 w h)
    rw [show failB (decide (k < 0)) 1 er = true from by simp [failB, he], show failE (decide (k < 0)) 1 er = er from by simp [failE, he]] at HF
    clear h hE he
    go_enter Try.func206, Try.ntmps206
    go_wp2_with fail
    refine HF.out.mono ?_
    rintro e w1 ⟨rfl, hS1, hM1⟩
    go_wp2_with fail
    go_ret
    exact ⟨_, rfl, by rw [H.out.2.2]; exact Own.nil _ _ _, by rw [H.out.1, H.out.2.1]; exact hS1, hM1⟩
end Oct
end Go.Proofs.Ytohchhgheeolpaa

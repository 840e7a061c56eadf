/- The source's U, I, Raw and Text. -/
import Derived.Test.YtohchhgheeolpaaOctetSource
namespace Go.Proofs.Ytohchhgheeolpaa
open Go.RowKit
namespace Oct

theorem quiet_left {P : Program} {f : FuncId} {args : Array Value} {w : World} {n : Nat} {v : Value}
    (h : Calls P f args (w.drewN n) fun e w' => e = .returned v ∧ w.drewN n = w') : Calls P f args (w.drewN n) fun e w'' => e = .returned v ∧ ∃ m, w'' = w.drewN m :=
  h.mono fun _ _ ⟨he, hm⟩ => ⟨he, n, hm.symm⟩

def uE (n a : Nat) (er k : Int) : Int := if er ≠ 0 then er else if okk k = false then 1 else if (n : Int) - a < k then 2 else 0
def uA (n a : Nat) (er k : Int) : Nat := if uE n a er k = 0 then a + k.toNat else a
def uV (l : List UInt8) (a : Nat) (er k : Int) : Nat := if uE l.length a er k = 0 then getV l a k else 0

def SrcDidV (W : World) (g : Nat) (v : Value) (l : List UInt8) (a : Nat) (er : Int) (r : Ending) (e : Ending) (w' : World) : Prop :=
  e = r ∧ SrcAt w' g v l a er ∧ Mods (· = g) W w'

theorem getV_lt {l : List UInt8} {a k : Int} : getV l a k < 18446744073709551616 := by
  unfold getV
  split
  · rename_i h
    have hk : 1 ≤ k ∧ k ≤ 8 := by simp [getB, okk] at h; omega
    refine Nat.lt_of_lt_of_le (valOf_lt' (j := 8) ?_) (pow256_le (by omega))
    rw [List.length_take]
    omega
  · omega
theorem uV_lt {l : List UInt8} {a : Nat} {er k : Int} : uV l a er k < 18446744073709551616 := by
  unfold uV
  split
  · exact getV_lt
  · omega

set_option maxHeartbeats 1000000 in
theorem srcU_any (g : Nat) (v : Value) (l : List UInt8) (a : Nat) (er k : Int) (w : World) (h : SrcAt w g v l a er) :
    Calls Try.prog 169 #[.pointer (some ⟨g, 0, none⟩), .int .i64 k] w (SrcDid w g v l (uA l.length a er k) (uE l.length a er k) (.returned (.int .u64 (uV l a er k : Nat)))) := by
  have HG := Lib.hid (good_any k w)
  by_cases he : er = 0
  · subst he
    cases hk : okk k
    · have hE : uE l.length a 0 k = 1 := by simp [uE, hk]
      have H : Hid (uE l.length a 0 k = 1 ∧ uA l.length a 0 k = a ∧ ((uV l a 0 k : Nat) : Int) = 0) := Lib.hid ⟨hE, by simp [uA, hE], by simp [uV, hE]⟩
      have HF := Lib.hid (fail_any g v l a 0 true 1 w h)
      rw [show failB true 1 0 = true from rfl, show failE true 1 0 = 1 from rfl] at HF
      rw [hk] at HG
      clear h hE hk
      go_enter Try.func169, Try.ntmps169
      go_wp2_with (first | (go_at_call 207; refine HG.out.mono ?_; rintro e w' ⟨rfl, rfl⟩) | (go_at_call 204; refine HF.out.mono ?_; rintro e w1 ⟨rfl, hS1, hM1⟩))
      go_ret
      exact ⟨retI H.out.2.2.symm, by rw [H.out.1, H.out.2.1]; exact hS1, hM1⟩
    · have HF := Lib.hid (fail_any g v l a 0 false 1 w h)
      rw [show failB false 1 0 = false from rfl, show failE false 1 0 = 0 from rfl] at HF
      rw [hk] at HG
      have hle := h.le
      have hlen := h.len
      by_cases hlt : (l.length : Int) - a < k
      · have hE : uE l.length a 0 k = 2 := by simp [uE, hk, hlt]
        have H : Hid (uE l.length a 0 k = 2 ∧ uA l.length a 0 k = a ∧ ((uV l a 0 k : Nat) : Int) = 0) := Lib.hid ⟨hE, by simp [uA, hE], by simp [uV, hE]⟩
        clear h hE hk
        go_enter Try.func169, Try.ntmps169
        go_wp2_with (go_at_call 207; refine HG.out.mono ?_; rintro e w' ⟨rfl, rfl⟩)
        refine HF.out.mono ?_
        rintro e w1 ⟨rfl, hS1, hM1⟩
        have HL := Lib.hid (left_any g v l a 0 w1 hS1)
        go_wp2_with fail
        refine HL.out.mono ?_
        rintro e w2 ⟨rfl, hK2⟩
        have HF2 := Lib.hid (fail_any g v l a 0 true 2 w2 (hS1.keeps hK2))
        rw [show failB true 2 0 = true from rfl, show failE true 2 0 = 2 from rfl] at HF2
        clear hS1 HL
        go_wp2_with fail
        refine HF2.out.mono ?_
        rintro e w3 ⟨rfl, hS3, hM3⟩
        go_wp2_with fail
        go_ret
        exact ⟨retI H.out.2.2.symm, by rw [H.out.1, H.out.2.1]; exact hS3, (hM1.then hK2).trans hM3 fun _ h _ => h⟩
      · have hE : uE l.length a 0 k = 0 := by simp [uE, hk, hlt]
        obtain ⟨n, rfl, hn1, hn8⟩ := okk_nat hk
        have hgb : getB l a n = true := by simp [getB, hk]; omega
        have H : Hid (uE l.length a 0 n = 0 ∧ uA l.length a 0 n = a + n ∧ uV l a 0 n = getV l a n) := Lib.hid ⟨hE, by simp [uA, hE], by simp [uV, hE]⟩
        have HGB := Lib.hid hgb
        have hd : decide ((l.length : Int) - a < (n : Int)) = false := by simp; omega
        clear h hE hk hgb
        go_enter Try.func169, Try.ntmps169
        go_wp2_with (go_at_call 207; refine HG.out.mono ?_; rintro e w' ⟨rfl, rfl⟩)
        refine HF.out.mono ?_
        rintro e w1 ⟨rfl, hS1, hM1⟩
        have HL := Lib.hid (left_any g v l a 0 w1 hS1)
        go_wp2_with fail
        refine HL.out.mono ?_
        rintro e w2 ⟨rfl, hK2⟩
        have HF2 := Lib.hid (fail_any g v l a 0 false 2 w2 (hS1.keeps hK2))
        rw [show failB false 2 0 = false from rfl, show failE false 2 0 = 0 from rfl] at HF2
        clear hS1 HL
        go_wp2_with fail
        refine HF2.out.mono ?_
        rintro e w3 ⟨rfl, hS3, hM3⟩
        obtain ⟨hc0, hc1, hc2⟩ := hS3.cells
        obtain ⟨hf0, hf1, hf2⟩ := hS3.free
        obtain ⟨p, cap, rfl, hcap1, hcap2⟩ := hS3.own.row.formB
        have HGet := Lib.hid (fun w hr => get_any (.slice p l.length cap) l a n w hr)
        have HRow := Lib.hid hS3.own.row
        have HS3 := Lib.hid hS3
        rw [HGB.out] at HGet
        clear hS3
        go_wp2_with fail
        go_quiet ((go_at_call 202; exact quiet_left (HGet.out _ (HRow.out.keeps ((Keeps.refl _).drewN _)))))
        go_wp2_with fail
        go_ret
        have hS4 := (HS3.out.keeps ((Keeps.refl _).drewN nq)).setA (a + n) (by omega)
        refine ⟨retI (by rw [H.out.2.2]), by rw [H.out.1, H.out.2.1]; simpa using hS4, ?_⟩
        exact Mods.setCell (p := ⟨g, 1, none⟩) (((hM1.then hK2).trans hM3 fun _ h _ => h).then ((Keeps.refl _).drewN _)) (fun _ => rfl) _
  · have hE : uE l.length a er k = er := by simp [uE, he]
    have H : Hid (uE l.length a er k = er ∧ uA l.length a er k = a ∧ ((uV l a er k : Nat) : Int) = 0) := Lib.hid ⟨hE, by simp [uA, hE, he], by simp [uV, hE, he]⟩
    have HF := Lib.hid (fail_any g v l a er (!okk k) 1 w h)
    rw [show failB (!okk k) 1 er = true from by simp [failB, he], show failE (!okk k) 1 er = er from by simp [failE, he]] at HF
    clear h hE he
    go_enter Try.func169, Try.ntmps169
    go_wp2_with (first | (go_at_call 207; refine HG.out.mono ?_; rintro e w' ⟨rfl, rfl⟩) | (go_at_call 204; refine HF.out.mono ?_; rintro e w1 ⟨rfl, hS1, hM1⟩))
    go_ret
    exact ⟨retI H.out.2.2.symm, by rw [H.out.1, H.out.2.1]; exact hS1, hM1⟩

end Oct
end Go.Proofs.Ytohchhgheeolpaa

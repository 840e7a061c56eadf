/- The law QuotaOrder, walked. -/
import Derived.Test.YtdleoohhnldlgaaQuotaSums
import Derived.Test.YtdleoohhnldlgaaCut
namespace Go.Proofs.Ytdleoohhnldlgaa
open Go.RowKit
namespace Quota

theorem sumN_eq (l : List Int) : ∀ n, 0 ≤ n → n ≤ 9007199254740992 → sumN l n = if (∀ x ∈ l, 0 ≤ x) ∧ n + l.sum ≤ 9007199254740992 then n + l.sum else -1 := by
  induction l with
  | nil => intro n h0 h1; simp [sumN, h1]
  | cons x l ih =>
    intro n h0 h1
    have hs : (∀ y ∈ l, (0:Int) ≤ y) → 0 ≤ l.sum := fun h => by
      clear ih
      induction l with
      | nil => simp
      | cons y l ih2 =>
        have a := h y (by simp)
        have b := ih2 (fun z hz => h z (by simp [hz]))
        simp only [List.sum_cons]
        omega
    simp only [sumN, List.sum_cons, List.mem_cons, forall_eq_or_imp]
    by_cases ha : addB n x = true
    · have hb : 0 ≤ x ∧ n + x ≤ 9007199254740992 := by simp [addB, sumB] at ha; omega
      rw [if_pos ha, ih _ (by omega) hb.2]
      simp only [hb.1, true_and, Int.add_assoc]
    · rw [if_neg ha]
      have hb : ¬ (0 ≤ x ∧ x ≤ 9007199254740992 ∧ n + x ≤ 9007199254740992) := by
        intro ⟨a, b, c⟩
        exact ha (by simp [addB, sumB]; omega)
      rw [if_neg]
      rintro ⟨⟨h3, h4⟩, h5⟩
      have := hs h4
      exact hb ⟨h3, by omega, by omega⟩

theorem sum_reverse' (l : List Int) : l.reverse.sum = l.sum := by
  induction l with
  | nil => rfl
  | cons x l ih => simp [List.sum_append, ih]; omega
theorem sumN_reverse (l : List Int) : sumN l.reverse 0 = sumN l 0 := by
  rw [sumN_eq _ 0 (by omega) (by omega), sumN_eq _ 0 (by omega) (by omega), sum_reverse']
  simp

theorem sums_reverse (l : List Int) : sumsV l.reverse = sumsV l ∧ sumsB l.reverse = sumsB l := by
  have h : sumsB l.reverse = sumsB l := by unfold sumsB; rw [sumN_reverse]
  exact ⟨by unfold sumsV; rw [h, sumN_reverse], h⟩

theorem sum_nonneg (l : List Int) (h : ∀ y ∈ l, (0:Int) ≤ y) : 0 ≤ l.sum := by
  induction l with
  | nil => simp
  | cons y l ih2 =>
    have a := h y (by simp)
    have b := ih2 (fun z hz => h z (by simp [hz]))
    simp only [List.sum_cons]
    omega

theorem sumN_parts (l : List Int) (k : Nat) (h : 0 ≤ sumN l 0) :
    0 ≤ sumN (l.take k) 0 ∧ 0 ≤ sumN (l.drop k) 0 ∧ sumN (l.take k) 0 + sumN (l.drop k) 0 = sumN l 0 ∧ sumN l 0 ≤ 9007199254740992 := by
  rw [sumN_eq _ 0 (by omega) (by omega)] at h ⊢
  rw [sumN_eq _ 0 (by omega) (by omega), sumN_eq _ 0 (by omega) (by omega)]
  split at h
  · rename_i hc
    obtain ⟨h1, h2⟩ := hc
    have e : l.sum = (l.take k).sum + (l.drop k).sum := by
      conv => lhs; rw [← List.take_append_drop k l]
      rw [List.sum_append]
    have a : ∀ x ∈ l.take k, (0:Int) ≤ x := fun x hx => h1 x (List.mem_of_mem_take hx)
    have b : ∀ x ∈ l.drop k, (0:Int) ≤ x := fun x hx => h1 x (List.mem_of_mem_drop hx)
    have a' := sum_nonneg _ a
    have b' := sum_nonneg _ b
    rw [if_pos ⟨a, by omega⟩, if_pos ⟨b, by omega⟩, if_pos ⟨h1, h2⟩]
    omega
  · omega

theorem u29 : ElemOk Try.prog 29 3 8 := elemOk (z := .int .i64 0) Try.underlying29 (by kernel_rfl) rfl
theorem s3 : ∀ w, (sizeOf 3).run Try.prog w = .ok 1 w := fun _ => by kernel_rfl

set_option maxRecDepth 100000 in
set_option maxHeartbeats 1000000 in
theorem quotaOrder_walk (W : World) (v0 : Value) (l : List Int) (at' : Int) (_w0 : ∀ x ∈ l, (Lit.int .i64 x).wf = true) (r0 : Row W v0 (l.map (.int .i64))) (_w1 : (Lit.int .i64 at').wf = true) :
    Calls Try.prog 7 #[v0, .int .i64 at'] W fun e w' => e = .returned (.bool true) ∧ Keeps W w' := by
  obtain ⟨p, cap, rfl, hlc, hcm⟩ := r0.form
  have HR := Lib.hid r0
  clear r0 _w0
  rw [List.length_map] at hlc HR
  rw [List.length_map]
  unfold maxLen at hcm
  by_cases hout : 300 < l.length ∨ at' < 0 ∨ (l.length : Int) < at'
  · by_cases h1 : 300 < l.length <;> by_cases h2 : at' < 0 <;> by_cases h3 : (l.length : Int) < at'
    all_goals first | omega | skip
    all_goals
      clear hout
      go_enter Try.func7, Try.ntmps7
      go_wp2_with fail
      refine (awake_any _).mono ?_
      rintro e w1 ⟨rfl, hk1⟩
      have hK1 : Keeps W w1 := by
        refine Keeps.trans ?_ hk1
        repeat (first | exact Keeps.refl W | refine Keeps.alloc ?_ _ | refine Keeps.setCell ?_ (by simp; try omega) _ | refine Keeps.drewN ?_ _ | refine Keeps.drew ?_)
      clear hk1
      go_wp2_with fail
      go_ret
      exact ⟨rfl, hK1⟩
  · have h300 : ¬ 300 < l.length := by omega
    have h0 : 0 ≤ at' := by omega
    have h1 : at' ≤ l.length := by omega
    clear hout
    obtain ⟨k, rfl⟩ := Int.eq_ofNat_of_zero_le h0
    have hk : k ≤ l.length := by omega
    have hp : (l = [] ∧ ∃ b : Nat, b = 0) ∨ ∃ b off, p = some ⟨b, off, none⟩ ∧ Hid (∀ i x, l[i]? = some x → W.cell? ⟨b, off + i, none⟩ = some (.int .i64 x)) := by
      rcases HR.out with ⟨a0, cap', hv, hl, -, -⟩ | ⟨b, off, cap', hv, -, -, hcell⟩
      · exact .inl ⟨by simpa using hl, 0, rfl⟩
      · simp only [Value.slice.injEq] at hv
        exact .inr ⟨b, off, hv.1, Lib.hid fun i x hx => hcell i _ (by simp [hx])⟩
    have H1 : Hid (sumN l.reverse 0 = sumN l 0) := Lib.hid (sumN_reverse l)
    have H2 : Hid (0 ≤ sumN l 0 → 0 ≤ sumN (l.take k) 0 ∧ 0 ≤ sumN (l.drop k) 0 ∧ sumN (l.take k) 0 + sumN (l.drop k) 0 = sumN l 0 ∧ sumN l 0 ≤ 9007199254740992) := Lib.hid (sumN_parts l k)
    have ea : ∀ w, (Instr.slice 29 (.slice p l.length cap) none (some (.int .i64 (k : Int))) none).run Try.prog w = .ok (cutv p 0 k cap) w := fun w => run_cut_h w Try.underlying29 s3 p l.length cap k (by omega)
    have eb : ∀ w, (Instr.slice 29 (.slice p l.length cap) (some (.int .i64 (k : Int))) none none).run Try.prog w = .ok (cutv p k l.length cap) w := fun w => run_cut_l w Try.underlying29 s3 p l.length cap k hk
    have HA := Lib.hid (fun w (h : Row w (.slice p l.length cap) (l.map (.int .i64))) => (show Row w (cutv p 0 k cap) ((l.take k).map (.int .i64)) by simpa [List.map_take] using h.cut (lo := 0) (hi := k) (by omega) (by simpa using hk)))
    have HB := Lib.hid (fun w (h : Row w (.slice p l.length cap) (l.map (.int .i64))) => (show Row w (cutv p k l.length cap) ((l.drop k).map (.int .i64)) by simpa [List.map_drop, List.take_of_length_le] using h.cut (lo := k) (hi := l.length) hk (by simp)))
    rcases hp with ⟨hnil, b, hb0⟩ | ⟨b, off, rfl, HC⟩
    all_goals
      first | (have HN := Lib.hid hnil; clear hnil hb0) | skip
      go_enter Try.func7, Try.ntmps7
      go_wp2_with fail
      refine (awake_any _).mono ?_
      rintro e w1 ⟨rfl, hk1⟩
      have hK1 : Keeps W w1 := by
        refine Keeps.trans ?_ hk1
        repeat (first | exact Keeps.refl W | refine Keeps.alloc ?_ _ | refine Keeps.setCell ?_ (by simp; try omega) _ | refine Keeps.drewN ?_ _ | refine Keeps.drew ?_)
      clear hk1
      go_wp2_with (go_at_call 20; refine (sum_any _ l _ (HR.out.keeps hK1)).mono ?_; rintro e w' ⟨rfl, rfl⟩)
      go_loopw [7, 8] (fun v i wr => ∃ j : Nat, j ≤ l.length ∧ i = .int .i64 ((j : Int) - 1) ∧ Own wr W.heap.size 3 v ((l.drop j).reverse.map (.int .i64)) ∧ Keeps W wr) (fun _ i _ => (intOf i + 1).toNat)
      case atStart => exact ⟨l.length, Nat.le_refl _, rfl, by simpa using Own.nil _ _ _, hK1⟩
      case round =>
        obtain ⟨j, hj, rfl, hown, hKr⟩ := hrel
        clear hK1
        by_cases hpos : 1 ≤ j
        · first
          | (exfalso; have := HN.out; subst this; simp at hj; omega)
          | (obtain ⟨i, rfl⟩ : ∃ i, j = i + 1 := ⟨j - 1, by omega⟩
             have hi : i < l.length := by omega
             have hcell : wr.cell? ⟨b, off + i, none⟩ = some (.int .i64 l[i]) := keep1 hKr (HC.out i _ (by simp [hi]))
             have HD : Hid ((l.drop i).reverse = (l.drop (i + 1)).reverse ++ [l[i]]) := Lib.hid (by rw [List.drop_eq_getElem_cons hi]; simp)
             generalize l[i] = y at *
             have HO := Lib.hid hown
             clear hown
             have hsz := hKr.size
             rw [show (((i + 1 : Nat) : Int) - 1) = (i : Int) from by omega]
             go_wp2_with (at_builtin; refine wpList_app (base := W.heap.size) u29 rfl _ _ rfl _ _ _ [.int .i64 y] rfl rfl (HO.out.alloc _) (row_one rfl) (by simp [Value.oneCell']) (by simp; omega) (by omega) (by simp; omega) ?_; intro v' w2 ho2 hg2)
             go_roundw
             case rel => exact ⟨i, by omega, rfl, by rw [HD.out]; simpa using ho2, (hKr.alloc _).grown hg2 HO.out.base⟩
             case measure => simp [intOf] <;> omega)
        · obtain rfl : j = 0 := by omega
          simp only [List.drop_zero] at hown
          have HO := Lib.hid hown
          have H3 : Hid (sumsV l.reverse = sumsV l ∧ sumsB l.reverse = sumsB l) := Lib.hid (sums_reverse l)
          cases hs : sumsB l
          · have hv : sumsV l = 0 := by simp [sumsV, hs]
            have H3' : sumsV l.reverse = 0 ∧ sumsB l.reverse = false := by rw [H3.out.1, H3.out.2]; exact ⟨hv, hs⟩
            clear hown
            go_wp2_with (go_at_call 20; refine (sum_any _ l.reverse _ HO.out.row).mono ?_; rintro e w' ⟨rfl, rfl⟩)
            go_ret
            exact ⟨rfl, hKr⟩
          · have h2 := H2.out (by simpa [sumsB] using hs)
            have hv : sumsV l = sumN l 0 := by simp [sumsV, hs]
            have H3' : sumsV l.reverse = sumN l 0 ∧ sumsB l.reverse = true := by rw [H3.out.1, H3.out.2]; exact ⟨hv, hs⟩
            have t1 : sumsB (l.take k) = true := by simpa [sumsB] using h2.1
            have t2 : sumsV (l.take k) = sumN (l.take k) 0 := by simp [sumsV, t1]
            have t3 : sumsB (l.drop k) = true := by simpa [sumsB] using h2.2.1
            have t4 : sumsV (l.drop k) = sumN (l.drop k) 0 := by simp [sumsV, t3]
            have t5 : addB (sumN (l.take k) 0) (sumN (l.drop k) 0) = true := by simp [addB, sumB]; omega
            have t6 : addV (sumN (l.take k) 0) (sumN (l.drop k) 0) = sumN l 0 := by simp [addV, t5]; omega
            have t7 : sumN (l.take k) 0 ≤ sumN l 0 ∧ sumN (l.drop k) 0 ≤ sumN l 0 := by omega
            clear hown h2
            generalize sumN (l.take k) 0 = x1 at *
            generalize sumN (l.drop k) 0 = x2 at *
            generalize sumN l 0 = x0 at *
            go_wp2_with fail
            refine (sum_any _ l.reverse _ HO.out.row).mono ?_
            rintro e w' ⟨rfl, rfl⟩
            go_wp2_with fail
            refine (sum_any _ (l.take k) _ (HA.out _ (HR.out.keeps hKr))).mono ?_
            rintro e w' ⟨rfl, rfl⟩
            go_wp2_with fail
            refine (sum_any _ (l.drop k) _ (HB.out _ (HR.out.keeps hKr))).mono ?_
            rintro e w' ⟨rfl, rfl⟩
            go_wp2_with fail
            refine (add_any _ _ _).mono ?_
            rintro e w' ⟨rfl, rfl⟩
            go_wp2_with fail
            go_ret
            exact ⟨rfl, hKr⟩
end Quota
end Go.Proofs.Ytdleoohhnldlgaa

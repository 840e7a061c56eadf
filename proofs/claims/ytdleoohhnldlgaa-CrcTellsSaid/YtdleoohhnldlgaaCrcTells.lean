/- The law CrcTells, walked. -/
import Derived.Test.YtdleoohhnldlgaaCrcLaws
namespace Go.Proofs.Ytdleoohhnldlgaa
open Go.RowKit
namespace Crc
theorem u22 : ElemOk Try.prog 22 5 1 := elemOk (z := .int .u8 0) Try.underlying22 (by kernel_rfl) rfl

set_option maxHeartbeats 2000000 in
theorem crcTells_walk (W : World) (v0 : Value) (l : List UInt8) (a1 a2 : Int) (v3 : Value) (m : List UInt8) (r0 : Row W v0 (l.map u8v)) (_w1 : (Lit.int .i64 a1).wf = true) (w2 : (Lit.int .u8 a2).wf = true) (r3 : Row W v3 (m.map u8v)) :
    Calls Try.prog 4 #[v0, .int .i64 a1, .int .u8 a2, v3] W fun e w' => e = .returned (.bool true) ∧ Keeps W w' := by
  obtain ⟨y, rfl⟩ := u8_nat w2
  clear w2
  obtain ⟨p, cap, rfl, hlc, hcm⟩ := r0.form
  obtain ⟨p3, cap3, rfl, hlc3, hcm3⟩ := r3.form
  have HR := Lib.hid r0
  have HR3 := Lib.hid r3
  clear r0 r3
  rw [List.length_map] at hlc HR hlc3 HR3
  rw [List.length_map, List.length_map]
  unfold maxLen at hcm hcm3
  by_cases hout : 3000 < l.length ∨ 3000 < m.length ∨ a1 < 0 ∨ (l.length : Int) ≤ a1 ∨ ((y.toNat : Int) == 0) = true
  · cases h5 : ((y.toNat : Int) == 0) <;> by_cases h1 : 3000 < l.length <;> by_cases h2 : 3000 < m.length <;> by_cases h3 : a1 < 0 <;> by_cases h4 : (l.length : Int) ≤ a1
    all_goals first | (exfalso; simp [h5] at hout; omega) | skip
    all_goals
      clear hout
      go_enter Try.func4, Try.ntmps4
      go_wp2_with fail
      refine (awake_any _).mono ?_
      rintro e w1 ⟨rfl, hk1⟩
      have hK1 : Keeps W w1 := by
        refine Keeps.trans ?_ hk1
        repeat (first | exact Keeps.refl W | refine Keeps.alloc ?_ _ | refine Keeps.setCell ?_ (by simp; try omega) _ | refine Keeps.drewN ?_ _ | refine Keeps.drew ?_)
      clear hk1
      go_wp2_with fail
      go_ret
      exact ⟨rfl, hK1⟩
  · have g1 : ¬ 3000 < l.length := fun h => hout (.inl h)
    have g2 : ¬ 3000 < m.length := fun h => hout (.inr (.inl h))
    have g3 : 0 ≤ a1 := by have : ¬ a1 < 0 := fun h => hout (.inr (.inr (.inl h))); omega
    have g4 : ¬ (l.length : Int) ≤ a1 := fun h => hout (.inr (.inr (.inr (.inl h))))
    have g5 : ((y.toNat : Int) == 0) = false := by cases h : ((y.toNat : Int) == 0) <;> simp_all
    clear hout
    obtain ⟨k, rfl⟩ := Int.eq_ofNat_of_zero_le g3
    have hk : k < l.length := by omega
    have hy : y ≠ 0 := by intro h; subst h; simp at g5
    have hpl := tells_plain l m k y hk hy
    have hx8 : bits BinOp.xor IntKind.u8 (l[k].toNat : Int) (y.toNat : Int) = (((l[k] ^^^ y).toNat : Nat) : Int) := by
      rw [u8_xor_nat _ _ (byte_lt _) (byte_lt _), UInt8.toNat_xor]
    have H1 : Hid (((((more 0 (l.set k (l[k] ^^^ y)) : Nat) : Int) != ((more 0 l : Nat) : Int)) = true)) := Lib.hid (by rw [bne_iff_ne]; intro h; exact hpl.1 (by omega))
    have H2 : Hid (((((more (more 0 (l.set k (l[k] ^^^ y))) m : Nat) : Int) != ((more (more 0 l) m : Nat) : Int)) = true)) := Lib.hid (by rw [bne_iff_ne]; intro h; exact hpl.2 (by omega))
    clear hpl
    have HL : Hid ((l.map u8v).set k (u8v (l[k] ^^^ y)) = (l.set k (l[k] ^^^ y)).map u8v) := Lib.hid (by rw [List.map_set])
    have HI : Hid ((l.map u8v)[k]? = some (.int .u8 (l[k].toNat : Int))) := Lib.hid (by simp [hk, u8v])
    have hlen : (l.set k (l[k] ^^^ y)).length = l.length := List.length_set
    generalize l[k] ^^^ y = x' at *
    generalize l[k] = x at *
    generalize hc' : l.set k x' = l' at *
    clear hc'
    obtain ⟨b, off, rfl, HB⟩ : ∃ b off, p = some ⟨b, off, none⟩ ∧ Hid (W.cell? ⟨b, off + k, none⟩ = some (.int .u8 (x.toNat : Int))) := by
      rcases HR.out with ⟨a0, cap', hv, hl, -, -⟩ | ⟨b, off, cap', hv, -, -, hcell⟩
      · exfalso
        have : l = [] := by simpa using hl
        subst this
        simp at hk
      · simp only [Value.slice.injEq] at hv
        exact ⟨b, off, hv.1, Lib.hid (hcell k _ HI.out)⟩
    go_enter Try.func4, Try.ntmps4
    go_wp2_with fail
    refine (awake_any _).mono ?_
    rintro e w1 ⟨rfl, hk1⟩
    have hK1 : Keeps W w1 := by
      refine Keeps.trans ?_ hk1
      repeat (first | exact Keeps.refl W | refine Keeps.alloc ?_ _ | refine Keeps.setCell ?_ (by simp; try omega) _ | refine Keeps.drewN ?_ _ | refine Keeps.drew ?_)
    clear hk1
    have hsz := hK1.size
    have HH : Hid (∀ w2 v', Own w2 W.heap.size 5 v' ([] ++ l.map u8v) → ∃ g cg, v' = .slice (some ⟨g, 0, none⟩) l.length cg ∧ W.heap.size ≤ g ∧ l.length ≤ cg ∧ cg ≤ maxLen) := Lib.hid (fun w2 v' h => by
      rw [List.nil_append] at h
      have := h.form (by rw [List.length_map]; omega)
      rw [List.length_map] at this
      exact this)
    go_wp2_with (at_builtin; refine wpList_app (base := W.heap.size) u22 rfl _ _ rfl _ _ [] (l.map u8v) rfl rfl (Own.empty _ rfl hsz) ((HR.out.keeps hK1).keeps ((Keeps.refl _).alloc _)) (oneCell_map_u8 _) (by simp; omega) (by omega) (by simp; omega) ?_; intro v' w2 ho2 hg2; obtain ⟨g, cg, rfl, hbg, hcl, hcm2⟩ := HH.out _ _ ho2; rw [List.nil_append] at ho2; have hK2 : Keeps W w2 := (hK1.alloc _).grown hg2 (Own.base (Own.empty (e := 5) W.heap.size rfl hsz)); have hc2 : w2.cell? ⟨g, k, none⟩ = some (.int .u8 (x.toNat : Int)) := ho2.cellAt k _ HI.out; have hf2 : w2.frozen? ⟨g, k, none⟩ = false := Own.frozenAt (by rw [List.length_map]; exact ho2) k; have hcr : w2.cell? ⟨b, off + k, none⟩ = some (.int .u8 (x.toNat : Int)) := keep1 hK2 HB.out; have HO2 := Lib.hid ho2; clear ho2 hK1 hg2; unfold maxLen at hcm2)
    generalize hW3 : World.setCell _ _ _ = w3
    have hK3 : Keeps W w3 := by rw [← hW3]; exact hK2.setCell hbg _
    have HC : Hid (Row w3 (.slice (some ⟨g, 0, none⟩) l.length cg) (l'.map u8v)) := Lib.hid (by
      rw [← HL.out, ← hW3]
      have h1 : Own w2 W.heap.size 5 (.slice (some ⟨g, 0, none⟩) (l.map u8v).length cg) (l.map u8v) := by rw [List.length_map]; exact HO2.out
      have := (h1.stored k (u8v x')).row
      rw [List.length_map] at this
      exact this)
    have HB3 := Lib.hid (HR.out.keeps hK3)
    have HM3 := Lib.hid (HR3.out.keeps hK3)
    clear hW3 hK2 hc2 hf2 hcr hx8 hbg
    go_wp2_with fail
    refine (of_any _ l' _ HC.out).mono ?_
    rintro e w4 ⟨rfl, hk4⟩
    go_wp2_with fail
    refine (of_any _ l _ (HB3.out.keeps hk4)).mono ?_
    rintro e w5 ⟨rfl, hk5⟩
    have h1 := H1.out
    go_wp2_with fail
    refine (of_any _ l' _ ((HC.out.keeps hk4).keeps hk5)).mono ?_
    rintro e w6 ⟨rfl, hk6⟩
    go_wp2_with fail
    refine (more_any _ (more_lt _ _) _ m _ (((HM3.out.keeps hk4).keeps hk5).keeps hk6)).mono ?_
    rintro e w7 ⟨rfl, hk7⟩
    go_wp2_with fail
    refine (of_any _ l _ ((((HB3.out.keeps hk4).keeps hk5).keeps hk6).keeps hk7)).mono ?_
    rintro e w8 ⟨rfl, hk8⟩
    go_wp2_with fail
    refine (more_any _ (more_lt _ _) _ m _ (((((HM3.out.keeps hk4).keeps hk5).keeps hk6).keeps hk7).keeps hk8)).mono ?_
    rintro e w9 ⟨rfl, hk9⟩
    have h2 := H2.out
    go_wp2_with fail
    go_ret
    exact ⟨rfl, (((((hK3.trans hk4).trans hk5).trans hk6).trans hk7).trans hk8).trans hk9⟩
end Crc
end Go.Proofs.Ytdleoohhnldlgaa

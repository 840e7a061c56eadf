/- The reference's Read of records. Printed by gen_recref4.py. -/
import Derived.Test.YtekkjhjaacjhnaaRecRef3
namespace Go.Proofs.Ytekkjhjaacjhnaa
open Go.RowKit
namespace Rcd
open Oct Frm

/-- a record of a payload (its data in old memory), and an error -/
def RReadDid (W : World) (v : Value) (kind : Int) (l : List UInt8) (e : Ending) (w' : World) : Prop :=
  ∃ p n c, e = .returned (.tuple #[.agg (recA (readR kind l) (.slice p n c)), .int .i64 (readE kind l)]) ∧ Row W (.slice p n c) ((readR kind l).data.map u8v) ∧ (∀ base, Piece W base 5 v (l.map u8v) → Piece W base 5 (.slice p n c) ((readR kind l).data.map u8v)) ∧ Keeps W w'
theorem pieceCut {w : World} {base : Nat} {e : TypeId} {l : List Value} {p : Option Addr} {n cap lo : Nat} (h : Piece w base e (.slice p n cap) l) (hn : n = l.length) (hlo : lo ≤ n) : Piece w base e (cutv p lo n cap) (l.drop lo) := by
  subst hn
  rcases h with ⟨a0, cap', hv, rfl, h3, h4⟩ | ⟨g, off, cap', cs, fr, hv, h0, h1, h2, h3, h4, h5⟩
  · simp at hlo
    subst hlo
    simp only [Value.slice.injEq] at hv
    obtain ⟨rfl, -, rfl⟩ := hv
    refine .inl ⟨if cap = 0 then p else p.map (·.add 0), cap, by simp [cutv], by simp, h3, fun h => ?_⟩
    split at h
    · assumption
    · exact h4 (by simpa using h)
  · simp only [Value.slice.injEq] at hv
    obtain ⟨rfl, -, rfl⟩ := hv
    by_cases he : lo = l.length
    · subst he
      by_cases hc : cap = l.length
      · exact .inl ⟨some ⟨g, off, none⟩, 0, by simp [cutv, hc], by simp, Nat.zero_le _, fun _ => rfl⟩
      · exact .inl ⟨_, cap - l.length, by simp [cutv, hc]; rfl, by simp, by omega, fun h => by simp at h⟩
    · refine .inr ⟨g, off + lo, cap - lo, cs, fr, ?_, by simp; omega, h1, by simp; omega, by omega, h4, fun i x hx => ?_⟩
      · have : ¬ cap = lo := fun e => he (by omega)
        simp [cutv, this, Go.WideShapes.add_plain]
      · rw [Nat.add_assoc]
        exact h5 (lo + i) x (by simpa using hx)
theorem rread_fail {W w' : World} {v : Value} {kind er : Int} {l : List UInt8} (h : readE kind l = er) (hn : er ≠ 0) (hK : Keeps W w') : RReadDid W v kind l (.returned (.tuple #[.agg zero12, .int .i64 er])) w' := by
  have hr : readR kind l = rec0 := by unfold readR; rw [if_neg (by rw [h]; exact hn)]
  exact ⟨none, 0, 0, by rw [hr, h]; rfl, by rw [hr]; exact row_nil _, fun base _ => by rw [hr]; exact Piece.nil _ _ _, hK⟩

set_option maxRecDepth 100000 in
set_option maxHeartbeats 8000000 in
theorem rRead_any (kind : Int) (v : Value) (l : List UInt8) (w : World) (hr : Row w v (l.map u8v)) :
    Calls Try.prog 44 #[.int .i64 kind, v] w (RReadDid w v kind l) := by
  obtain ⟨pv, cv, rfl, hc1, hc2⟩ := hr.formB
  have HR := Lib.hid hr
  have CG := Lib.hid (fun a k w' (hk : Keeps w w') => rget_any (.slice pv l.length cv) l a k w' (hr.keeps hk))
  clear hr
  go_enter Try.func44, Try.ntmps44
  go_upto_region 2 with fail
  generalize hW : World.alloc (World.alloc w _) _ = w1
  have HK := Lib.hid (show Keeps w w1 from by rw [← hW]; exact ((Keeps.refl _).alloc _).alloc _)
  have HZ := Lib.hid (show Blk w1 w.heap.size 30 zero12 from by rw [← hW]; exact (Blk.new _ _ _ rfl).alloc _)
  have HS := Lib.hid (show Blk w1 (w.heap.size + 1) 3 #[.int .i64 0, .int .i64 14, .int .i64 29, .int .i64 4, .int .i64 5, .int .i64 4, .int .i64 4] from by rw [← hW]; exact Blk.new _ _ _ (by rw [asz]))
  clear hW
  obtain ⟨Q, hQ⟩ : ∃ Q, Q = w.heap.size := ⟨_, rfl⟩
  rw [← hQ] at HZ HS ⊢
  have HQ := Lib.hid hQ
  clear hQ
  have FAILW : True := trivial
  by_cases klo : kind < 1
  · have e1 : decide (kind < 1) = true := decide_eq_true klo
    have HF := Lib.hid (fun w' k => rread_fail (W := w) (v := .slice pv l.length cv) (w' := w') (kind := kind) (l := l) (er := 16) (by unfold readE; rw [if_pos (.inl klo)]) (by decide) k)
    go_wp2_with (refine wpList_st (ds := zero12) rfl recM HZ.out rfl zero12_one _ _ rfl rfl rfl rfl ?_; intro w6 hB6 hM6)
    have HLd := Lib.hid (ld_run (P := Try.prog) recM hB6)
    have HKf := Lib.hid (hM6.keeps HK.out (fun x hx => by have := HQ.out; omega))
    clear hB6 hM6
    exact bodyPost_ret (v := .tuple #[.agg zero12, .int .i64 16]) (by simp [results, Try.results44, Sem.run_bind, Sem.run_pure, Result.andThen_ok, Act.put, asAddr, HLd.out]) rfl (HF.out _ HKf.out)
  by_cases khi : 6 < kind
  · have e1 : decide (kind < 1) = false := decide_eq_false klo
    have e2 : decide (6 < kind) = true := decide_eq_true khi
    have HF := Lib.hid (fun w' k => rread_fail (W := w) (v := .slice pv l.length cv) (w' := w') (kind := kind) (l := l) (er := 16) (by unfold readE; rw [if_pos (.inr khi)]) (by decide) k)
    go_wp2_with (refine wpList_st (ds := zero12) rfl recM HZ.out rfl zero12_one _ _ rfl rfl rfl rfl ?_; intro w6 hB6 hM6)
    have HLd := Lib.hid (ld_run (P := Try.prog) recM hB6)
    have HKf := Lib.hid (hM6.keeps HK.out (fun x hx => by have := HQ.out; omega))
    clear hB6 hM6
    exact bodyPost_ret (v := .tuple #[.agg zero12, .int .i64 16]) (by simp [results, Try.results44, Sem.run_bind, Sem.run_pure, Result.andThen_ok, Act.put, asAddr, HLd.out]) rfl (HF.out _ HKf.out)
  by_cases k1 : kind = 1
  · subst k1
    clear klo khi
    have hE : readE 1 l = if l.length < 14 then 2 else if 14 < l.length ∧ ((1 : Int) ≠ 6) then 3 else if 14 + 32768 < l.length then 4 else if within (mkR 1 l) = false then 1 else 0 := by unfold readE; rw [if_neg (by omega)]; rfl
    have hs : w1.cell? ⟨Q + 1, 1, none⟩ = some (.int .i64 14) := by rw [HS.out.cell]; rfl
    by_cases h1 : l.length < 14
    · have e1 : decide ((l.length : Int) < 14) = true := decide_eq_true (by omega)
      have HF := Lib.hid (fun w' k => rread_fail (W := w) (v := .slice pv l.length cv) (w' := w') (kind := 1) (l := l) (er := 2) (by rw [hE, if_pos h1]) (by decide) k)
      go_wp2_with (refine wpList_st (ds := zero12) rfl recM HZ.out rfl zero12_one _ _ rfl rfl rfl rfl ?_; intro w6 hB6 hM6)
      have HLd := Lib.hid (ld_run (P := Try.prog) recM hB6)
      have HKf := Lib.hid (hM6.keeps HK.out (fun x hx => by have := HQ.out; omega))
      clear hB6 hM6
      exact bodyPost_ret (v := .tuple #[.agg zero12, .int .i64 2]) (by simp [results, Try.results44, Sem.run_bind, Sem.run_pure, Result.andThen_ok, Act.put, asAddr, HLd.out]) rfl (HF.out _ HKf.out)
    have e1 : decide ((l.length : Int) < 14) = false := decide_eq_false (by omega)
    by_cases h2 : 14 < l.length
    · have e2 : decide (14 < (l.length : Int)) = true := decide_eq_true (by omega)
      have HF := Lib.hid (fun w' k => rread_fail (W := w) (v := .slice pv l.length cv) (w' := w') (kind := 1) (l := l) (er := 3) (by rw [hE, if_neg h1, if_pos ⟨h2, by decide⟩]) (by decide) k)
      go_wp2_with (refine wpList_st (ds := zero12) rfl recM HZ.out rfl zero12_one _ _ rfl rfl rfl rfl ?_; intro w6 hB6 hM6)
      have HLd := Lib.hid (ld_run (P := Try.prog) recM hB6)
      have HKf := Lib.hid (hM6.keeps HK.out (fun x hx => by have := HQ.out; omega))
      clear hB6 hM6
      exact bodyPost_ret (v := .tuple #[.agg zero12, .int .i64 3]) (by simp [results, Try.results44, Sem.run_bind, Sem.run_pure, Result.andThen_ok, Act.put, asAddr, HLd.out]) rfl (HF.out _ HKf.out)
    have e2 : decide (14 < (l.length : Int)) = false := decide_eq_false (by omega)
    have e3 : decide (32782 < (l.length : Int)) = false := decide_eq_false (by omega)
    have HE : Hid (readE 1 l = if within (mkR 1 l) = false then 1 else 0) := Lib.hid (by rw [hE, if_neg h1, if_neg (fun h => h2 h.1), if_neg (by omega)])
    clear h1 h2 hE
    go_upto_region 12 with fail
    generalize hW : World.alloc w1 _ = z0
    have HB0 := Lib.hid (show Blk z0 w1.heap.size 30 (cs0 1 (.slice none 0 0)) from by rw [← hW]; exact Blk.new _ _ _ rfl)
    have HZ0 := Lib.hid (show Blk z0 Q 30 zero12 from by rw [← hW]; exact HZ.out.alloc _)
    have HK0 := Lib.hid (show Keeps w z0 from by rw [← hW]; exact HK.out.alloc _)
    have HSZ := Lib.hid (show Q + 1 < w1.heap.size from HS.out.lt)
    clear hW hs
    generalize w1.heap.size = b at *
    have hx : z0.cell? ⟨b, 1, none⟩ = some (.int .i64 0) := by rw [HB0.out.cell]; rfl
    have hy : z0.frozen? ⟨b, 1, none⟩ = false := HB0.out.frozen _
    go_wp2_with fail
    refine (CG.out 0 2 _ HK0.out).mono ?_
    rintro e z' ⟨rfl, rfl⟩
    go_upto_region 15 with fail
    generalize hW : World.setCell z0 ⟨b, 1, none⟩ (.int .i64 (gI l 0 2)) = z1
    have HB1 := Lib.hid (show Blk z1 b 30 ((cs0 1 (.slice none 0 0)).setIfInBounds 1 (.int .i64 (gI l 0 2))) from by rw [← hW]; exact HB0.out.set_ 1 _)
    have HZ1 := Lib.hid (show Blk z1 Q 30 zero12 from by rw [← hW]; exact HZ0.out.far (p := ⟨b, 1, none⟩) (by show Q ≠ b; have := HSZ.out; omega) _)
    have HK1 := Lib.hid (show Keeps w z1 from by rw [← hW]; exact HK0.out.setCell (p := ⟨b, 1, none⟩) (by show _ ≤ b; have := HSZ.out; have := HQ.out; omega) _)
    clear hW hx hy HB0 HZ0 HK0
    have hx : z1.cell? ⟨b, 2, none⟩ = some (.int .i64 0) := by rw [HB1.out.cell]; rfl
    have hy : z1.frozen? ⟨b, 2, none⟩ = false := HB1.out.frozen _
    go_wp2_with fail
    refine (CG.out 2 4 _ HK1.out).mono ?_
    rintro e z' ⟨rfl, rfl⟩
    go_upto_region 16 with fail
    generalize hW : World.setCell z1 ⟨b, 2, none⟩ (.int .i64 (gI l 2 4)) = z2
    have HB2 := Lib.hid (show Blk z2 b 30 (((cs0 1 (.slice none 0 0)).setIfInBounds 1 (.int .i64 (gI l 0 2))).setIfInBounds 2 (.int .i64 (gI l 2 4))) from by rw [← hW]; exact HB1.out.set_ 2 _)
    have HZ2 := Lib.hid (show Blk z2 Q 30 zero12 from by rw [← hW]; exact HZ1.out.far (p := ⟨b, 2, none⟩) (by show Q ≠ b; have := HSZ.out; omega) _)
    have HK2 := Lib.hid (show Keeps w z2 from by rw [← hW]; exact HK1.out.setCell (p := ⟨b, 2, none⟩) (by show _ ≤ b; have := HSZ.out; have := HQ.out; omega) _)
    clear hW hx hy HB1 HZ1 HK1
    have hx : z2.cell? ⟨b, 3, none⟩ = some (.int .i64 0) := by rw [HB2.out.cell]; rfl
    have hy : z2.frozen? ⟨b, 3, none⟩ = false := HB2.out.frozen _
    go_wp2_with fail
    refine (CG.out 6 4 _ HK2.out).mono ?_
    rintro e z' ⟨rfl, rfl⟩
    go_upto_region 17 with fail
    generalize hW : World.setCell z2 ⟨b, 3, none⟩ (.int .i64 (gI l 6 4)) = z3
    have HB3 := Lib.hid (show Blk z3 b 30 ((((cs0 1 (.slice none 0 0)).setIfInBounds 1 (.int .i64 (gI l 0 2))).setIfInBounds 2 (.int .i64 (gI l 2 4))).setIfInBounds 3 (.int .i64 (gI l 6 4))) from by rw [← hW]; exact HB2.out.set_ 3 _)
    have HZ3 := Lib.hid (show Blk z3 Q 30 zero12 from by rw [← hW]; exact HZ2.out.far (p := ⟨b, 3, none⟩) (by show Q ≠ b; have := HSZ.out; omega) _)
    have HK3 := Lib.hid (show Keeps w z3 from by rw [← hW]; exact HK2.out.setCell (p := ⟨b, 3, none⟩) (by show _ ≤ b; have := HSZ.out; have := HQ.out; omega) _)
    clear hW hx hy HB2 HZ2 HK2
    have hx : z3.cell? ⟨b, 4, none⟩ = some (.int .i64 0) := by rw [HB3.out.cell]; rfl
    have hy : z3.frozen? ⟨b, 4, none⟩ = false := HB3.out.frozen _
    go_wp2_with fail
    refine (CG.out 10 4 _ HK3.out).mono ?_
    rintro e z' ⟨rfl, rfl⟩
    go_upto_region 35 with fail
    generalize hW : World.setCell z3 ⟨b, 4, none⟩ (.int .i64 (gI l 10 4)) = z4
    have HB4 := Lib.hid (show Blk z4 b 30 (((((cs0 1 (.slice none 0 0)).setIfInBounds 1 (.int .i64 (gI l 0 2))).setIfInBounds 2 (.int .i64 (gI l 2 4))).setIfInBounds 3 (.int .i64 (gI l 6 4))).setIfInBounds 4 (.int .i64 (gI l 10 4))) from by rw [← hW]; exact HB3.out.set_ 4 _)
    have HZ4 := Lib.hid (show Blk z4 Q 30 zero12 from by rw [← hW]; exact HZ3.out.far (p := ⟨b, 4, none⟩) (by show Q ≠ b; have := HSZ.out; omega) _)
    have HK4 := Lib.hid (show Keeps w z4 from by rw [← hW]; exact HK3.out.setCell (p := ⟨b, 4, none⟩) (by show _ ≤ b; have := HSZ.out; have := HQ.out; omega) _)
    clear hW hx hy HB3 HZ3 HK3
    have HB : Hid (Blk z4 b 30 (recA (mkR 1 l) (.slice none 0 0))) := Lib.hid HB4.out
    have HM : Hid (Row w (.slice none 0 0) ((mkR 1 l).data.map u8v)) := Lib.hid (row_nil _)
    have HMP : Hid (∀ base, Piece w base 5 (.slice pv l.length cv) (l.map u8v) → Piece w base 5 (.slice none 0 0) ((mkR 1 l).data.map u8v)) := Lib.hid (fun base _ => Piece.nil _ _ _)
    have HWI := Lib.hid (within_any (mkR 1 l) (.slice none 0 0) z4 (HM.out.keeps HK4.out) (show (1 : Int) ≤ 1 ∧ (1 : Int) ≤ 6 by decide))
    have HRR : Hid (readE 1 l = 0 → readR 1 l = mkR 1 l) := Lib.hid (fun h => by unfold readR; rw [if_pos h])
    clear HB4
    generalize mkR 1 l = rr at *
    go_wp2_with (refine wpList_ld rfl recM HB.out _ rfl rfl ?_)
    refine HWI.out.mono ?_
    rintro e x1 ⟨rfl, hkx⟩
    have HBx := Lib.hid (HB.out.keeps hkx)
    have HZx := Lib.hid (HZ4.out.keeps hkx)
    have HKx := Lib.hid (HK4.out.trans hkx)
    clear HB HZ4 HK4 HWI hkx
    generalize within rr = wi at *
    cases wi with
    | false =>
      have HE1 : Hid (readE 1 l = 1) := Lib.hid (HE.out.trans (if_pos (by simp)))
      have HF := Lib.hid (fun w' k => rread_fail (W := w) (v := .slice pv l.length cv) (w' := w') (kind := 1) (l := l) (er := 1) HE1.out (by decide) k)
      go_wp2_with (refine wpList_st (ds := zero12) rfl recM HZx.out rfl zero12_one _ _ rfl rfl rfl rfl ?_; intro w6 hB6 hM6)
      have HLd := Lib.hid (ld_run (P := Try.prog) recM hB6)
      have HKf := Lib.hid (hM6.keeps HKx.out (fun x hx => by have := HQ.out; omega))
      clear hB6 hM6
      exact bodyPost_ret (v := .tuple #[.agg zero12, .int .i64 1]) (by simp [results, Try.results44, Sem.run_bind, Sem.run_pure, Result.andThen_ok, Act.put, asAddr, HLd.out]) rfl (HF.out _ HKf.out)
    | true =>
      have HE1 : Hid (readE 1 l = 0) := Lib.hid (HE.out.trans (if_neg (by simp)))
      have HR1 := Lib.hid (HRR.out HE1.out)
      go_wp2_with (first
        | refine wpList_ld rfl recM HBx.out _ rfl rfl ?_
        | refine wpList_st (ds := recA rr (.slice none 0 0)) rfl recM HZx.out rfl (recA_one _ _ _ _) _ _ rfl rfl rfl rfl ?_; intro w6 hB6 hM6)
      have HLd := Lib.hid (ld_run (P := Try.prog) recM hB6)
      have HKf := Lib.hid (hM6.keeps HKx.out (fun x hx => by have := HQ.out; omega))
      clear hB6 hM6
      exact bodyPost_ret (v := .tuple #[.agg (recA rr (.slice none 0 0)), .int .i64 0]) (by simp [results, Try.results44, Sem.run_bind, Sem.run_pure, Result.andThen_ok, Act.put, asAddr, HLd.out]) rfl ⟨_, _, _, by rw [HR1.out, HE1.out], by rw [HR1.out]; exact HM.out, by rw [HR1.out]; exact HMP.out, HKf.out⟩
  by_cases k2 : kind = 2
  · subst k2
    clear klo khi
    have hE : readE 2 l = if l.length < 29 then 2 else if 29 < l.length ∧ ((2 : Int) ≠ 6) then 3 else if 29 + 32768 < l.length then 4 else if within (mkR 2 l) = false then 1 else 0 := by unfold readE; rw [if_neg (by omega)]; rfl
    have hs : w1.cell? ⟨Q + 1, 2, none⟩ = some (.int .i64 29) := by rw [HS.out.cell]; rfl
    by_cases h1 : l.length < 29
    · have e1 : decide ((l.length : Int) < 29) = true := decide_eq_true (by omega)
      have HF := Lib.hid (fun w' k => rread_fail (W := w) (v := .slice pv l.length cv) (w' := w') (kind := 2) (l := l) (er := 2) (by rw [hE, if_pos h1]) (by decide) k)
      go_wp2_with (refine wpList_st (ds := zero12) rfl recM HZ.out rfl zero12_one _ _ rfl rfl rfl rfl ?_; intro w6 hB6 hM6)
      have HLd := Lib.hid (ld_run (P := Try.prog) recM hB6)
      have HKf := Lib.hid (hM6.keeps HK.out (fun x hx => by have := HQ.out; omega))
      clear hB6 hM6
      exact bodyPost_ret (v := .tuple #[.agg zero12, .int .i64 2]) (by simp [results, Try.results44, Sem.run_bind, Sem.run_pure, Result.andThen_ok, Act.put, asAddr, HLd.out]) rfl (HF.out _ HKf.out)
    have e1 : decide ((l.length : Int) < 29) = false := decide_eq_false (by omega)
    by_cases h2 : 29 < l.length
    · have e2 : decide (29 < (l.length : Int)) = true := decide_eq_true (by omega)
      have HF := Lib.hid (fun w' k => rread_fail (W := w) (v := .slice pv l.length cv) (w' := w') (kind := 2) (l := l) (er := 3) (by rw [hE, if_neg h1, if_pos ⟨h2, by decide⟩]) (by decide) k)
      go_wp2_with (refine wpList_st (ds := zero12) rfl recM HZ.out rfl zero12_one _ _ rfl rfl rfl rfl ?_; intro w6 hB6 hM6)
      have HLd := Lib.hid (ld_run (P := Try.prog) recM hB6)
      have HKf := Lib.hid (hM6.keeps HK.out (fun x hx => by have := HQ.out; omega))
      clear hB6 hM6
      exact bodyPost_ret (v := .tuple #[.agg zero12, .int .i64 3]) (by simp [results, Try.results44, Sem.run_bind, Sem.run_pure, Result.andThen_ok, Act.put, asAddr, HLd.out]) rfl (HF.out _ HKf.out)
    have e2 : decide (29 < (l.length : Int)) = false := decide_eq_false (by omega)
    have e3 : decide (32797 < (l.length : Int)) = false := decide_eq_false (by omega)
    have HE : Hid (readE 2 l = if within (mkR 2 l) = false then 1 else 0) := Lib.hid (by rw [hE, if_neg h1, if_neg (fun h => h2 h.1), if_neg (by omega)])
    clear h1 h2 hE
    go_upto_region 12 with fail
    generalize hW : World.alloc w1 _ = z0
    have HB0 := Lib.hid (show Blk z0 w1.heap.size 30 (cs0 2 (.slice none 0 0)) from by rw [← hW]; exact Blk.new _ _ _ rfl)
    have HZ0 := Lib.hid (show Blk z0 Q 30 zero12 from by rw [← hW]; exact HZ.out.alloc _)
    have HK0 := Lib.hid (show Keeps w z0 from by rw [← hW]; exact HK.out.alloc _)
    have HSZ := Lib.hid (show Q + 1 < w1.heap.size from HS.out.lt)
    clear hW hs
    generalize w1.heap.size = b at *
    have hx : z0.cell? ⟨b, 5, none⟩ = some (.int .i64 0) := by rw [HB0.out.cell]; rfl
    have hy : z0.frozen? ⟨b, 5, none⟩ = false := HB0.out.frozen _
    go_wp2_with fail
    refine (CG.out 0 4 _ HK0.out).mono ?_
    rintro e z' ⟨rfl, rfl⟩
    go_upto_region 20 with fail
    generalize hW : World.setCell z0 ⟨b, 5, none⟩ (.int .i64 (gI l 0 4)) = z1
    have HB1 := Lib.hid (show Blk z1 b 30 ((cs0 2 (.slice none 0 0)).setIfInBounds 5 (.int .i64 (gI l 0 4))) from by rw [← hW]; exact HB0.out.set_ 5 _)
    have HZ1 := Lib.hid (show Blk z1 Q 30 zero12 from by rw [← hW]; exact HZ0.out.far (p := ⟨b, 5, none⟩) (by show Q ≠ b; have := HSZ.out; omega) _)
    have HK1 := Lib.hid (show Keeps w z1 from by rw [← hW]; exact HK0.out.setCell (p := ⟨b, 5, none⟩) (by show _ ≤ b; have := HSZ.out; have := HQ.out; omega) _)
    clear hW hx hy HB0 HZ0 HK0
    have hx : z1.cell? ⟨b, 6, none⟩ = some (.int .i64 0) := by rw [HB1.out.cell]; rfl
    have hy : z1.frozen? ⟨b, 6, none⟩ = false := HB1.out.frozen _
    go_wp2_with fail
    refine (CG.out 4 8 _ HK1.out).mono ?_
    rintro e z' ⟨rfl, rfl⟩
    go_upto_region 21 with fail
    generalize hW : World.setCell z1 ⟨b, 6, none⟩ (.int .i64 (gI l 4 8)) = z2
    have HB2 := Lib.hid (show Blk z2 b 30 (((cs0 2 (.slice none 0 0)).setIfInBounds 5 (.int .i64 (gI l 0 4))).setIfInBounds 6 (.int .i64 (gI l 4 8))) from by rw [← hW]; exact HB1.out.set_ 6 _)
    have HZ2 := Lib.hid (show Blk z2 Q 30 zero12 from by rw [← hW]; exact HZ1.out.far (p := ⟨b, 6, none⟩) (by show Q ≠ b; have := HSZ.out; omega) _)
    have HK2 := Lib.hid (show Keeps w z2 from by rw [← hW]; exact HK1.out.setCell (p := ⟨b, 6, none⟩) (by show _ ≤ b; have := HSZ.out; have := HQ.out; omega) _)
    clear hW hx hy HB1 HZ1 HK1
    have hx : z2.cell? ⟨b, 7, none⟩ = some (.int .i64 0) := by rw [HB2.out.cell]; rfl
    have hy : z2.frozen? ⟨b, 7, none⟩ = false := HB2.out.frozen _
    go_wp2_with fail
    refine (CG.out 12 1 _ HK2.out).mono ?_
    rintro e z' ⟨rfl, rfl⟩
    go_upto_region 22 with fail
    generalize hW : World.setCell z2 ⟨b, 7, none⟩ (.int .i64 (gI l 12 1)) = z3
    have HB3 := Lib.hid (show Blk z3 b 30 ((((cs0 2 (.slice none 0 0)).setIfInBounds 5 (.int .i64 (gI l 0 4))).setIfInBounds 6 (.int .i64 (gI l 4 8))).setIfInBounds 7 (.int .i64 (gI l 12 1))) from by rw [← hW]; exact HB2.out.set_ 7 _)
    have HZ3 := Lib.hid (show Blk z3 Q 30 zero12 from by rw [← hW]; exact HZ2.out.far (p := ⟨b, 7, none⟩) (by show Q ≠ b; have := HSZ.out; omega) _)
    have HK3 := Lib.hid (show Keeps w z3 from by rw [← hW]; exact HK2.out.setCell (p := ⟨b, 7, none⟩) (by show _ ≤ b; have := HSZ.out; have := HQ.out; omega) _)
    clear hW hx hy HB2 HZ2 HK2
    have hx : z3.cell? ⟨b, 8, none⟩ = some (.int .i64 0) := by rw [HB3.out.cell]; rfl
    have hy : z3.frozen? ⟨b, 8, none⟩ = false := HB3.out.frozen _
    go_wp2_with fail
    refine (CG.out 13 4 _ HK3.out).mono ?_
    rintro e z' ⟨rfl, rfl⟩
    go_upto_region 23 with fail
    generalize hW : World.setCell z3 ⟨b, 8, none⟩ (.int .i64 (gI l 13 4)) = z4
    have HB4 := Lib.hid (show Blk z4 b 30 (((((cs0 2 (.slice none 0 0)).setIfInBounds 5 (.int .i64 (gI l 0 4))).setIfInBounds 6 (.int .i64 (gI l 4 8))).setIfInBounds 7 (.int .i64 (gI l 12 1))).setIfInBounds 8 (.int .i64 (gI l 13 4))) from by rw [← hW]; exact HB3.out.set_ 8 _)
    have HZ4 := Lib.hid (show Blk z4 Q 30 zero12 from by rw [← hW]; exact HZ3.out.far (p := ⟨b, 8, none⟩) (by show Q ≠ b; have := HSZ.out; omega) _)
    have HK4 := Lib.hid (show Keeps w z4 from by rw [← hW]; exact HK3.out.setCell (p := ⟨b, 8, none⟩) (by show _ ≤ b; have := HSZ.out; have := HQ.out; omega) _)
    clear hW hx hy HB3 HZ3 HK3
    have hx : z4.cell? ⟨b, 9, none⟩ = some (.int .i64 0) := by rw [HB4.out.cell]; rfl
    have hy : z4.frozen? ⟨b, 9, none⟩ = false := HB4.out.frozen _
    go_wp2_with fail
    refine (CG.out 17 4 _ HK4.out).mono ?_
    rintro e z' ⟨rfl, rfl⟩
    go_upto_region 24 with fail
    generalize hW : World.setCell z4 ⟨b, 9, none⟩ (.int .i64 (gI l 17 4)) = z5
    have HB5 := Lib.hid (show Blk z5 b 30 ((((((cs0 2 (.slice none 0 0)).setIfInBounds 5 (.int .i64 (gI l 0 4))).setIfInBounds 6 (.int .i64 (gI l 4 8))).setIfInBounds 7 (.int .i64 (gI l 12 1))).setIfInBounds 8 (.int .i64 (gI l 13 4))).setIfInBounds 9 (.int .i64 (gI l 17 4))) from by rw [← hW]; exact HB4.out.set_ 9 _)
    have HZ5 := Lib.hid (show Blk z5 Q 30 zero12 from by rw [← hW]; exact HZ4.out.far (p := ⟨b, 9, none⟩) (by show Q ≠ b; have := HSZ.out; omega) _)
    have HK5 := Lib.hid (show Keeps w z5 from by rw [← hW]; exact HK4.out.setCell (p := ⟨b, 9, none⟩) (by show _ ≤ b; have := HSZ.out; have := HQ.out; omega) _)
    clear hW hx hy HB4 HZ4 HK4
    have hx : z5.cell? ⟨b, 10, none⟩ = some (.int .i64 0) := by rw [HB5.out.cell]; rfl
    have hy : z5.frozen? ⟨b, 10, none⟩ = false := HB5.out.frozen _
    go_wp2_with fail
    refine (CG.out 21 8 _ HK5.out).mono ?_
    rintro e z' ⟨rfl, rfl⟩
    go_upto_region 35 with fail
    generalize hW : World.setCell z5 ⟨b, 10, none⟩ (.int .i64 (gI l 21 8)) = z6
    have HB6 := Lib.hid (show Blk z6 b 30 (((((((cs0 2 (.slice none 0 0)).setIfInBounds 5 (.int .i64 (gI l 0 4))).setIfInBounds 6 (.int .i64 (gI l 4 8))).setIfInBounds 7 (.int .i64 (gI l 12 1))).setIfInBounds 8 (.int .i64 (gI l 13 4))).setIfInBounds 9 (.int .i64 (gI l 17 4))).setIfInBounds 10 (.int .i64 (gI l 21 8))) from by rw [← hW]; exact HB5.out.set_ 10 _)
    have HZ6 := Lib.hid (show Blk z6 Q 30 zero12 from by rw [← hW]; exact HZ5.out.far (p := ⟨b, 10, none⟩) (by show Q ≠ b; have := HSZ.out; omega) _)
    have HK6 := Lib.hid (show Keeps w z6 from by rw [← hW]; exact HK5.out.setCell (p := ⟨b, 10, none⟩) (by show _ ≤ b; have := HSZ.out; have := HQ.out; omega) _)
    clear hW hx hy HB5 HZ5 HK5
    have HB : Hid (Blk z6 b 30 (recA (mkR 2 l) (.slice none 0 0))) := Lib.hid HB6.out
    have HM : Hid (Row w (.slice none 0 0) ((mkR 2 l).data.map u8v)) := Lib.hid (row_nil _)
    have HMP : Hid (∀ base, Piece w base 5 (.slice pv l.length cv) (l.map u8v) → Piece w base 5 (.slice none 0 0) ((mkR 2 l).data.map u8v)) := Lib.hid (fun base _ => Piece.nil _ _ _)
    have HWI := Lib.hid (within_any (mkR 2 l) (.slice none 0 0) z6 (HM.out.keeps HK6.out) (show (1 : Int) ≤ 2 ∧ (2 : Int) ≤ 6 by decide))
    have HRR : Hid (readE 2 l = 0 → readR 2 l = mkR 2 l) := Lib.hid (fun h => by unfold readR; rw [if_pos h])
    clear HB6
    generalize mkR 2 l = rr at *
    go_wp2_with (refine wpList_ld rfl recM HB.out _ rfl rfl ?_)
    refine HWI.out.mono ?_
    rintro e x1 ⟨rfl, hkx⟩
    have HBx := Lib.hid (HB.out.keeps hkx)
    have HZx := Lib.hid (HZ6.out.keeps hkx)
    have HKx := Lib.hid (HK6.out.trans hkx)
    clear HB HZ6 HK6 HWI hkx
    generalize within rr = wi at *
    cases wi with
    | false =>
      have HE1 : Hid (readE 2 l = 1) := Lib.hid (HE.out.trans (if_pos (by simp)))
      have HF := Lib.hid (fun w' k => rread_fail (W := w) (v := .slice pv l.length cv) (w' := w') (kind := 2) (l := l) (er := 1) HE1.out (by decide) k)
      go_wp2_with (refine wpList_st (ds := zero12) rfl recM HZx.out rfl zero12_one _ _ rfl rfl rfl rfl ?_; intro w6 hB6 hM6)
      have HLd := Lib.hid (ld_run (P := Try.prog) recM hB6)
      have HKf := Lib.hid (hM6.keeps HKx.out (fun x hx => by have := HQ.out; omega))
      clear hB6 hM6
      exact bodyPost_ret (v := .tuple #[.agg zero12, .int .i64 1]) (by simp [results, Try.results44, Sem.run_bind, Sem.run_pure, Result.andThen_ok, Act.put, asAddr, HLd.out]) rfl (HF.out _ HKf.out)
    | true =>
      have HE1 : Hid (readE 2 l = 0) := Lib.hid (HE.out.trans (if_neg (by simp)))
      have HR1 := Lib.hid (HRR.out HE1.out)
      go_wp2_with (first
        | refine wpList_ld rfl recM HBx.out _ rfl rfl ?_
        | refine wpList_st (ds := recA rr (.slice none 0 0)) rfl recM HZx.out rfl (recA_one _ _ _ _) _ _ rfl rfl rfl rfl ?_; intro w6 hB6 hM6)
      have HLd := Lib.hid (ld_run (P := Try.prog) recM hB6)
      have HKf := Lib.hid (hM6.keeps HKx.out (fun x hx => by have := HQ.out; omega))
      clear hB6 hM6
      exact bodyPost_ret (v := .tuple #[.agg (recA rr (.slice none 0 0)), .int .i64 0]) (by simp [results, Try.results44, Sem.run_bind, Sem.run_pure, Result.andThen_ok, Act.put, asAddr, HLd.out]) rfl ⟨_, _, _, by rw [HR1.out, HE1.out], by rw [HR1.out]; exact HM.out, by rw [HR1.out]; exact HMP.out, HKf.out⟩
  by_cases k3 : kind = 3
  · subst k3
    clear klo khi
    have hE : readE 3 l = if l.length < 4 then 2 else if 4 < l.length ∧ ((3 : Int) ≠ 6) then 3 else if 4 + 32768 < l.length then 4 else if within (mkR 3 l) = false then 1 else 0 := by unfold readE; rw [if_neg (by omega)]; rfl
    have hs : w1.cell? ⟨Q + 1, 3, none⟩ = some (.int .i64 4) := by rw [HS.out.cell]; rfl
    by_cases h1 : l.length < 4
    · have e1 : decide ((l.length : Int) < 4) = true := decide_eq_true (by omega)
      have HF := Lib.hid (fun w' k => rread_fail (W := w) (v := .slice pv l.length cv) (w' := w') (kind := 3) (l := l) (er := 2) (by rw [hE, if_pos h1]) (by decide) k)
      go_wp2_with (refine wpList_st (ds := zero12) rfl recM HZ.out rfl zero12_one _ _ rfl rfl rfl rfl ?_; intro w6 hB6 hM6)
      have HLd := Lib.hid (ld_run (P := Try.prog) recM hB6)
      have HKf := Lib.hid (hM6.keeps HK.out (fun x hx => by have := HQ.out; omega))
      clear hB6 hM6
      exact bodyPost_ret (v := .tuple #[.agg zero12, .int .i64 2]) (by simp [results, Try.results44, Sem.run_bind, Sem.run_pure, Result.andThen_ok, Act.put, asAddr, HLd.out]) rfl (HF.out _ HKf.out)
    have e1 : decide ((l.length : Int) < 4) = false := decide_eq_false (by omega)
    by_cases h2 : 4 < l.length
    · have e2 : decide (4 < (l.length : Int)) = true := decide_eq_true (by omega)
      have HF := Lib.hid (fun w' k => rread_fail (W := w) (v := .slice pv l.length cv) (w' := w') (kind := 3) (l := l) (er := 3) (by rw [hE, if_neg h1, if_pos ⟨h2, by decide⟩]) (by decide) k)
      go_wp2_with (refine wpList_st (ds := zero12) rfl recM HZ.out rfl zero12_one _ _ rfl rfl rfl rfl ?_; intro w6 hB6 hM6)
      have HLd := Lib.hid (ld_run (P := Try.prog) recM hB6)
      have HKf := Lib.hid (hM6.keeps HK.out (fun x hx => by have := HQ.out; omega))
      clear hB6 hM6
      exact bodyPost_ret (v := .tuple #[.agg zero12, .int .i64 3]) (by simp [results, Try.results44, Sem.run_bind, Sem.run_pure, Result.andThen_ok, Act.put, asAddr, HLd.out]) rfl (HF.out _ HKf.out)
    have e2 : decide (4 < (l.length : Int)) = false := decide_eq_false (by omega)
    have e3 : decide (32772 < (l.length : Int)) = false := decide_eq_false (by omega)
    have HE : Hid (readE 3 l = if within (mkR 3 l) = false then 1 else 0) := Lib.hid (by rw [hE, if_neg h1, if_neg (fun h => h2 h.1), if_neg (by omega)])
    clear h1 h2 hE
    go_upto_region 12 with fail
    generalize hW : World.alloc w1 _ = z0
    have HB0 := Lib.hid (show Blk z0 w1.heap.size 30 (cs0 3 (.slice none 0 0)) from by rw [← hW]; exact Blk.new _ _ _ rfl)
    have HZ0 := Lib.hid (show Blk z0 Q 30 zero12 from by rw [← hW]; exact HZ.out.alloc _)
    have HK0 := Lib.hid (show Keeps w z0 from by rw [← hW]; exact HK.out.alloc _)
    have HSZ := Lib.hid (show Q + 1 < w1.heap.size from HS.out.lt)
    clear hW hs
    generalize w1.heap.size = b at *
    have hx : z0.cell? ⟨b, 5, none⟩ = some (.int .i64 0) := by rw [HB0.out.cell]; rfl
    have hy : z0.frozen? ⟨b, 5, none⟩ = false := HB0.out.frozen _
    go_wp2_with fail
    refine (CG.out 0 4 _ HK0.out).mono ?_
    rintro e z' ⟨rfl, rfl⟩
    go_upto_region 35 with fail
    generalize hW : World.setCell z0 ⟨b, 5, none⟩ (.int .i64 (gI l 0 4)) = z1
    have HB1 := Lib.hid (show Blk z1 b 30 ((cs0 3 (.slice none 0 0)).setIfInBounds 5 (.int .i64 (gI l 0 4))) from by rw [← hW]; exact HB0.out.set_ 5 _)
    have HZ1 := Lib.hid (show Blk z1 Q 30 zero12 from by rw [← hW]; exact HZ0.out.far (p := ⟨b, 5, none⟩) (by show Q ≠ b; have := HSZ.out; omega) _)
    have HK1 := Lib.hid (show Keeps w z1 from by rw [← hW]; exact HK0.out.setCell (p := ⟨b, 5, none⟩) (by show _ ≤ b; have := HSZ.out; have := HQ.out; omega) _)
    clear hW hx hy HB0 HZ0 HK0
    have HB : Hid (Blk z1 b 30 (recA (mkR 3 l) (.slice none 0 0))) := Lib.hid HB1.out
    have HM : Hid (Row w (.slice none 0 0) ((mkR 3 l).data.map u8v)) := Lib.hid (row_nil _)
    have HMP : Hid (∀ base, Piece w base 5 (.slice pv l.length cv) (l.map u8v) → Piece w base 5 (.slice none 0 0) ((mkR 3 l).data.map u8v)) := Lib.hid (fun base _ => Piece.nil _ _ _)
    have HWI := Lib.hid (within_any (mkR 3 l) (.slice none 0 0) z1 (HM.out.keeps HK1.out) (show (1 : Int) ≤ 3 ∧ (3 : Int) ≤ 6 by decide))
    have HRR : Hid (readE 3 l = 0 → readR 3 l = mkR 3 l) := Lib.hid (fun h => by unfold readR; rw [if_pos h])
    clear HB1
    generalize mkR 3 l = rr at *
    go_wp2_with (refine wpList_ld rfl recM HB.out _ rfl rfl ?_)
    refine HWI.out.mono ?_
    rintro e x1 ⟨rfl, hkx⟩
    have HBx := Lib.hid (HB.out.keeps hkx)
    have HZx := Lib.hid (HZ1.out.keeps hkx)
    have HKx := Lib.hid (HK1.out.trans hkx)
    clear HB HZ1 HK1 HWI hkx
    generalize within rr = wi at *
    cases wi with
    | false =>
      have HE1 : Hid (readE 3 l = 1) := Lib.hid (HE.out.trans (if_pos (by simp)))
      have HF := Lib.hid (fun w' k => rread_fail (W := w) (v := .slice pv l.length cv) (w' := w') (kind := 3) (l := l) (er := 1) HE1.out (by decide) k)
      go_wp2_with (refine wpList_st (ds := zero12) rfl recM HZx.out rfl zero12_one _ _ rfl rfl rfl rfl ?_; intro w6 hB6 hM6)
      have HLd := Lib.hid (ld_run (P := Try.prog) recM hB6)
      have HKf := Lib.hid (hM6.keeps HKx.out (fun x hx => by have := HQ.out; omega))
      clear hB6 hM6
      exact bodyPost_ret (v := .tuple #[.agg zero12, .int .i64 1]) (by simp [results, Try.results44, Sem.run_bind, Sem.run_pure, Result.andThen_ok, Act.put, asAddr, HLd.out]) rfl (HF.out _ HKf.out)
    | true =>
      have HE1 : Hid (readE 3 l = 0) := Lib.hid (HE.out.trans (if_neg (by simp)))
      have HR1 := Lib.hid (HRR.out HE1.out)
      go_wp2_with (first
        | refine wpList_ld rfl recM HBx.out _ rfl rfl ?_
        | refine wpList_st (ds := recA rr (.slice none 0 0)) rfl recM HZx.out rfl (recA_one _ _ _ _) _ _ rfl rfl rfl rfl ?_; intro w6 hB6 hM6)
      have HLd := Lib.hid (ld_run (P := Try.prog) recM hB6)
      have HKf := Lib.hid (hM6.keeps HKx.out (fun x hx => by have := HQ.out; omega))
      clear hB6 hM6
      exact bodyPost_ret (v := .tuple #[.agg (recA rr (.slice none 0 0)), .int .i64 0]) (by simp [results, Try.results44, Sem.run_bind, Sem.run_pure, Result.andThen_ok, Act.put, asAddr, HLd.out]) rfl ⟨_, _, _, by rw [HR1.out, HE1.out], by rw [HR1.out]; exact HM.out, by rw [HR1.out]; exact HMP.out, HKf.out⟩
  by_cases k4 : kind = 4
  · subst k4
    clear klo khi
    have hE : readE 4 l = if l.length < 5 then 2 else if 5 < l.length ∧ ((4 : Int) ≠ 6) then 3 else if 5 + 32768 < l.length then 4 else if within (mkR 4 l) = false then 1 else 0 := by unfold readE; rw [if_neg (by omega)]; rfl
    have hs : w1.cell? ⟨Q + 1, 4, none⟩ = some (.int .i64 5) := by rw [HS.out.cell]; rfl
    by_cases h1 : l.length < 5
    · have e1 : decide ((l.length : Int) < 5) = true := decide_eq_true (by omega)
      have HF := Lib.hid (fun w' k => rread_fail (W := w) (v := .slice pv l.length cv) (w' := w') (kind := 4) (l := l) (er := 2) (by rw [hE, if_pos h1]) (by decide) k)
      go_wp2_with (refine wpList_st (ds := zero12) rfl recM HZ.out rfl zero12_one _ _ rfl rfl rfl rfl ?_; intro w6 hB6 hM6)
      have HLd := Lib.hid (ld_run (P := Try.prog) recM hB6)
      have HKf := Lib.hid (hM6.keeps HK.out (fun x hx => by have := HQ.out; omega))
      clear hB6 hM6
      exact bodyPost_ret (v := .tuple #[.agg zero12, .int .i64 2]) (by simp [results, Try.results44, Sem.run_bind, Sem.run_pure, Result.andThen_ok, Act.put, asAddr, HLd.out]) rfl (HF.out _ HKf.out)
    have e1 : decide ((l.length : Int) < 5) = false := decide_eq_false (by omega)
    by_cases h2 : 5 < l.length
    · have e2 : decide (5 < (l.length : Int)) = true := decide_eq_true (by omega)
      have HF := Lib.hid (fun w' k => rread_fail (W := w) (v := .slice pv l.length cv) (w' := w') (kind := 4) (l := l) (er := 3) (by rw [hE, if_neg h1, if_pos ⟨h2, by decide⟩]) (by decide) k)
      go_wp2_with (refine wpList_st (ds := zero12) rfl recM HZ.out rfl zero12_one _ _ rfl rfl rfl rfl ?_; intro w6 hB6 hM6)
      have HLd := Lib.hid (ld_run (P := Try.prog) recM hB6)
      have HKf := Lib.hid (hM6.keeps HK.out (fun x hx => by have := HQ.out; omega))
      clear hB6 hM6
      exact bodyPost_ret (v := .tuple #[.agg zero12, .int .i64 3]) (by simp [results, Try.results44, Sem.run_bind, Sem.run_pure, Result.andThen_ok, Act.put, asAddr, HLd.out]) rfl (HF.out _ HKf.out)
    have e2 : decide (5 < (l.length : Int)) = false := decide_eq_false (by omega)
    have e3 : decide (32773 < (l.length : Int)) = false := decide_eq_false (by omega)
    have HE : Hid (readE 4 l = if within (mkR 4 l) = false then 1 else 0) := Lib.hid (by rw [hE, if_neg h1, if_neg (fun h => h2 h.1), if_neg (by omega)])
    clear h1 h2 hE
    go_upto_region 12 with fail
    generalize hW : World.alloc w1 _ = z0
    have HB0 := Lib.hid (show Blk z0 w1.heap.size 30 (cs0 4 (.slice none 0 0)) from by rw [← hW]; exact Blk.new _ _ _ rfl)
    have HZ0 := Lib.hid (show Blk z0 Q 30 zero12 from by rw [← hW]; exact HZ.out.alloc _)
    have HK0 := Lib.hid (show Keeps w z0 from by rw [← hW]; exact HK.out.alloc _)
    have HSZ := Lib.hid (show Q + 1 < w1.heap.size from HS.out.lt)
    clear hW hs
    generalize w1.heap.size = b at *
    have hx : z0.cell? ⟨b, 5, none⟩ = some (.int .i64 0) := by rw [HB0.out.cell]; rfl
    have hy : z0.frozen? ⟨b, 5, none⟩ = false := HB0.out.frozen _
    go_wp2_with fail
    refine (CG.out 0 4 _ HK0.out).mono ?_
    rintro e z' ⟨rfl, rfl⟩
    go_upto_region 29 with fail
    generalize hW : World.setCell z0 ⟨b, 5, none⟩ (.int .i64 (gI l 0 4)) = z1
    have HB1 := Lib.hid (show Blk z1 b 30 ((cs0 4 (.slice none 0 0)).setIfInBounds 5 (.int .i64 (gI l 0 4))) from by rw [← hW]; exact HB0.out.set_ 5 _)
    have HZ1 := Lib.hid (show Blk z1 Q 30 zero12 from by rw [← hW]; exact HZ0.out.far (p := ⟨b, 5, none⟩) (by show Q ≠ b; have := HSZ.out; omega) _)
    have HK1 := Lib.hid (show Keeps w z1 from by rw [← hW]; exact HK0.out.setCell (p := ⟨b, 5, none⟩) (by show _ ≤ b; have := HSZ.out; have := HQ.out; omega) _)
    clear hW hx hy HB0 HZ0 HK0
    have hx : z1.cell? ⟨b, 7, none⟩ = some (.int .i64 0) := by rw [HB1.out.cell]; rfl
    have hy : z1.frozen? ⟨b, 7, none⟩ = false := HB1.out.frozen _
    go_wp2_with fail
    refine (CG.out 4 1 _ HK1.out).mono ?_
    rintro e z' ⟨rfl, rfl⟩
    go_upto_region 35 with fail
    generalize hW : World.setCell z1 ⟨b, 7, none⟩ (.int .i64 (gI l 4 1)) = z2
    have HB2 := Lib.hid (show Blk z2 b 30 (((cs0 4 (.slice none 0 0)).setIfInBounds 5 (.int .i64 (gI l 0 4))).setIfInBounds 7 (.int .i64 (gI l 4 1))) from by rw [← hW]; exact HB1.out.set_ 7 _)
    have HZ2 := Lib.hid (show Blk z2 Q 30 zero12 from by rw [← hW]; exact HZ1.out.far (p := ⟨b, 7, none⟩) (by show Q ≠ b; have := HSZ.out; omega) _)
    have HK2 := Lib.hid (show Keeps w z2 from by rw [← hW]; exact HK1.out.setCell (p := ⟨b, 7, none⟩) (by show _ ≤ b; have := HSZ.out; have := HQ.out; omega) _)
    clear hW hx hy HB1 HZ1 HK1
    have HB : Hid (Blk z2 b 30 (recA (mkR 4 l) (.slice none 0 0))) := Lib.hid HB2.out
    have HM : Hid (Row w (.slice none 0 0) ((mkR 4 l).data.map u8v)) := Lib.hid (row_nil _)
    have HMP : Hid (∀ base, Piece w base 5 (.slice pv l.length cv) (l.map u8v) → Piece w base 5 (.slice none 0 0) ((mkR 4 l).data.map u8v)) := Lib.hid (fun base _ => Piece.nil _ _ _)
    have HWI := Lib.hid (within_any (mkR 4 l) (.slice none 0 0) z2 (HM.out.keeps HK2.out) (show (1 : Int) ≤ 4 ∧ (4 : Int) ≤ 6 by decide))
    have HRR : Hid (readE 4 l = 0 → readR 4 l = mkR 4 l) := Lib.hid (fun h => by unfold readR; rw [if_pos h])
    clear HB2
    generalize mkR 4 l = rr at *
    go_wp2_with (refine wpList_ld rfl recM HB.out _ rfl rfl ?_)
    refine HWI.out.mono ?_
    rintro e x1 ⟨rfl, hkx⟩
    have HBx := Lib.hid (HB.out.keeps hkx)
    have HZx := Lib.hid (HZ2.out.keeps hkx)
    have HKx := Lib.hid (HK2.out.trans hkx)
    clear HB HZ2 HK2 HWI hkx
    generalize within rr = wi at *
    cases wi with
    | false =>
      have HE1 : Hid (readE 4 l = 1) := Lib.hid (HE.out.trans (if_pos (by simp)))
      have HF := Lib.hid (fun w' k => rread_fail (W := w) (v := .slice pv l.length cv) (w' := w') (kind := 4) (l := l) (er := 1) HE1.out (by decide) k)
      go_wp2_with (refine wpList_st (ds := zero12) rfl recM HZx.out rfl zero12_one _ _ rfl rfl rfl rfl ?_; intro w6 hB6 hM6)
      have HLd := Lib.hid (ld_run (P := Try.prog) recM hB6)
      have HKf := Lib.hid (hM6.keeps HKx.out (fun x hx => by have := HQ.out; omega))
      clear hB6 hM6
      exact bodyPost_ret (v := .tuple #[.agg zero12, .int .i64 1]) (by simp [results, Try.results44, Sem.run_bind, Sem.run_pure, Result.andThen_ok, Act.put, asAddr, HLd.out]) rfl (HF.out _ HKf.out)
    | true =>
      have HE1 : Hid (readE 4 l = 0) := Lib.hid (HE.out.trans (if_neg (by simp)))
      have HR1 := Lib.hid (HRR.out HE1.out)
      go_wp2_with (first
        | refine wpList_ld rfl recM HBx.out _ rfl rfl ?_
        | refine wpList_st (ds := recA rr (.slice none 0 0)) rfl recM HZx.out rfl (recA_one _ _ _ _) _ _ rfl rfl rfl rfl ?_; intro w6 hB6 hM6)
      have HLd := Lib.hid (ld_run (P := Try.prog) recM hB6)
      have HKf := Lib.hid (hM6.keeps HKx.out (fun x hx => by have := HQ.out; omega))
      clear hB6 hM6
      exact bodyPost_ret (v := .tuple #[.agg (recA rr (.slice none 0 0)), .int .i64 0]) (by simp [results, Try.results44, Sem.run_bind, Sem.run_pure, Result.andThen_ok, Act.put, asAddr, HLd.out]) rfl ⟨_, _, _, by rw [HR1.out, HE1.out], by rw [HR1.out]; exact HM.out, by rw [HR1.out]; exact HMP.out, HKf.out⟩
  by_cases k5 : kind = 5
  · subst k5
    clear klo khi
    have hE : readE 5 l = if l.length < 4 then 2 else if 4 < l.length ∧ ((5 : Int) ≠ 6) then 3 else if 4 + 32768 < l.length then 4 else if within (mkR 5 l) = false then 1 else 0 := by unfold readE; rw [if_neg (by omega)]; rfl
    have hs : w1.cell? ⟨Q + 1, 5, none⟩ = some (.int .i64 4) := by rw [HS.out.cell]; rfl
    by_cases h1 : l.length < 4
    · have e1 : decide ((l.length : Int) < 4) = true := decide_eq_true (by omega)
      have HF := Lib.hid (fun w' k => rread_fail (W := w) (v := .slice pv l.length cv) (w' := w') (kind := 5) (l := l) (er := 2) (by rw [hE, if_pos h1]) (by decide) k)
      go_wp2_with (refine wpList_st (ds := zero12) rfl recM HZ.out rfl zero12_one _ _ rfl rfl rfl rfl ?_; intro w6 hB6 hM6)
      have HLd := Lib.hid (ld_run (P := Try.prog) recM hB6)
      have HKf := Lib.hid (hM6.keeps HK.out (fun x hx => by have := HQ.out; omega))
      clear hB6 hM6
      exact bodyPost_ret (v := .tuple #[.agg zero12, .int .i64 2]) (by simp [results, Try.results44, Sem.run_bind, Sem.run_pure, Result.andThen_ok, Act.put, asAddr, HLd.out]) rfl (HF.out _ HKf.out)
    have e1 : decide ((l.length : Int) < 4) = false := decide_eq_false (by omega)
    by_cases h2 : 4 < l.length
    · have e2 : decide (4 < (l.length : Int)) = true := decide_eq_true (by omega)
      have HF := Lib.hid (fun w' k => rread_fail (W := w) (v := .slice pv l.length cv) (w' := w') (kind := 5) (l := l) (er := 3) (by rw [hE, if_neg h1, if_pos ⟨h2, by decide⟩]) (by decide) k)
      go_wp2_with (refine wpList_st (ds := zero12) rfl recM HZ.out rfl zero12_one _ _ rfl rfl rfl rfl ?_; intro w6 hB6 hM6)
      have HLd := Lib.hid (ld_run (P := Try.prog) recM hB6)
      have HKf := Lib.hid (hM6.keeps HK.out (fun x hx => by have := HQ.out; omega))
      clear hB6 hM6
      exact bodyPost_ret (v := .tuple #[.agg zero12, .int .i64 3]) (by simp [results, Try.results44, Sem.run_bind, Sem.run_pure, Result.andThen_ok, Act.put, asAddr, HLd.out]) rfl (HF.out _ HKf.out)
    have e2 : decide (4 < (l.length : Int)) = false := decide_eq_false (by omega)
    have e3 : decide (32772 < (l.length : Int)) = false := decide_eq_false (by omega)
    have HE : Hid (readE 5 l = if within (mkR 5 l) = false then 1 else 0) := Lib.hid (by rw [hE, if_neg h1, if_neg (fun h => h2 h.1), if_neg (by omega)])
    clear h1 h2 hE
    go_upto_region 12 with fail
    generalize hW : World.alloc w1 _ = z0
    have HB0 := Lib.hid (show Blk z0 w1.heap.size 30 (cs0 5 (.slice none 0 0)) from by rw [← hW]; exact Blk.new _ _ _ rfl)
    have HZ0 := Lib.hid (show Blk z0 Q 30 zero12 from by rw [← hW]; exact HZ.out.alloc _)
    have HK0 := Lib.hid (show Keeps w z0 from by rw [← hW]; exact HK.out.alloc _)
    have HSZ := Lib.hid (show Q + 1 < w1.heap.size from HS.out.lt)
    clear hW hs
    generalize w1.heap.size = b at *
    have hx : z0.cell? ⟨b, 3, none⟩ = some (.int .i64 0) := by rw [HB0.out.cell]; rfl
    have hy : z0.frozen? ⟨b, 3, none⟩ = false := HB0.out.frozen _
    go_wp2_with fail
    refine (CG.out 0 4 _ HK0.out).mono ?_
    rintro e z' ⟨rfl, rfl⟩
    go_upto_region 35 with fail
    generalize hW : World.setCell z0 ⟨b, 3, none⟩ (.int .i64 (gI l 0 4)) = z1
    have HB1 := Lib.hid (show Blk z1 b 30 ((cs0 5 (.slice none 0 0)).setIfInBounds 3 (.int .i64 (gI l 0 4))) from by rw [← hW]; exact HB0.out.set_ 3 _)
    have HZ1 := Lib.hid (show Blk z1 Q 30 zero12 from by rw [← hW]; exact HZ0.out.far (p := ⟨b, 3, none⟩) (by show Q ≠ b; have := HSZ.out; omega) _)
    have HK1 := Lib.hid (show Keeps w z1 from by rw [← hW]; exact HK0.out.setCell (p := ⟨b, 3, none⟩) (by show _ ≤ b; have := HSZ.out; have := HQ.out; omega) _)
    clear hW hx hy HB0 HZ0 HK0
    have HB : Hid (Blk z1 b 30 (recA (mkR 5 l) (.slice none 0 0))) := Lib.hid HB1.out
    have HM : Hid (Row w (.slice none 0 0) ((mkR 5 l).data.map u8v)) := Lib.hid (row_nil _)
    have HMP : Hid (∀ base, Piece w base 5 (.slice pv l.length cv) (l.map u8v) → Piece w base 5 (.slice none 0 0) ((mkR 5 l).data.map u8v)) := Lib.hid (fun base _ => Piece.nil _ _ _)
    have HWI := Lib.hid (within_any (mkR 5 l) (.slice none 0 0) z1 (HM.out.keeps HK1.out) (show (1 : Int) ≤ 5 ∧ (5 : Int) ≤ 6 by decide))
    have HRR : Hid (readE 5 l = 0 → readR 5 l = mkR 5 l) := Lib.hid (fun h => by unfold readR; rw [if_pos h])
    clear HB1
    generalize mkR 5 l = rr at *
    go_wp2_with (refine wpList_ld rfl recM HB.out _ rfl rfl ?_)
    refine HWI.out.mono ?_
    rintro e x1 ⟨rfl, hkx⟩
    have HBx := Lib.hid (HB.out.keeps hkx)
    have HZx := Lib.hid (HZ1.out.keeps hkx)
    have HKx := Lib.hid (HK1.out.trans hkx)
    clear HB HZ1 HK1 HWI hkx
    generalize within rr = wi at *
    cases wi with
    | false =>
      have HE1 : Hid (readE 5 l = 1) := Lib.hid (HE.out.trans (if_pos (by simp)))
      have HF := Lib.hid (fun w' k => rread_fail (W := w) (v := .slice pv l.length cv) (w' := w') (kind := 5) (l := l) (er := 1) HE1.out (by decide) k)
      go_wp2_with (refine wpList_st (ds := zero12) rfl recM HZx.out rfl zero12_one _ _ rfl rfl rfl rfl ?_; intro w6 hB6 hM6)
      have HLd := Lib.hid (ld_run (P := Try.prog) recM hB6)
      have HKf := Lib.hid (hM6.keeps HKx.out (fun x hx => by have := HQ.out; omega))
      clear hB6 hM6
      exact bodyPost_ret (v := .tuple #[.agg zero12, .int .i64 1]) (by simp [results, Try.results44, Sem.run_bind, Sem.run_pure, Result.andThen_ok, Act.put, asAddr, HLd.out]) rfl (HF.out _ HKf.out)
    | true =>
      have HE1 : Hid (readE 5 l = 0) := Lib.hid (HE.out.trans (if_neg (by simp)))
      have HR1 := Lib.hid (HRR.out HE1.out)
      go_wp2_with (first
        | refine wpList_ld rfl recM HBx.out _ rfl rfl ?_
        | refine wpList_st (ds := recA rr (.slice none 0 0)) rfl recM HZx.out rfl (recA_one _ _ _ _) _ _ rfl rfl rfl rfl ?_; intro w6 hB6 hM6)
      have HLd := Lib.hid (ld_run (P := Try.prog) recM hB6)
      have HKf := Lib.hid (hM6.keeps HKx.out (fun x hx => by have := HQ.out; omega))
      clear hB6 hM6
      exact bodyPost_ret (v := .tuple #[.agg (recA rr (.slice none 0 0)), .int .i64 0]) (by simp [results, Try.results44, Sem.run_bind, Sem.run_pure, Result.andThen_ok, Act.put, asAddr, HLd.out]) rfl ⟨_, _, _, by rw [HR1.out, HE1.out], by rw [HR1.out]; exact HM.out, by rw [HR1.out]; exact HMP.out, HKf.out⟩
  have k6 : kind = 6 := by omega
  subst k6
  clear klo khi
  have hE : readE 6 l = if l.length < 4 then 2 else if 4 < l.length ∧ ((6 : Int) ≠ 6) then 3 else if 4 + 32768 < l.length then 4 else if within (mkR 6 l) = false then 1 else 0 := by unfold readE; rw [if_neg (by omega)]; rfl
  have hs : w1.cell? ⟨Q + 1, 6, none⟩ = some (.int .i64 4) := by rw [HS.out.cell]; rfl
  by_cases h1 : l.length < 4
  · have e1 : decide ((l.length : Int) < 4) = true := decide_eq_true (by omega)
    have HF := Lib.hid (fun w' k => rread_fail (W := w) (v := .slice pv l.length cv) (w' := w') (kind := 6) (l := l) (er := 2) (by rw [hE, if_pos h1]) (by decide) k)
    go_wp2_with (refine wpList_st (ds := zero12) rfl recM HZ.out rfl zero12_one _ _ rfl rfl rfl rfl ?_; intro w6 hB6 hM6)
    have HLd := Lib.hid (ld_run (P := Try.prog) recM hB6)
    have HKf := Lib.hid (hM6.keeps HK.out (fun x hx => by have := HQ.out; omega))
    clear hB6 hM6
    exact bodyPost_ret (v := .tuple #[.agg zero12, .int .i64 2]) (by simp [results, Try.results44, Sem.run_bind, Sem.run_pure, Result.andThen_ok, Act.put, asAddr, HLd.out]) rfl (HF.out _ HKf.out)
  have e1 : decide ((l.length : Int) < 4) = false := decide_eq_false (by omega)
  by_cases h3 : 4 + 32768 < l.length
  · have e3 : decide (32772 < (l.length : Int)) = true := decide_eq_true (by omega)
    by_cases h2 : 4 < l.length
    · have e2 : decide (4 < (l.length : Int)) = true := decide_eq_true (by omega)
      have HF := Lib.hid (fun w' k => rread_fail (W := w) (v := .slice pv l.length cv) (w' := w') (kind := 6) (l := l) (er := 4) (by rw [hE, if_neg h1, if_neg (fun h => h.2 rfl), if_pos h3]) (by decide) k)
      go_wp2_with (refine wpList_st (ds := zero12) rfl recM HZ.out rfl zero12_one _ _ rfl rfl rfl rfl ?_; intro w6 hB6 hM6)
      have HLd := Lib.hid (ld_run (P := Try.prog) recM hB6)
      have HKf := Lib.hid (hM6.keeps HK.out (fun x hx => by have := HQ.out; omega))
      clear hB6 hM6
      exact bodyPost_ret (v := .tuple #[.agg zero12, .int .i64 4]) (by simp [results, Try.results44, Sem.run_bind, Sem.run_pure, Result.andThen_ok, Act.put, asAddr, HLd.out]) rfl (HF.out _ HKf.out)
    · omega
  have e3 : decide (32772 < (l.length : Int)) = false := decide_eq_false (by omega)
  have HE : Hid (readE 6 l = if within (mkR 6 l) = false then 1 else 0) := Lib.hid (by rw [hE, if_neg h1, if_neg (fun h => h.2 rfl), if_neg h3])
  have hcut : ∀ w', (Instr.slice 28 (.slice pv l.length cv) (some (.int .i64 4)) none none).run Try.prog w' = .ok (cutv pv 4 l.length cv) w' := fun w' => run_cut_l w' Try.underlying28 s5 pv l.length cv 4 (by omega)
  have HD : Hid (Row w (cutv pv 4 l.length cv) ((mkR 6 l).data.map u8v)) := Lib.hid (by
    have h := HR.out.cut (lo := 4) (hi := l.length) (by omega) (by simp)
    rw [List.take_of_length_le (by simp), ← List.map_drop] at h
    exact h)
  have HDP : Hid (∀ base, Piece w base 5 (.slice pv l.length cv) (l.map u8v) → Piece w base 5 (cutv pv 4 l.length cv) ((mkR 6 l).data.map u8v)) := Lib.hid (fun base hp => by
    have h := pieceCut hp (lo := 4) (by simp) (by omega)
    rw [← List.map_drop] at h
    exact h)
  have HCF : Hid (∃ p n c, cutv pv 4 l.length cv = .slice p n c) := Lib.hid ⟨_, _, _, rfl⟩
  generalize cutv pv 4 l.length cv = dv at *
  obtain ⟨pd, nd, cd, rfl⟩ := HCF.out
  have h4 : 4 ≤ l.length := by omega
  clear h1 h3 hE
  by_cases h2 : 4 < l.length
  · have e2 : decide (4 < (l.length : Int)) = true := decide_eq_true (by omega)
    clear h2
    go_upto_region 12 with fail
    generalize hW : World.alloc w1 _ = z0
    have HB0 := Lib.hid (show Blk z0 w1.heap.size 30 (cs0 6 (.slice none 0 0)) from by rw [← hW]; exact Blk.new _ _ _ rfl)
    have HZ0 := Lib.hid (show Blk z0 Q 30 zero12 from by rw [← hW]; exact HZ.out.alloc _)
    have HK0 := Lib.hid (show Keeps w z0 from by rw [← hW]; exact HK.out.alloc _)
    have HSZ := Lib.hid (show Q + 1 < w1.heap.size from HS.out.lt)
    clear hW hs
    generalize w1.heap.size = b at *
    have hx : z0.cell? ⟨b, 8, none⟩ = some (.int .i64 0) := by rw [HB0.out.cell]; rfl
    have hy : z0.frozen? ⟨b, 8, none⟩ = false := HB0.out.frozen _
    go_wp2_with fail
    refine (CG.out 0 4 _ HK0.out).mono ?_
    rintro e z' ⟨rfl, rfl⟩
    go_upto_region 34 with fail
    generalize hW : World.setCell z0 ⟨b, 8, none⟩ (.int .i64 (gI l 0 4)) = z1
    have HB1 := Lib.hid (show Blk z1 b 30 ((cs0 6 (.slice none 0 0)).setIfInBounds 8 (.int .i64 (gI l 0 4))) from by rw [← hW]; exact HB0.out.set_ 8 _)
    have HZ1 := Lib.hid (show Blk z1 Q 30 zero12 from by rw [← hW]; exact HZ0.out.far (p := ⟨b, 8, none⟩) (by show Q ≠ b; have := HSZ.out; omega) _)
    have HK1 := Lib.hid (show Keeps w z1 from by rw [← hW]; exact HK0.out.setCell (p := ⟨b, 8, none⟩) (by show _ ≤ b; have := HSZ.out; have := HQ.out; omega) _)
    clear hW hx hy HB0 HZ0 HK0
    have hx : z1.cell? ⟨b, 11, none⟩ = some (.slice none 0 0) := by rw [HB1.out.cell]; rfl
    have hy : z1.frozen? ⟨b, 11, none⟩ = false := HB1.out.frozen _
    go_upto_region 35 with fail
    generalize hW : World.setCell z1 ⟨b, 11, none⟩ (.slice pd nd cd) = z2
    have HB2 := Lib.hid (show Blk z2 b 30 (((cs0 6 (.slice none 0 0)).setIfInBounds 8 (.int .i64 (gI l 0 4))).setIfInBounds 11 (.slice pd nd cd)) from by rw [← hW]; exact HB1.out.set_ 11 _)
    have HZ2 := Lib.hid (show Blk z2 Q 30 zero12 from by rw [← hW]; exact HZ1.out.far (p := ⟨b, 11, none⟩) (by show Q ≠ b; have := HSZ.out; omega) _)
    have HK2 := Lib.hid (show Keeps w z2 from by rw [← hW]; exact HK1.out.setCell (p := ⟨b, 11, none⟩) (by show _ ≤ b; have := HSZ.out; have := HQ.out; omega) _)
    clear hW hx hy HB1 HZ1 HK1
    have HB : Hid (Blk z2 b 30 (recA (mkR 6 l) (.slice pd nd cd))) := Lib.hid HB2.out
    have HM : Hid (Row w (.slice pd nd cd) ((mkR 6 l).data.map u8v)) := Lib.hid HD.out
    have HMP : Hid (∀ base, Piece w base 5 (.slice pv l.length cv) (l.map u8v) → Piece w base 5 (.slice pd nd cd) ((mkR 6 l).data.map u8v)) := Lib.hid HDP.out
    have HWI := Lib.hid (within_any (mkR 6 l) (.slice pd nd cd) z2 (HM.out.keeps HK2.out) (show (1 : Int) ≤ 6 ∧ (6 : Int) ≤ 6 by decide))
    have HRR : Hid (readE 6 l = 0 → readR 6 l = mkR 6 l) := Lib.hid (fun h => by unfold readR; rw [if_pos h])
    clear HB2
    generalize mkR 6 l = rr at *
    go_wp2_with (refine wpList_ld rfl recM HB.out _ rfl rfl ?_)
    refine HWI.out.mono ?_
    rintro e x1 ⟨rfl, hkx⟩
    have HBx := Lib.hid (HB.out.keeps hkx)
    have HZx := Lib.hid (HZ2.out.keeps hkx)
    have HKx := Lib.hid (HK2.out.trans hkx)
    clear HB HZ2 HK2 HWI hkx
    generalize within rr = wi at *
    cases wi with
    | false =>
      have HE1 : Hid (readE 6 l = 1) := Lib.hid (HE.out.trans (if_pos (by simp)))
      have HF := Lib.hid (fun w' k => rread_fail (W := w) (v := .slice pv l.length cv) (w' := w') (kind := 6) (l := l) (er := 1) HE1.out (by decide) k)
      go_wp2_with (refine wpList_st (ds := zero12) rfl recM HZx.out rfl zero12_one _ _ rfl rfl rfl rfl ?_; intro w6 hB6 hM6)
      have HLd := Lib.hid (ld_run (P := Try.prog) recM hB6)
      have HKf := Lib.hid (hM6.keeps HKx.out (fun x hx => by have := HQ.out; omega))
      clear hB6 hM6
      exact bodyPost_ret (v := .tuple #[.agg zero12, .int .i64 1]) (by simp [results, Try.results44, Sem.run_bind, Sem.run_pure, Result.andThen_ok, Act.put, asAddr, HLd.out]) rfl (HF.out _ HKf.out)
    | true =>
      have HE1 : Hid (readE 6 l = 0) := Lib.hid (HE.out.trans (if_neg (by simp)))
      have HR1 := Lib.hid (HRR.out HE1.out)
      go_wp2_with (first
        | refine wpList_ld rfl recM HBx.out _ rfl rfl ?_
        | refine wpList_st (ds := recA rr (.slice pd nd cd)) rfl recM HZx.out rfl (recA_one _ _ _ _) _ _ rfl rfl rfl rfl ?_; intro w6 hB6 hM6)
      have HLd := Lib.hid (ld_run (P := Try.prog) recM hB6)
      have HKf := Lib.hid (hM6.keeps HKx.out (fun x hx => by have := HQ.out; omega))
      clear hB6 hM6
      exact bodyPost_ret (v := .tuple #[.agg (recA rr (.slice pd nd cd)), .int .i64 0]) (by simp [results, Try.results44, Sem.run_bind, Sem.run_pure, Result.andThen_ok, Act.put, asAddr, HLd.out]) rfl ⟨_, _, _, by rw [HR1.out, HE1.out], by rw [HR1.out]; exact HM.out, by rw [HR1.out]; exact HMP.out, HKf.out⟩
  · have e2 : decide (4 < (l.length : Int)) = false := decide_eq_false (by omega)
    clear h2
    go_upto_region 12 with fail
    generalize hW : World.alloc w1 _ = z0
    have HB0 := Lib.hid (show Blk z0 w1.heap.size 30 (cs0 6 (.slice none 0 0)) from by rw [← hW]; exact Blk.new _ _ _ rfl)
    have HZ0 := Lib.hid (show Blk z0 Q 30 zero12 from by rw [← hW]; exact HZ.out.alloc _)
    have HK0 := Lib.hid (show Keeps w z0 from by rw [← hW]; exact HK.out.alloc _)
    have HSZ := Lib.hid (show Q + 1 < w1.heap.size from HS.out.lt)
    clear hW hs
    generalize w1.heap.size = b at *
    have hx : z0.cell? ⟨b, 8, none⟩ = some (.int .i64 0) := by rw [HB0.out.cell]; rfl
    have hy : z0.frozen? ⟨b, 8, none⟩ = false := HB0.out.frozen _
    go_wp2_with fail
    refine (CG.out 0 4 _ HK0.out).mono ?_
    rintro e z' ⟨rfl, rfl⟩
    go_upto_region 34 with fail
    generalize hW : World.setCell z0 ⟨b, 8, none⟩ (.int .i64 (gI l 0 4)) = z1
    have HB1 := Lib.hid (show Blk z1 b 30 ((cs0 6 (.slice none 0 0)).setIfInBounds 8 (.int .i64 (gI l 0 4))) from by rw [← hW]; exact HB0.out.set_ 8 _)
    have HZ1 := Lib.hid (show Blk z1 Q 30 zero12 from by rw [← hW]; exact HZ0.out.far (p := ⟨b, 8, none⟩) (by show Q ≠ b; have := HSZ.out; omega) _)
    have HK1 := Lib.hid (show Keeps w z1 from by rw [← hW]; exact HK0.out.setCell (p := ⟨b, 8, none⟩) (by show _ ≤ b; have := HSZ.out; have := HQ.out; omega) _)
    clear hW hx hy HB0 HZ0 HK0
    have hx : z1.cell? ⟨b, 11, none⟩ = some (.slice none 0 0) := by rw [HB1.out.cell]; rfl
    have hy : z1.frozen? ⟨b, 11, none⟩ = false := HB1.out.frozen _
    go_upto_region 35 with fail
    generalize hW : World.setCell z1 ⟨b, 11, none⟩ (.slice pd nd cd) = z2
    have HB2 := Lib.hid (show Blk z2 b 30 (((cs0 6 (.slice none 0 0)).setIfInBounds 8 (.int .i64 (gI l 0 4))).setIfInBounds 11 (.slice pd nd cd)) from by rw [← hW]; exact HB1.out.set_ 11 _)
    have HZ2 := Lib.hid (show Blk z2 Q 30 zero12 from by rw [← hW]; exact HZ1.out.far (p := ⟨b, 11, none⟩) (by show Q ≠ b; have := HSZ.out; omega) _)
    have HK2 := Lib.hid (show Keeps w z2 from by rw [← hW]; exact HK1.out.setCell (p := ⟨b, 11, none⟩) (by show _ ≤ b; have := HSZ.out; have := HQ.out; omega) _)
    clear hW hx hy HB1 HZ1 HK1
    have HB : Hid (Blk z2 b 30 (recA (mkR 6 l) (.slice pd nd cd))) := Lib.hid HB2.out
    have HM : Hid (Row w (.slice pd nd cd) ((mkR 6 l).data.map u8v)) := Lib.hid HD.out
    have HMP : Hid (∀ base, Piece w base 5 (.slice pv l.length cv) (l.map u8v) → Piece w base 5 (.slice pd nd cd) ((mkR 6 l).data.map u8v)) := Lib.hid HDP.out
    have HWI := Lib.hid (within_any (mkR 6 l) (.slice pd nd cd) z2 (HM.out.keeps HK2.out) (show (1 : Int) ≤ 6 ∧ (6 : Int) ≤ 6 by decide))
    have HRR : Hid (readE 6 l = 0 → readR 6 l = mkR 6 l) := Lib.hid (fun h => by unfold readR; rw [if_pos h])
    clear HB2
    generalize mkR 6 l = rr at *
    go_wp2_with (refine wpList_ld rfl recM HB.out _ rfl rfl ?_)
    refine HWI.out.mono ?_
    rintro e x1 ⟨rfl, hkx⟩
    have HBx := Lib.hid (HB.out.keeps hkx)
    have HZx := Lib.hid (HZ2.out.keeps hkx)
    have HKx := Lib.hid (HK2.out.trans hkx)
    clear HB HZ2 HK2 HWI hkx
    generalize within rr = wi at *
    cases wi with
    | false =>
      have HE1 : Hid (readE 6 l = 1) := Lib.hid (HE.out.trans (if_pos (by simp)))
      have HF := Lib.hid (fun w' k => rread_fail (W := w) (v := .slice pv l.length cv) (w' := w') (kind := 6) (l := l) (er := 1) HE1.out (by decide) k)
      go_wp2_with (refine wpList_st (ds := zero12) rfl recM HZx.out rfl zero12_one _ _ rfl rfl rfl rfl ?_; intro w6 hB6 hM6)
      have HLd := Lib.hid (ld_run (P := Try.prog) recM hB6)
      have HKf := Lib.hid (hM6.keeps HKx.out (fun x hx => by have := HQ.out; omega))
      clear hB6 hM6
      exact bodyPost_ret (v := .tuple #[.agg zero12, .int .i64 1]) (by simp [results, Try.results44, Sem.run_bind, Sem.run_pure, Result.andThen_ok, Act.put, asAddr, HLd.out]) rfl (HF.out _ HKf.out)
    | true =>
      have HE1 : Hid (readE 6 l = 0) := Lib.hid (HE.out.trans (if_neg (by simp)))
      have HR1 := Lib.hid (HRR.out HE1.out)
      go_wp2_with (first
        | refine wpList_ld rfl recM HBx.out _ rfl rfl ?_
        | refine wpList_st (ds := recA rr (.slice pd nd cd)) rfl recM HZx.out rfl (recA_one _ _ _ _) _ _ rfl rfl rfl rfl ?_; intro w6 hB6 hM6)
      have HLd := Lib.hid (ld_run (P := Try.prog) recM hB6)
      have HKf := Lib.hid (hM6.keeps HKx.out (fun x hx => by have := HQ.out; omega))
      clear hB6 hM6
      exact bodyPost_ret (v := .tuple #[.agg (recA rr (.slice pd nd cd)), .int .i64 0]) (by simp [results, Try.results44, Sem.run_bind, Sem.run_pure, Result.andThen_ok, Act.put, asAddr, HLd.out]) rfl ⟨_, _, _, by rw [HR1.out, HE1.out], by rw [HR1.out]; exact HM.out, by rw [HR1.out]; exact HMP.out, HKf.out⟩
end Rcd
end Go.Proofs.Ytekkjhjaacjhnaa

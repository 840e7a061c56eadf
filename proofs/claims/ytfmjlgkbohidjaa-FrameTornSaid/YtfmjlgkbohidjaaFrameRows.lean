/- Lists of payloads: how they lie in memory; Bulk, and the law's rows. -/
import Derived.Test.YtfmjlgkbohidjaaFrameWrap
import Derived.Test.YtfmjlgkbohidjaaFrameCutPlain
import Derived.Test.YtfmjlgkbohidjaaOpen
import Derived.Test.YtfmjlgkbohidjaaLawKit
import Derived.Test.YtfmjlgkbohidjaaDrawn
import Derived.Test.YtfmjlgkbohidjaaOctetAwake
namespace Go.Proofs.Ytfmjlgkbohidjaa
open Go.RowKit
namespace Frm
open Oct

theorem row_cells {w : World} {v : Value} {l : List Value} (h : Row w v l) (hl : 0 < l.length) : ∃ b off cap, v = .slice (some ⟨b, off, none⟩) l.length cap ∧ Hid (∀ i x, l[i]? = some x → w.cell? ⟨b, off + i, none⟩ = some x) := by
  rcases h with ⟨a0, cap', rfl, hl0, -, -⟩ | ⟨b, off, cap', rfl, h1, h2, hcell⟩
  · rw [hl0] at hl
    simp at hl
  · exact ⟨b, off, cap', rfl, Lib.hid hcell⟩

/-- a payload in memory: its slice, its bytes -/
def payC (x : Value × List UInt8) : List Value := [x.1]
theorem payC_len (x : Value × List UInt8) : (payC x).length = 1 := rfl
def payOk (w : World) (x : Value × List UInt8) : Prop := Row w x.1 (x.2.map u8v)
theorem pay_map (l : List (Value × List UInt8)) : l.flatMap payC = l.map (·.1) := by
  induction l with
  | nil => rfl
  | cons x l ih => simp only [List.flatMap_cons, List.map_cons, ih]; rfl
theorem c5 : Try.prog.cellsOf 5 = 1 := by kernel_rfl
theorem c22 : Try.prog.cellsOf 22 = 1 := by kernel_rfl
theorem opens_pay {H : Type} {enc : TypeId × Value → H} {w : World} {base : Nat} {sp : Nat → Bool} {held : Bool} : Opens enc Try.prog w base sp held 22 payC (payOk w) := by
  have h := opens_slice (enc := enc) (w := w) (base := base) (sp := sp) (held := held) Try.underlying22 c5 (by decide) (fun _ => rfl) (opens_int (enc := enc) (P := Try.prog) (w := w) (base := base) (sp := sp) (held := held) Try.underlying5)
  refine opens_map h (fun x => (x.1, x.2.map fun n => UInt8.ofNat n.toNat)) (fun x _ => rfl) ?_
  rintro ⟨v, zs⟩ ⟨hr, hw⟩
  have e1 : zs.flatMap (fun a : Int => [Value.int .u8 a]) = zs.map (.int .u8) := by
    clear hr hw
    induction zs with
    | nil => rfl
    | cons z zs ih => simp only [List.flatMap_cons, List.map_cons, ih]; rfl
  have : (zs.map fun n => UInt8.ofNat n.toNat).map u8v = zs.map (.int .u8) := by
    rw [List.map_map]
    refine List.map_congr_left fun n hn => ?_
    have hb : 0 ≤ n ∧ n ≤ 255 := by simpa [Lit.wf, IntKind.min, IntKind.max, IntKind.signed, IntKind.bits] using hw n hn
    simp [u8v]
    omega
  unfold payOk
  simp only
  rw [this, ← e1]
  exact hr.row

def BulkDid (l : List (Value × List UInt8)) (w : World) (e : Ending) (w' : World) : Prop :=
  ∃ n : Nat, e = .returned (.int .i64 (n : Int)) ∧ (n ≤ 1000 → ∀ x ∈ l, x.2.length ≤ 1000) ∧ w = w'

set_option maxRecDepth 100000 in
set_option maxHeartbeats 2000000 in
theorem bulk_any (v : Value) (l : List (Value × List UInt8)) (w : World) (hr : Row w v (l.map (·.1))) (hp : ∀ x ∈ l, payOk w x) : Calls Try.prog 54 #[v, .int .i64 1000] w (BulkDid l w) := by
  obtain ⟨p, cap, rfl, hc1, hc2⟩ := hr.form
  rw [List.length_map] at hc1 ⊢
  have HR := Lib.hid hr
  have HP := Lib.hid hp
  unfold maxLen at hc2
  clear hr hp
  go_enter Try.func54, Try.ntmps54
  go_wp2_with fail
  go_loopw [5, 6] (fun nv iv wr => ∃ (n i : Nat), nv = .int .i64 (n : Int) ∧ iv = .int .i64 (i : Int) ∧ i ≤ l.length ∧ n ≤ 2002 ∧ Hid (n ≤ 1000 → ∀ x ∈ l.take i, x.2.length ≤ 1000) ∧ wr = w) (fun _ iv _ => l.length - (intOf iv).toNat)
  case atStart => exact ⟨0, 0, rfl, rfl, Nat.zero_le _, by omega, Lib.hid (by simp), rfl⟩
  case round =>
    obtain ⟨n, i, rfl, rfl, hi, hn, HA, rfl⟩ := hrel
    by_cases hlt : i < l.length
    · by_cases hn1 : n ≤ 1000
      · obtain ⟨b, off, cap', hv, hc⟩ := row_cells HR.out (by rw [List.length_map]; omega)
        simp only [Value.slice.injEq] at hv
        obtain ⟨rfl, -, rfl⟩ := hv
        have hcell : wr.cell? ⟨b, off + i, none⟩ = some l[i].1 := hc.out i _ (by simp [hlt])
        have hpay := HP.out l[i] (List.getElem_mem hlt)
        have HT : Hid (l.take (i + 1) = l.take i ++ [l[i]]) := Lib.hid (List.take_succ_eq_append_getElem hlt)
        generalize l[i] = y at *
        obtain ⟨yv, yl⟩ := y
        unfold payOk at hpay
        obtain ⟨q, qc, hyv, hq1, hq2⟩ := hpay.formB
        simp only at hyv hcell hq1
        subst hyv
        clear hpay
        by_cases hy : yl.length ≤ 1001
        · have hmin : min (yl.length : Int) 1001 = yl.length := by omega
          go_wp2_with fail
          go_roundw
          case rel => exact ⟨n + 1 + yl.length, i + 1, by simp, by simp, by omega, by omega, Lib.hid (fun h x hx => by
            rw [HT.out] at hx
            rcases List.mem_append.1 hx with h | h
            · exact HA.out (by omega) x h
            · simp at h; subst h; simp only; omega), trivial⟩
          case measure => simp [intOf] <;> omega
        · have hmin : min (yl.length : Int) 1001 = 1001 := by omega
          go_wp2_with fail
          go_roundw
          case rel => exact ⟨n + 1 + 1001, i + 1, by simp; omega, by simp, by omega, by omega, Lib.hid (fun h x hx => by omega), trivial⟩
          case measure => simp [intOf] <;> omega
      · go_wp2_with fail
        go_ret
        exact ⟨n, rfl, fun h => by omega, rfl⟩
    · have hil : i = l.length := by omega
      have H : Hid (BulkDid l wr (.returned (.int .i64 (n : Int))) wr) := Lib.hid ⟨n, rfl, fun h x hx => HA.out h x (by rw [hil, List.take_length]; exact hx), rfl⟩
      clear hil
      go_wp2_with fail
      go_ret
      exact H.out

/-- kinds and payloads -/
def zipF (ks : List UInt8) (l : List (Value × List UInt8)) : List (Nat × List UInt8) := List.zipWith (fun k x => (k.toNat, x.2)) ks l
theorem zipF_len {ks : List UInt8} {l : List (Value × List UInt8)} (h : l.length ≤ ks.length) : (zipF ks l).length = l.length := by
  unfold zipF; rw [List.length_zipWith]; omega
theorem zipF_at {ks : List UInt8} {l : List (Value × List UInt8)} {i : Nat} (h1 : i < ks.length) (h2 : i < l.length) : (zipF ks l)[i]? = some (ks[i].toNat, l[i].2) := by
  unfold zipF; rw [List.getElem?_zipWith, List.getElem?_eq_getElem h1, List.getElem?_eq_getElem h2]
theorem zipF_ok {ks : List UInt8} {l : List (Value × List UInt8)} (hl : ∀ x ∈ l, x.2.length ≤ 1000) : ∀ x ∈ zipF ks l, x.1 ≤ 255 ∧ x.2.length ≤ 1000 := by
  intro x hx
  obtain ⟨i, hi⟩ := List.mem_iff_getElem?.1 hx
  unfold zipF at hi
  rw [List.getElem?_zipWith] at hi
  cases hk : ks[i]? with
  | none => rw [hk] at hi; simp at hi
  | some k =>
    cases hy : l[i]? with
    | none => rw [hk, hy] at hi; simp at hi
    | some y =>
      rw [hk, hy] at hi
      simp at hi
      subst hi
      have := k.toNat_lt
      exact ⟨by simp only; omega, hl y (List.mem_of_getElem? hy)⟩
theorem cat_len : ∀ (F : List (Nat × List UInt8)), (∀ x ∈ F, x.1 ≤ 255 ∧ x.2.length ≤ 1000) → (cat F).length ≤ F.length * 2019 := by
  intro F
  induction F with
  | nil => intro _; simp [cat]
  | cons x F ih =>
    intro h
    obtain ⟨h1, h2⟩ := h x (by simp)
    have := ih (fun y hy => h y (by simp [hy]))
    rw [cat_cons, List.length_append, (wrapL_ok h1 (by omega)).2, List.length_cons, List.length_cons]
    have := (veil_len (body x.1 x.2)).2
    rw [body_len] at this
    omega
theorem take_succ_at {α : Type} {l : List α} {i : Nat} {x : α} (h : l[i]? = some x) : l.take (i + 1) = l.take i ++ [x] := by
  rw [List.take_add_one, h]; rfl

theorem iok : ElemOk Try.prog 77 3 8 := elemOk (z := .int .i64 0) Try.underlying77 (by kernel_rfl) rfl
def endsL (F : List (Nat × List UInt8)) (n : Nat) : List Value := (List.range n).map fun i => .int .i64 (endAt F i : Nat)
def RowsDid (F : List (Nat × List UInt8)) (n : Nat) (W : World) (e : Ending) (w' : World) : Prop :=
  ∃ va ve, e = .returned (.tuple #[va, ve]) ∧ Own w' W.heap.size 5 va ((cat F).map u8v) ∧ Own w' W.heap.size 3 ve (endsL F n) ∧ Keeps W w'
theorem own_grown_ne {w w' : World} {base base2 : Nat} {e e2 : TypeId} {v v2 : Value} {xs xs2 : List Value} (h : Own w base e v xs) (h2 : Own w base2 e2 v2 xs2) (hne : e2 ≠ e) (hg : w.grownBy w' v2.ownBlock) : Own w' base e v xs := by
  have hM : Mods (fun x => v2.ownBlock = some x) w w' := (Mods.refl _ w).grown hg (fun k hk _ => hk)
  refine ⟨h.1, ?_⟩
  rcases h.2 with h0 | ⟨g, cap, cur, rfl, hb, hgg, rest⟩
  · exact .inl h0
  · refine .inr ⟨g, cap, cur, rfl, hb, hM.heap hgg (fun hs => ?_), rest⟩
    rcases h2.2 with ⟨rfl, _⟩ | ⟨g', cap', cur', rfl, hb', hgg', rest'⟩
    · simp [Value.ownBlock] at hs
    · simp [Value.ownBlock] at hs
      subst hs
      rw [hgg] at hgg'
      simp only [Option.some.injEq, Obj.cells.injEq] at hgg'
      exact hne hgg'.2.1.symm

set_option maxRecDepth 100000 in
set_option maxHeartbeats 2000000 in
theorem rows_any (v0 v1 : Value) (l : List (Value × List UInt8)) (ks : List UInt8) (w : World) (r0 : Row w v0 (l.map (·.1))) (hp : ∀ x ∈ l, payOk w x) (r1 : Row w v1 (ks.map u8v)) (hkl : l.length ≤ ks.length) (hl : l.length ≤ 30) (hs : ∀ x ∈ l, x.2.length ≤ 1000) :
    Calls Try.prog 55 #[v0, v1] w (RowsDid (zipF ks l) l.length w) := by
  obtain ⟨p, cap, rfl, hc1, hc2⟩ := r0.form
  rw [List.length_map] at hc1 ⊢
  obtain ⟨p1, cap1, rfl, hc3, hc4⟩ := r1.formB
  unfold maxLen at hc2
  have HR := Lib.hid r0
  have HP := Lib.hid hp
  have HR1 := Lib.hid r1
  have HS := Lib.hid hs
  have HZ := Lib.hid (zipF_ok (ks := ks) hs)
  have HZl := Lib.hid (zipF_len hkl)
  have HZa := Lib.hid (fun i h1 h2 => zipF_at (ks := ks) (l := l) (i := i) h1 h2)
  clear r0 hp r1 hs
  generalize zipF ks l = F at *
  go_enter Try.func55, Try.ntmps55
  go_wp2_with fail
  go_loopw [6, 7, 8] (fun av ev iv wr => ∃ i : Nat, iv = .int .i64 (i : Int) ∧ i ≤ l.length ∧ Own wr w.heap.size 5 av ((cat (F.take i)).map u8v) ∧ Own wr w.heap.size 3 ev (endsL F i) ∧ Keeps w wr) (fun _ _ iv _ => l.length - (intOf iv).toNat)
  case atStart => exact ⟨0, rfl, Nat.zero_le _, by simpa [cat] using Own.nil _ _ _, by simpa [endsL] using Own.nil _ _ _, Keeps.refl _⟩
  case round =>
    obtain ⟨i, rfl, hi, hA, hE, hK⟩ := hrel
    obtain ⟨pa, ca, rfl, hca1, hca2⟩ := hA.row.formB
    obtain ⟨pe, ce, rfl, hce1, hce2⟩ := hE.row.form
    have hel : (endsL F i).length = i := by simp [endsL]
    rw [hel] at hce1
    have HA := Lib.hid hA
    have HE := Lib.hid hE
    have HK := Lib.hid hK
    have hsz := hK.size
    have HEl := Lib.hid hel
    have hELb : (endsL F i).length ≤ 30 := by omega
    unfold maxLen at hce2
    have hcl : (cat (F.take i)).length ≤ 60570 := by
      have := cat_len (F.take i) (fun x hx => HZ.out x (List.mem_of_mem_take hx))
      have h2 := List.length_take_le i F
      have h3 := HZl.out
      omega
    by_cases hlt : i < l.length
    · obtain ⟨b, off, cap', hv, hc⟩ := row_cells (HR.out.keeps hK) (by rw [List.length_map]; omega)
      obtain ⟨b1, off1, cap1', hv1, -, -, hc1'⟩ := (HR1.out.keeps hK).bytesAt (by omega)
      simp only [Value.slice.injEq] at hv hv1
      obtain ⟨rfl, -, rfl⟩ := hv
      obtain ⟨rfl, -, rfl⟩ := hv1
      have hcell : wr.cell? ⟨b, off + i, none⟩ = some l[i].1 := hc.out i _ (by simp [hlt])
      have hik : i < ks.length := by omega
      have hcell1 : wr.cell? ⟨b1, off1 + i, none⟩ = some (.int .u8 (ks[i].toNat : Int)) := hc1'.out i _ (by simp [hik])
      have hpay : payOk w l[i] := HP.out l[i] (List.getElem_mem hlt)
      have hlen : l[i].2.length ≤ 1000 := HS.out l[i] (List.getElem_mem hlt)
      have hz := HZa.out i hik hlt
      have HT := Lib.hid (take_succ_at hz)
      have hkk := ks[i].toNat_lt
      clear hz
      generalize l[i] = y at *
      generalize ks[i] = kd at *
      obtain ⟨yv, yl⟩ := y
      unfold payOk at hpay
      obtain ⟨q, qc, hyv, hq1, hq2⟩ := hpay.formB
      simp only at hyv hcell hq1 hlen HT
      subst hyv
      have HPay := Lib.hid (hpay.keeps hK)
      have hwk : IntKind.i64.wrap (kd.toNat : Int) = (kd.toNat : Int) := IntWalk.i64_in _ (by omega)
      have HW := Lib.hid (wrapL_ok (k := kd.toNat) (p := yl) (by omega) (by omega))
      have HVl := Lib.hid ((veil_len (body kd.toNat yl)).2)
      clear hpay hA hE hK hel
      go_upto_region 6 with fail
      refine wp_region_noPanic ?_
      refine wp_region_held_drew (S := fun w' => Keeps (wr) w') (by kernel_rfl) ((Keeps.refl _).drew) (fun _ => ?_)
      have hHeld : Keeps (wr) (wr).drew := (Keeps.refl _).drew
      refine wpAnyH_take (i := 0) (v := ?vv1) (by rfl) (by kernel_rfl) (by kernel_rfl) (by kernel_rfl) (by intro _ _ _ h; exact h) (Or.inl ⟨by kernel_rfl, ?hy1⟩) (by assumption) ?rest1
      case hy1 =>
        intro w' hSw
        have hSw : Keeps _ w' := hSw
        clear hSw
        go_simp
        try with_reducible rfl
      change wpAnyH _ _ _ _ _ _ _ (Act.put _ (some 18) _) _
      try simp only [Act.put, List.setIfInBounds_toArray, List.set_cons_zero, List.set_cons_succ]
      refine wpAnyH_take (i := 1) (v := ?vv2) (by rfl) (by kernel_rfl) (by kernel_rfl) (by kernel_rfl) (by intro _ _ _ h; exact h) (Or.inl ⟨by kernel_rfl, ?hy2⟩) (by assumption) ?rest2
      case hy2 =>
        intro w' hSw
        have hSw : Keeps _ w' := hSw
        clear hSw
        go_simp
        try with_reducible rfl
      change wpAnyH _ _ _ _ _ _ _ (Act.put _ (some 19) _) _
      try simp only [Act.put, List.setIfInBounds_toArray, List.set_cons_zero, List.set_cons_succ]
      refine wpAnyH_take (i := 2) (v := ?vv3) (by rfl) (by kernel_rfl) (by kernel_rfl) (by kernel_rfl) (by intro _ _ _ h; exact h) (Or.inl ⟨by kernel_rfl, ?hy3⟩) (by assumption) ?rest3
      case hy3 =>
        intro w' hSw
        have hSw : Keeps _ w' := hSw
        clear hSw
        go_simp
        try with_reducible rfl
      change wpAnyH _ _ _ _ _ _ _ (Act.put _ (some 20) _) _
      try simp only [Act.put, List.setIfInBounds_toArray, List.set_cons_zero, List.set_cons_succ]
      refine wpAnyH_take (i := 3) (v := ?vv4) (by rfl) (by kernel_rfl) (by kernel_rfl) (by kernel_rfl) (by intro _ _ _ h; exact h) (Or.inl ⟨by kernel_rfl, ?hy4⟩) (by assumption) ?rest4
      case hy4 =>
        intro w' hSw
        have hSw : Keeps _ w' := hSw
        have hx := keep1 hSw hcell1
        clear hSw
        go_simp
        try with_reducible rfl
      change wpAnyH _ _ _ _ _ _ _ (Act.put _ (some 21) _) _
      try simp only [Act.put, List.setIfInBounds_toArray, List.set_cons_zero, List.set_cons_succ]
      refine wpAnyH_take (i := 4) (v := ?vv5) (by rfl) (by kernel_rfl) (by kernel_rfl) (by kernel_rfl) (by intro _ _ _ h; exact h) (Or.inl ⟨by kernel_rfl, ?hy5⟩) (by assumption) ?rest5
      case hy5 =>
        intro w' hSw
        have hSw : Keeps _ w' := hSw
        clear hSw
        go_simp
        try with_reducible rfl
      change wpAnyH _ _ _ _ _ _ _ (Act.put _ (some 22) _) _
      try simp only [Act.put, List.setIfInBounds_toArray, List.set_cons_zero, List.set_cons_succ]
      refine wpAnyH_take (i := 5) (v := ?vv6) (by rfl) (by kernel_rfl) (by kernel_rfl) (by kernel_rfl) (by intro _ _ _ h; exact h) (Or.inl ⟨by kernel_rfl, ?hy6⟩) (by assumption) ?rest6
      case hy6 =>
        intro w' hSw
        have hSw : Keeps _ w' := hSw
        clear hSw
        go_simp
        try with_reducible rfl
      change wpAnyH _ _ _ _ _ _ _ (Act.put _ (some 23) _) _
      try simp only [Act.put, List.setIfInBounds_toArray, List.set_cons_zero, List.set_cons_succ]
      refine wpAnyH_take (i := 6) (v := ?vv7) (by rfl) (by kernel_rfl) (by kernel_rfl) (by kernel_rfl) (by intro _ _ _ h; exact h) (Or.inl ⟨by kernel_rfl, ?hy7⟩) (by assumption) ?rest7
      case hy7 =>
        intro w' hSw
        have hSw : Keeps _ w' := hSw
        clear hSw
        go_simp
        try with_reducible rfl
      change wpAnyH _ _ _ _ _ _ _ (Act.put _ (some 24) _) _
      try simp only [Act.put, List.setIfInBounds_toArray, List.set_cons_zero, List.set_cons_succ]
      refine wpAnyH_take (i := 7) (v := ?vv8) (by rfl) (by kernel_rfl) (by kernel_rfl) (by kernel_rfl) (by intro _ _ _ h; exact h) (Or.inl ⟨by kernel_rfl, ?hy8⟩) (by assumption) ?rest8
      case hy8 =>
        intro w' hSw
        have hSw : Keeps _ w' := hSw
        clear hSw
        go_simp
        try with_reducible rfl
      change wpAnyH _ _ _ _ _ _ _ (Act.put _ (some 25) _) _
      try simp only [Act.put, List.setIfInBounds_toArray, List.set_cons_zero, List.set_cons_succ]
      refine wpAnyH_take (i := 8) (v := ?vv9) (by rfl) (by kernel_rfl) (by kernel_rfl) (by kernel_rfl) (by intro _ _ _ h; exact h) (Or.inl ⟨by kernel_rfl, ?hy9⟩) (by assumption) ?rest9
      case hy9 =>
        intro w' hSw
        have hSw : Keeps _ w' := hSw
        have hx := keep1 hSw hcell
        clear hSw
        go_simp
        try with_reducible rfl
      change wpAnyH _ _ _ _ _ _ _ (Act.put _ (some 26) _) _
      try simp only [Act.put, List.setIfInBounds_toArray, List.set_cons_zero, List.set_cons_succ]
      refine wpAnyH_ready (rs := [9]) (by kernel_rfl) (by simp) ?_
      refine AllReadyH.cons (o := _) rfl (fun K hK => ?_) AllReadyH.nil
      go_simp
      refine (wrap_any (kd.toNat : Int) (.slice q yl.length qc) yl _ (HPay.out.keeps hHeld)).mono ?_
      rintro e w5 ⟨vb, rfl, hown5, hk⟩
      have hb : Keeps _ w5 := hHeld.trans hk
      have H5 := Lib.hid hown5
      have HB := Lib.hid hb
      clear hown5
      go_wp2_with fail
      refine hK.out _ _ hb (fun _ => ?_)
      clear hK K
      try simp only [Act.put, List.setIfInBounds_toArray, List.set_cons_zero, List.set_cons_succ]
      refine wpAnyH_more (S' := fun w' => Keeps w5 w') (fun _ h => hb.trans h) ?_
      clear hHeld hb hk
      have hHeld : Keeps w5 w5 := Keeps.refl _
      refine wpAnyH_take (i := 10) (v := ?vv10) (by rfl) (by kernel_rfl) (by kernel_rfl) (by kernel_rfl) (by intro _ _ _ h; exact h) (Or.inl ⟨by kernel_rfl, ?hy10⟩) (by assumption) ?rest10
      case hy10 =>
        intro w' hSw
        have hSw : Keeps _ w' := hSw
        clear hSw
        go_simp
        try with_reducible rfl
      change wpAnyH _ _ _ _ _ _ _ (Act.put _ (some 17) _) _
      try simp only [Act.put, List.setIfInBounds_toArray, List.set_cons_zero, List.set_cons_succ]
      refine wpAnyH_take (i := 11) (v := ?vv11) (by rfl) (by kernel_rfl) (by kernel_rfl) (by kernel_rfl) (by intro _ _ _ h; exact h) (Or.inl ⟨by kernel_rfl, ?hy11⟩) (by assumption) ?rest11
      case hy11 =>
        intro w' hSw
        have hSw : Keeps _ w' := hSw
        clear hSw
        go_simp
        try with_reducible rfl
      change wpAnyH _ _ _ _ _ _ _ (Act.put _ (some 28) _) _
      try simp only [Act.put, List.setIfInBounds_toArray, List.set_cons_zero, List.set_cons_succ]
      refine wpAnyH_take (i := 12) (v := ?vv12) (by rfl) (by kernel_rfl) (by kernel_rfl) (by kernel_rfl) (by intro _ _ _ h; exact h) (Or.inl ⟨by kernel_rfl, ?hy12⟩) (by assumption) ?rest12
      case hy12 =>
        intro w' hSw
        have hSw : Keeps _ w' := hSw
        clear hSw
        go_simp
        try with_reducible rfl
      change wpAnyH _ _ _ _ _ _ _ (Act.put _ (some 29) _) _
      try simp only [Act.put, List.setIfInBounds_toArray, List.set_cons_zero, List.set_cons_succ]
      refine wpAnyH_take (i := 13) (v := ?vv13) (by rfl) (by kernel_rfl) (by kernel_rfl) (by kernel_rfl) (by intro _ _ _ h; exact h) (Or.inl ⟨by kernel_rfl, ?hy13⟩) (by assumption) ?rest13
      case hy13 =>
        intro w' hSw
        have hSw : Keeps _ w' := hSw
        clear hSw
        go_simp
        try with_reducible rfl
      change wpAnyH _ _ _ _ _ _ _ (Act.put _ (some 9) _) _
      try simp only [Act.put, List.setIfInBounds_toArray, List.set_cons_zero, List.set_cons_succ]
      refine wpAnyH_take (i := 14) (v := ?vv14) (by rfl) (by kernel_rfl) (by kernel_rfl) (by kernel_rfl) (by intro _ _ _ h; exact h) (Or.inl ⟨by kernel_rfl, ?hy14⟩) (by assumption) ?rest14
      case hy14 =>
        intro w' hSw
        have hSw : Keeps _ w' := hSw
        clear hSw
        go_simp
        try with_reducible rfl
      change wpAnyH _ _ _ _ _ _ _ (Act.put _ (some 10) _) _
      try simp only [Act.put, List.setIfInBounds_toArray, List.set_cons_zero, List.set_cons_succ]
      refine wpAnyH_done (by kernel_rfl) ?_ _
      refine NoPanic.normal ?_
      have hBl : (wrapL (kd.toNat : Int) yl).length ≤ 2019 := by
        rw [HW.out.2, List.length_cons]
        have := HVl.out
        rw [body_len] at this
        omega
      have HC : Hid (cat (F.take (i + 1)) = cat (F.take i) ++ wrapL (kd.toNat : Int) yl ∧ endAt F i = (cat (F.take i)).length + (wrapL (kd.toNat : Int) yl).length) := Lib.hid (by
        have h : cat (F.take (i + 1)) = cat (F.take i) ++ wrapL (kd.toNat : Int) yl := by rw [HT.out, cat_append]; simp [cat]
        exact ⟨h, by unfold endAt; rw [h, List.length_append]⟩)
      have HEn : Hid (endsL F (i + 1) = endsL F i ++ [.int .i64 (endAt F i : Nat)]) := Lib.hid (by unfold endsL; rw [List.range_succ, List.map_append]; rfl)
      rw [HC.out.2] at HEn
      have HA5 := Lib.hid (HA.out.keeps HB.out)
      have HE5 := Lib.hid (HE.out.keeps HB.out)
      have HK5 := Lib.hid (HK.out.trans HB.out)
      have hsz5 := HK5.out.size
      clear HW HVl HA HE
      generalize wrapL (kd.toNat : Int) yl = B at *
      generalize cat (F.take i) = A at *
      generalize endsL F i = EL at *
      obtain ⟨pb, cb, rfl, hpb1, hpb2⟩ := H5.out.row.formB
      clear hHeld
      go_wp2_with (at_builtin; first
        | (refine wpList_app1 (base := w.heap.size) u8ok rfl _ _ rfl (.slice pa A.length ca) (.slice pb B.length cb) (A.map u8v) (B.map u8v) rfl rfl HA5.out H5.out.row (oneCell_map_u8 _) (by simp; omega) (by omega) hsz5 ?_; intro v' w6 ho6 hg6 hf6; rw [← List.map_append] at ho6; obtain ⟨p6, c6, rfl, -, -⟩ := ho6.row.formB; have HE6 := Lib.hid (own_grown_ne HE5.out HA5.out (by decide) hg6); have HA6 := Lib.hid ho6; have HK6 := Lib.hid (HK5.out.grown hg6 (fun x hx => HA5.out.base x hx)); have hsz6 := HK6.out.size; clear ho6 hf6)
        | (refine wpList_app1 (base := w.heap.size) iok rfl _ _ rfl (.slice pe EL.length ce) (.slice (some ⟨w6.heap.size, 0, none⟩) 1 1) EL [.int .i64 ((A.length : Int) + B.length)] rfl rfl (HE6.out.alloc _) (row_one rfl) (by simp [Value.oneCell']) (by simp; omega) (by omega) (by simp; omega) ?_; intro v' w7 ho7 hg7 hf7))
      go_roundw
      case rel =>
        refine ⟨i + 1, by simp, by omega, ?_, ?_, (HK6.out.alloc _).grown hg7 (fun x hx => HE6.out.base x hx)⟩
        · rw [HC.out.1]
          have h6 := HA6.out
          rw [List.length_append] at h6
          exact own_grown_ne (h6.alloc _) (HE6.out.alloc _) (by decide) hg7
        · rw [HEn.out]
          simpa using ho7
      case measure =>
        simp only [intOf]
        omega
    · have hil : i = l.length := by omega
      have HX : Hid (RowsDid F l.length w (.returned (.tuple #[.slice pa (cat (F.take i)).length ca, .slice pe (endsL F i).length ce])) wr) := Lib.hid (by
        refine ⟨_, _, rfl, ?_, ?_, HK.out⟩
        · have := HA.out
          rw [hil, List.take_of_length_le (by rw [HZl.out]; omega)] at this ⊢
          exact this
        · have := HE.out
          rw [hil] at this ⊢
          exact this)
      have HF2 := HEl
      clear hil
      generalize (cat (F.take i)).length = AL at *
      go_wp2_with fail
      go_ret2
      exact HX.out
end Frm
end Go.Proofs.Ytfmjlgkbohidjaa

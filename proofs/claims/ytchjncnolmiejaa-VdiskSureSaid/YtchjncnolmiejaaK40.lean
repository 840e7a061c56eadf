/- Several texts in one: FrameRows, VdActs. -/
import Derived.Test.YtchjncnolmiejaaK12
import Derived.Test.YtchjncnolmiejaaK39
import Derived.Test.YtchjncnolmiejaaK30
import Derived.Test.YtchjncnolmiejaaLawKit
import Derived.Test.YtchjncnolmiejaaDrawn
import Derived.Test.YtchjncnolmiejaaK10
import Derived.Test.YtchjncnolmiejaaK00
/- Lists of payloads: how they lie in memory; Bulk, and the law's rows. -/
namespace Go.Proofs.Ytchjncnolmiejaa
open Go.RowKit
namespace Frm
open Oct

theorem row_cells {w : World} {v : Value} {l : List Value} (h : Row w v l) (hl : 0 < l.length) : ∃ b off cap, v = .slice (some ⟨b, off, none⟩) l.length cap ∧ Hid (∀ i x, l[i]? = some x → w.cell? ⟨b, off + i, none⟩ = some x) := by
  rcases h with ⟨a0, cap', rfl, hl0, -, -⟩ | ⟨b, off, cap', rfl, h1, h2, hcell⟩
  · rw [hl0] at hl
    simp at hl
  · exact ⟨b, off, cap', rfl, Lib.hid hcell⟩

/-- a payload in memory: its slice, its bytes -/
def payC (x : Value × List UInt8) : List Value := [x.1]
theorem payC_len (x : Value × List UInt8) : (payC x).length = 1 := rfl
def payOk (w : World) (x : Value × List UInt8) : Prop := Row w x.1 (x.2.map u8v)
theorem pay_map (l : List (Value × List UInt8)) : l.flatMap payC = l.map (·.1) := by
  induction l with
  | nil => rfl
  | cons x l ih => simp only [List.flatMap_cons, List.map_cons, ih]; rfl
theorem c5 : Try.prog.cellsOf 5 = 1 := by kernel_rfl
theorem c22 : Try.prog.cellsOf 22 = 1 := by kernel_rfl
theorem opens_pay {H : Type} {enc : TypeId × Value → H} {w : World} {base : Nat} {sp : Nat → Bool} {held : Bool} : Opens enc Try.prog w base sp held 22 payC (payOk w) := by
  have h := opens_slice (enc := enc) (w := w) (base := base) (sp := sp) (held := held) Try.underlying22 c5 (by decide) (fun _ => rfl) (opens_int (enc := enc) (P := Try.prog) (w := w) (base := base) (sp := sp) (held := held) Try.underlying5)
  refine opens_map h (fun x => (x.1, x.2.map fun n => UInt8.ofNat n.toNat)) (fun x _ => rfl) ?_
  rintro ⟨v, zs⟩ ⟨hr, hw⟩
  have e1 : zs.flatMap (fun a : Int => [Value.int .u8 a]) = zs.map (.int .u8) := by
    clear hr hw
    induction zs with
    | nil => rfl
    | cons z zs ih => simp only [List.flatMap_cons, List.map_cons, ih]; rfl
  have : (zs.map fun n => UInt8.ofNat n.toNat).map u8v = zs.map (.int .u8) := by
    rw [List.map_map]
    refine List.map_congr_left fun n hn => ?_
    have hb : 0 ≤ n ∧ n ≤ 255 := by simpa [Lit.wf, IntKind.min, IntKind.max, IntKind.signed, IntKind.bits] using hw n hn
    simp [u8v]
    omega
  unfold payOk
  simp only
  rw [this, ← e1]
  exact hr.row

def BulkDid (l : List (Value × List UInt8)) (w : World) (e : Ending) (w' : World) : Prop :=
  ∃ n : Nat, e = .returned (.int .i64 (n : Int)) ∧ (n ≤ 1000 → ∀ x ∈ l, x.2.length ≤ 1000) ∧ w = w'

set_option maxRecDepth 100000 in
set_option maxHeartbeats 2000000 in
theorem bulk_any (v : Value) (l : List (Value × List UInt8)) (w : World) (hr : Row w v (l.map (·.1))) (hp : ∀ x ∈ l, payOk w x) : Calls Try.prog 35 #[v, .int .i64 1000] w (BulkDid l w) := by
  obtain ⟨p, cap, rfl, hc1, hc2⟩ := hr.form
  rw [List.length_map] at hc1 ⊢
  have HR := Lib.hid hr
  have HP := Lib.hid hp
  unfold maxLen at hc2
  clear hr hp
  go_enter Try.func35, Try.ntmps35
  go_wp2_with fail
  go_loopw [5, 6] (fun nv iv wr => ∃ (n i : Nat), nv = .int .i64 (n : Int) ∧ iv = .int .i64 (i : Int) ∧ i ≤ l.length ∧ n ≤ 2002 ∧ Hid (n ≤ 1000 → ∀ x ∈ l.take i, x.2.length ≤ 1000) ∧ wr = w) (fun _ iv _ => l.length - (intOf iv).toNat)
  case atStart => exact ⟨0, 0, rfl, rfl, Nat.zero_le _, by omega, Lib.hid (by simp), rfl⟩
  case round =>
    obtain ⟨n, i, rfl, rfl, hi, hn, HA, rfl⟩ := hrel
    by_cases hlt : i < l.length
    · by_cases hn1 : n ≤ 1000
      · obtain ⟨b, off, cap', hv, hc⟩ := row_cells HR.out (by rw [List.length_map]; omega)
        simp only [Value.slice.injEq] at hv
        obtain ⟨rfl, -, rfl⟩ := hv
        have hcell : wr.cell? ⟨b, off + i, none⟩ = some l[i].1 := hc.out i _ (by simp [hlt])
        have hpay := HP.out l[i] (List.getElem_mem hlt)
        have HT : Hid (l.take (i + 1) = l.take i ++ [l[i]]) := Lib.hid (List.take_succ_eq_append_getElem hlt)
        generalize l[i] = y at *
        obtain ⟨yv, yl⟩ := y
        unfold payOk at hpay
        obtain ⟨q, qc, hyv, hq1, hq2⟩ := hpay.formB
        simp only at hyv hcell hq1
        subst hyv
        clear hpay
        by_cases hy : yl.length ≤ 1001
        · have hmin : min (yl.length : Int) 1001 = yl.length := by omega
          go_wp2_with fail
          go_roundw
          case rel => exact ⟨n + 1 + yl.length, i + 1, by simp, by simp, by omega, by omega, Lib.hid (fun h x hx => by
            rw [HT.out] at hx
            rcases List.mem_append.1 hx with h | h
            · exact HA.out (by omega) x h
            · simp at h; subst h; simp only; omega), trivial⟩
          case measure => simp [intOf] <;> omega
        · have hmin : min (yl.length : Int) 1001 = 1001 := by omega
          go_wp2_with fail
          go_roundw
          case rel => exact ⟨n + 1 + 1001, i + 1, by simp; omega, by simp, by omega, by omega, Lib.hid (fun h x hx => by omega), trivial⟩
          case measure => simp [intOf] <;> omega
      · go_wp2_with fail
        go_ret
        exact ⟨n, rfl, fun h => by omega, rfl⟩
    · have hil : i = l.length := by omega
      have H : Hid (BulkDid l wr (.returned (.int .i64 (n : Int))) wr) := Lib.hid ⟨n, rfl, fun h x hx => HA.out h x (by rw [hil, List.take_length]; exact hx), rfl⟩
      clear hil
      go_wp2_with fail
      go_ret
      exact H.out

/-- kinds and payloads -/
def zipF (ks : List UInt8) (l : List (Value × List UInt8)) : List (Nat × List UInt8) := List.zipWith (fun k x => (k.toNat, x.2)) ks l
theorem zipF_len {ks : List UInt8} {l : List (Value × List UInt8)} (h : l.length ≤ ks.length) : (zipF ks l).length = l.length := by
  unfold zipF; rw [List.length_zipWith]; omega
theorem zipF_at {ks : List UInt8} {l : List (Value × List UInt8)} {i : Nat} (h1 : i < ks.length) (h2 : i < l.length) : (zipF ks l)[i]? = some (ks[i].toNat, l[i].2) := by
  unfold zipF; rw [List.getElem?_zipWith, List.getElem?_eq_getElem h1, List.getElem?_eq_getElem h2]
theorem zipF_ok {ks : List UInt8} {l : List (Value × List UInt8)} (hl : ∀ x ∈ l, x.2.length ≤ 1000) : ∀ x ∈ zipF ks l, x.1 ≤ 255 ∧ x.2.length ≤ 1000 := by
  intro x hx
  obtain ⟨i, hi⟩ := List.mem_iff_getElem?.1 hx
  unfold zipF at hi
  rw [List.getElem?_zipWith] at hi
  cases hk : ks[i]? with
  | none => rw [hk] at hi; simp at hi
  | some k =>
    cases hy : l[i]? with
    | none => rw [hk, hy] at hi; simp at hi
    | some y =>
      rw [hk, hy] at hi
      simp at hi
      subst hi
      have := k.toNat_lt
      exact ⟨by simp only; omega, hl y (List.mem_of_getElem? hy)⟩
theorem cat_len : ∀ (F : List (Nat × List UInt8)), (∀ x ∈ F, x.1 ≤ 255 ∧ x.2.length ≤ 1000) → (cat F).length ≤ F.length * 2019 := by
  intro F
  induction F with
  | nil => intro _; simp [cat]
  | cons x F ih =>
    intro h
    obtain ⟨h1, h2⟩ := h x (by simp)
    have := ih (fun y hy => h y (by simp [hy]))
    rw [cat_cons, List.length_append, (wrapL_ok h1 (by omega)).2, List.length_cons, List.length_cons]
    have := (veil_len (body x.1 x.2)).2
    rw [body_len] at this
    omega
theorem take_succ_at {α : Type} {l : List α} {i : Nat} {x : α} (h : l[i]? = some x) : l.take (i + 1) = l.take i ++ [x] := by
  rw [List.take_add_one, h]; rfl

theorem iok : ElemOk Try.prog 24 3 8 := elemOk (z := .int .i64 0) Try.underlying24 (by kernel_rfl) rfl
def endsL (F : List (Nat × List UInt8)) (n : Nat) : List Value := (List.range n).map fun i => .int .i64 (endAt F i : Nat)
def RowsDid (F : List (Nat × List UInt8)) (n : Nat) (W : World) (e : Ending) (w' : World) : Prop :=
  ∃ va ve, e = .returned (.tuple #[va, ve]) ∧ Own w' W.heap.size 5 va ((cat F).map u8v) ∧ Own w' W.heap.size 3 ve (endsL F n) ∧ Keeps W w'
theorem own_grown_ne {w w' : World} {base base2 : Nat} {e e2 : TypeId} {v v2 : Value} {xs xs2 : List Value} (h : Own w base e v xs) (h2 : Own w base2 e2 v2 xs2) (hne : e2 ≠ e) (hg : w.grownBy w' v2.ownBlock) : Own w' base e v xs := by
  have hM : Mods (fun x => v2.ownBlock = some x) w w' := (Mods.refl _ w).grown hg (fun k hk _ => hk)
  refine ⟨h.1, ?_⟩
  rcases h.2 with h0 | ⟨g, cap, cur, rfl, hb, hgg, rest⟩
  · exact .inl h0
  · refine .inr ⟨g, cap, cur, rfl, hb, hM.heap hgg (fun hs => ?_), rest⟩
    rcases h2.2 with ⟨rfl, _⟩ | ⟨g', cap', cur', rfl, hb', hgg', rest'⟩
    · simp [Value.ownBlock] at hs
    · simp [Value.ownBlock] at hs
      subst hs
      rw [hgg] at hgg'
      simp only [Option.some.injEq, Obj.cells.injEq] at hgg'
      exact hne hgg'.2.1.symm

end Frm
end Go.Proofs.Ytchjncnolmiejaa

/- The acts of the disk's laws: how they lie in memory; few. -/
namespace Go.Proofs.Ytchjncnolmiejaa
open Go.RowKit
namespace Vd
structure Act where
  kind : Int
  a : Str
  b : Str
  n : Int
  code : Int
  kv : Value
  keep : List Int
def actC (x : Act) : List Value := [.int .i64 x.kind, .string (bstr x.a), .string (bstr x.b), .int .i64 x.n, .int .i64 x.code, x.kv]
theorem actC_len (x : Act) : (actC x).length = 6 := rfl
structure ActOk (w : World) (x : Act) : Prop where
  a : x.a.length ≤ maxLen
  b : x.b.length ≤ maxLen
  n : (Lit.int .i64 x.n).wf = true
  row : Row w x.kv (x.keep.map (Value.int .i64))
theorem cI : Try.prog.cellsOf 3 = 1 := by kernel_rfl
theorem cStr : Try.prog.cellsOf 9 = 1 := by kernel_rfl
theorem cAct : Try.prog.cellsOf 36 = 6 := by kernel_rfl
theorem cInts : Try.prog.cellsOf 24 = 1 := by kernel_rfl
theorem cErrno : Try.prog.cellsOf 29 = 1 := by kernel_rfl
theorem ints_map (zs : List Int) : zs.flatMap (fun a : Int => [Value.int .i64 a]) = zs.map (.int .i64) := by
  induction zs with
  | nil => rfl
  | cons z zs ih => simp only [List.flatMap_cons, List.map_cons, ih]; rfl
theorem opens_act {H : Type} {enc : TypeId × Value → H} {w : World} {base : Nat} {sp : Nat → Bool} {held : Bool} : Opens enc Try.prog w base sp held 36 actC (ActOk w) := by
  have hk := opens_slice (enc := enc) (w := w) (base := base) (sp := sp) (held := held) Try.underlying24 cI (by decide) (fun _ => rfl) (opens_int (enc := enc) (P := Try.prog) (w := w) (base := base) (sp := sp) (held := held) Try.underlying3)
  have h := opens_struct (enc := enc) (w := w) (base := base) (sp := sp) (held := held) Try.underlying36 cAct
    (opensF_cons rfl cI (opens_int Try.underlying3) (opensF_cons rfl cStr (opens_string Oct.str9) (opensF_cons rfl cStr (opens_string Oct.str9)
      (opensF_cons rfl cI (opens_int Try.underlying3) (opensF_cons rfl cErrno (opens_int Try.underlying29) (opensF_cons rfl cInts hk opensF_nil))))))
  refine opens_map h (fun x => ⟨x.1, x.2.1.data.toList, x.2.2.1.data.toList, x.2.2.2.1, x.2.2.2.2.1, x.2.2.2.2.2.1.1, x.2.2.2.2.2.1.2⟩) ?_ ?_
  · rintro ⟨a, b, c, d, e, ⟨f, ks⟩, _⟩ _
    show [Value.int .i64 a, .string (bstr b.data.toList), .string (bstr c.data.toList), .int .i64 d, .int .i64 e, f] = _
    rw [bstr_list, bstr_list]
    rfl
  · rintro ⟨a, b, c, d, e, ⟨f, ks⟩, _⟩ ⟨h1, h2, h3, h4, h5, ⟨h6, h7⟩, _⟩
    refine ⟨by show b.data.toList.length ≤ maxLen; rw [Array.length_toList]; exact h2, by show c.data.toList.length ≤ maxLen; rw [Array.length_toList]; exact h3, h4, ?_⟩
    have := h6.row
    rw [ints_map] at this
    exact this
def fewA (l : List Act) : Bool := decide (l.length ≤ 60) && l.all fun x => decide (x.a.length ≤ 100) && decide (x.b.length ≤ 100) && decide (x.keep.length ≤ 100)
theorem act_at {l : List Act} {i : Nat} (h : i < l.length) {j : Nat} (hj : j < 6) : (l.flatMap actC)[i * 6 + j]? = (actC l[i])[j]? := flat_get actC_len l i j _ (List.getElem?_eq_getElem h) hj
set_option maxRecDepth 100000 in
set_option maxHeartbeats 2000000 in
theorem few_any (v : Value) (l : List Act) (w : World) (hr : RowS w 6 v l.length (l.flatMap actC)) (hok : ∀ x ∈ l, ActOk w x) : Calls Try.prog 12 #[v] w fun e w' => e = .returned (.bool (fewA l)) ∧ Keeps w w' := by
  have HOK := Lib.hid hok
  by_cases h60 : 60 < l.length
  · have H : Hid (fewA l = false) := Lib.hid (by unfold fewA; rw [decide_eq_false (by omega)]; rfl)
    obtain ⟨p, cap, rfl, -, -⟩ := hr.form
    clear hok hr
    go_enter Try.func12, Try.ntmps12
    go_wp2
    go_ret
    exact ⟨by rw [H.out]; rfl, Keeps.refl _⟩
  · obtain ⟨p, cap, rfl, -, -⟩ := hr.form
    have HR := Lib.hid hr
    have HA : Hid (fewA l = l.all fun x => decide (x.a.length ≤ 100) && decide (x.b.length ≤ 100) && decide (x.keep.length ≤ 100)) := Lib.hid (by unfold fewA; rw [decide_eq_true (by omega)]; rfl)
    clear hr hok
    go_enter Try.func12, Try.ntmps12
    go_wp2
    go_loopw [3] (fun i wr => ∃ j : Nat, j ≤ l.length ∧ i = .int .i64 j ∧ Hid (∀ x ∈ l.take j, x.a.length ≤ 100 ∧ x.b.length ≤ 100 ∧ x.keep.length ≤ 100) ∧ Hid (Keeps w wr)) (fun i _ => l.length - (intOf i).toNat)
    case atStart => exact ⟨0, Nat.zero_le _, rfl, Lib.hid (by simp), Lib.hid (Keeps.refl _)⟩
    case round =>
      obtain ⟨j, hj, rfl, HP, HK⟩ := hrel
      by_cases hlt : j < l.length
      · obtain ⟨b, off, cap, hv, hc1, hc2, HC⟩ := HR.out.at_ (by omega)
        simp only [Value.slice.injEq] at hv
        obtain ⟨rfl, -, rfl⟩ := hv
        have hcell : ∀ i, i < 6 → wr.cell? ⟨b, off + j * 6 + i, none⟩ = (actC l[j])[i]? := fun i hi => by
          have hx : (actC l[j])[i]? = some ((actC l[j])[i]'(by rw [actC_len]; exact hi)) := List.getElem?_eq_getElem _
          have := HC.out (j * 6 + i) _ (by rw [act_at hlt hi]; exact hx)
          rw [Nat.add_assoc, HK.out.cell (p := ⟨b, off + (j * 6 + i), none⟩) (lt_of_cell this), this, hx]
        have HT : Hid (l.take (j + 1) = l.take j ++ [l[j]]) := Lib.hid (List.take_succ_eq_append_getElem hlt)
        have hmem : l[j] ∈ l := List.getElem_mem hlt
        have hok := HOK.out _ hmem
        obtain ⟨pk, ck, hkv, -, -⟩ := hok.row.form
        rw [List.length_map] at hkv
        generalize l[j] = x at *
        obtain ⟨xk, xa, xb, xn, xc, xv, xks⟩ := x
        simp only at hkv
        subst hkv
        have h1 := hcell 1 (by decide)
        have h2 := hcell 2 (by decide)
        have h5 := hcell 5 (by decide)
        simp only [actC, List.getElem?_cons_succ, List.getElem?_cons_zero] at h1 h2 h5
        have hs1 := bstr_size xa
        have hs2 := bstr_size xb
        clear hcell hok hc1 hc2
        have HNO : Hid (100 < xa.length ∨ 100 < xb.length ∨ 100 < xks.length → fewA l = false) := Lib.hid (fun hh => by
          rw [HA.out, List.all_eq_false]
          exact ⟨_, hmem, by simp; omega⟩)
        have HLT : Hid (j < l.length) := Lib.hid hlt
        clear hmem
        by_cases ha : 100 < xa.length
        · have H := Lib.hid (HNO.out (.inl ha))
          go_wp2
          go_ret
          exact ⟨by rw [H.out]; rfl, HK.out⟩
        · by_cases hb : 100 < xb.length
          · have H := Lib.hid (HNO.out (.inr (.inl hb)))
            go_wp2
            go_ret
            exact ⟨by rw [H.out]; rfl, HK.out⟩
          · by_cases hc : 100 < xks.length
            · have H := Lib.hid (HNO.out (.inr (.inr hc)))
              go_wp2
              go_ret
              exact ⟨by rw [H.out]; rfl, HK.out⟩
            · go_wp2
              go_roundw
              case rel => exact ⟨j + 1, by omega, by go_num, Lib.hid (by
                rw [HT.out]
                intro y hy
                rcases List.mem_append.1 hy with h | h
                · exact HP.out y h
                · simp at h; subst h; exact ⟨by show xa.length ≤ 100; omega, by show xb.length ≤ 100; omega, by show xks.length ≤ 100; omega⟩), HK⟩
              case measure => simp [intOf] <;> omega
      · have H : Hid (fewA l = true) := Lib.hid (by
          rw [HA.out, List.all_eq_true]
          intro x hx
          have := HP.out x (by rw [List.take_of_length_le (by omega)]; exact hx)
          simp
          omega)
        have hjn : j = l.length := by omega
        have hlt' : decide ((j : Int) < (l.length : Int)) = false := by simp; omega
        clear hjn
        go_wp2
        go_ret
        exact ⟨by rw [H.out]; rfl, HK.out⟩
end Vd
end Go.Proofs.Ytchjncnolmiejaa

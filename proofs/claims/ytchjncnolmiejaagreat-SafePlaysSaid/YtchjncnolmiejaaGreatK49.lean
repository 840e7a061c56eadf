/- Several texts in one: FrameRows, VdActs, SaActs. -/
import Derived.Test.YtchjncnolmiejaaGreatK12
import Derived.Test.YtchjncnolmiejaaGreatK48
import Derived.Test.YtchjncnolmiejaaGreatK31
import Derived.Test.YtchjncnolmiejaaGreatLawKit
import Derived.Test.YtchjncnolmiejaaGreatDrawn
import Derived.Test.YtchjncnolmiejaaGreatK10
import Derived.Test.YtchjncnolmiejaaGreatK00
/- Lists of payloads: how they lie in memory; Bulk, and the law's rows. -/
namespace Go.Proofs.YtchjncnolmiejaaGreat
open Go.RowKit
namespace Frm
open Oct

/-- a payload in memory: its slice, its bytes -/
def payC (x : Value × List UInt8) : List Value := [x.1]
def payOk (w : World) (x : Value × List UInt8) : Prop := Row w x.1 (x.2.map u8v)
theorem c5 : Tryz.prog.cellsOf 5 = 1 := by kernel_rfl
def BulkDid (l : List (Value × List UInt8)) (w : World) (e : Ending) (w' : World) : Prop :=
  ∃ n : Nat, e = .returned (.int .i64 (n : Int)) ∧ (n ≤ 1000 → ∀ x ∈ l, x.2.length ≤ 1000) ∧ w = w'

/-- kinds and payloads -/
def zipF (ks : List UInt8) (l : List (Value × List UInt8)) : List (Nat × List UInt8) := List.zipWith (fun k x => (k.toNat, x.2)) ks l
def endsL (F : List (Nat × List UInt8)) (n : Nat) : List Value := (List.range n).map fun i => .int .i64 (endAt F i : Nat)
def RowsDid (F : List (Nat × List UInt8)) (n : Nat) (W : World) (e : Ending) (w' : World) : Prop :=
  ∃ va ve, e = .returned (.tuple #[va, ve]) ∧ Own w' W.heap.size 5 va ((cat F).map u8v) ∧ Own w' W.heap.size 3 ve (endsL F n) ∧ Keeps W w'
end Frm
end Go.Proofs.YtchjncnolmiejaaGreat

/- The acts of the disk's laws: how they lie in memory; few. -/
namespace Go.Proofs.YtchjncnolmiejaaGreat
open Go.RowKit
namespace Vd
structure Act where
  kind : Int
  a : Str
  b : Str
  n : Int
  code : Int
  kv : Value
  keep : List Int
def actC (x : Act) : List Value := [.int .i64 x.kind, .string (bstr x.a), .string (bstr x.b), .int .i64 x.n, .int .i64 x.code, x.kv]
theorem actC_len (x : Act) : (actC x).length = 6 := rfl
structure ActOk (w : World) (x : Act) : Prop where
  a : x.a.length ≤ maxLen
  b : x.b.length ≤ maxLen
  n : (Lit.int .i64 x.n).wf = true
  row : Row w x.kv (x.keep.map (Value.int .i64))
theorem cI : Tryz.prog.cellsOf 3 = 1 := by kernel_rfl
theorem cStr : Tryz.prog.cellsOf 9 = 1 := by kernel_rfl
theorem cInts : Tryz.prog.cellsOf 45 = 1 := by kernel_rfl
theorem cErrno : Tryz.prog.cellsOf 38 = 1 := by kernel_rfl
theorem ints_map (zs : List Int) : zs.flatMap (fun a : Int => [Value.int .i64 a]) = zs.map (.int .i64) := by
  induction zs with
  | nil => rfl
  | cons z zs ih => simp only [List.flatMap_cons, List.map_cons, ih]; rfl
def fewA (l : List Act) : Bool := decide (l.length ≤ 60) && l.all fun x => decide (x.a.length ≤ 100) && decide (x.b.length ≤ 100) && decide (x.keep.length ≤ 100)
theorem act_at {l : List Act} {i : Nat} (h : i < l.length) {j : Nat} (hj : j < 6) : (l.flatMap actC)[i * 6 + j]? = (actC l[i])[j]? := flat_get actC_len l i j _ (List.getElem?_eq_getElem h) hj
end Vd
end Go.Proofs.YtchjncnolmiejaaGreat

/- The acts of safe's law: how they lie in memory; few. -/
namespace Go.Proofs.YtchjncnolmiejaaGreat
open Go.RowKit
namespace Sa
open Vd
theorem cAct16 : Tryz.prog.cellsOf 68 = 6 := by kernel_rfl
theorem opens_act16 {H : Type} {enc : TypeId × Value → H} {w : World} {base : Nat} {sp : Nat → Bool} {held : Bool} : Opens enc Tryz.prog w base sp held 68 actC (ActOk w) := by
  have hk := opens_slice (enc := enc) (w := w) (base := base) (sp := sp) (held := held) Tryz.underlying45 cI (by decide) (fun _ => rfl) (opens_int (enc := enc) (P := Tryz.prog) (w := w) (base := base) (sp := sp) (held := held) Tryz.underlying3)
  have h := opens_struct (enc := enc) (w := w) (base := base) (sp := sp) (held := held) Tryz.underlying68 cAct16
    (opensF_cons rfl cI (opens_int Tryz.underlying3) (opensF_cons rfl cStr (opens_string Oct.str9) (opensF_cons rfl cStr (opens_string Oct.str9)
      (opensF_cons rfl cI (opens_int Tryz.underlying3) (opensF_cons rfl cErrno (opens_int Tryz.underlying38) (opensF_cons rfl cInts hk opensF_nil))))))
  refine opens_map h (fun x => ⟨x.1, x.2.1.data.toList, x.2.2.1.data.toList, x.2.2.2.1, x.2.2.2.2.1, x.2.2.2.2.2.1.1, x.2.2.2.2.2.1.2⟩) ?_ ?_
  · rintro ⟨a, b, c, d, e, ⟨f, ks⟩, _⟩ _
    show [Value.int .i64 a, .string (bstr b.data.toList), .string (bstr c.data.toList), .int .i64 d, .int .i64 e, f] = _
    rw [bstr_list, bstr_list]
    rfl
  · rintro ⟨a, b, c, d, e, ⟨f, ks⟩, _⟩ ⟨h1, h2, h3, h4, h5, ⟨h6, h7⟩, _⟩
    refine ⟨by show b.data.toList.length ≤ maxLen; rw [Array.length_toList]; exact h2, by show c.data.toList.length ≤ maxLen; rw [Array.length_toList]; exact h3, h4, ?_⟩
    have := h6.row
    rw [ints_map] at this
    exact this
def fewB (l : List Vd.Act) : Bool := decide (l.length ≤ 40) && l.all fun x => decide (x.a.length ≤ 100) && decide (x.b.length ≤ 300) && decide (x.keep.length ≤ 60)
set_option maxRecDepth 100000 in
set_option maxHeartbeats 2000000 in
theorem few16_any (v : Value) (l : List Vd.Act) (w : World) (hr : RowS w 6 v l.length (l.flatMap actC)) (hok : ∀ x ∈ l, ActOk w x) : Calls Tryz.prog 26 #[v] w fun e w' => e = .returned (.bool (fewB l)) ∧ Keeps w w' := by
  have HOK := Lib.hid hok
  by_cases h60 : 40 < l.length
  · have H : Hid (fewB l = false) := Lib.hid (by unfold fewB; rw [decide_eq_false (by omega)]; rfl)
    obtain ⟨p, cap, rfl, -, -⟩ := hr.form
    clear hok hr
    go_enter Tryz.func26, Tryz.ntmps26
    go_wp2
    go_ret
    exact ⟨by rw [H.out]; rfl, Keeps.refl _⟩
  · obtain ⟨p, cap, rfl, -, -⟩ := hr.form
    have HR := Lib.hid hr
    have HA : Hid (fewB l = l.all fun x => decide (x.a.length ≤ 100) && decide (x.b.length ≤ 300) && decide (x.keep.length ≤ 60)) := Lib.hid (by unfold fewB; rw [decide_eq_true (by omega)]; rfl)
    clear hr hok
    go_enter Tryz.func26, Tryz.ntmps26
    go_wp2
    go_loopw [3] (fun i wr => ∃ j : Nat, j ≤ l.length ∧ i = .int .i64 j ∧ Hid (∀ x ∈ l.take j, x.a.length ≤ 100 ∧ x.b.length ≤ 300 ∧ x.keep.length ≤ 60) ∧ Hid (Keeps w wr)) (fun i _ => l.length - (intOf i).toNat)
    case atStart => exact ⟨0, Nat.zero_le _, rfl, Lib.hid (by simp), Lib.hid (Keeps.refl _)⟩
    case round =>
      obtain ⟨j, hj, rfl, HP, HK⟩ := hrel
      by_cases hlt : j < l.length
      · obtain ⟨b, off, cap, hv, hc1, hc2, HC⟩ := HR.out.at_ (by omega)
        simp only [Value.slice.injEq] at hv
        obtain ⟨rfl, -, rfl⟩ := hv
        have hcell : ∀ i, i < 6 → wr.cell? ⟨b, off + j * 6 + i, none⟩ = (actC l[j])[i]? := fun i hi => by
          have hx : (actC l[j])[i]? = some ((actC l[j])[i]'(by rw [actC_len]; exact hi)) := List.getElem?_eq_getElem _
          have := HC.out (j * 6 + i) _ (by rw [act_at hlt hi]; exact hx)
          rw [Nat.add_assoc, HK.out.cell (p := ⟨b, off + (j * 6 + i), none⟩) (lt_of_cell this), this, hx]
        have HT : Hid (l.take (j + 1) = l.take j ++ [l[j]]) := Lib.hid (List.take_succ_eq_append_getElem hlt)
        have hmem : l[j] ∈ l := List.getElem_mem hlt
        have hok := HOK.out _ hmem
        obtain ⟨pk, ck, hkv, -, -⟩ := hok.row.form
        rw [List.length_map] at hkv
        generalize l[j] = x at *
        obtain ⟨xk, xa, xb, xn, xc, xv, xks⟩ := x
        simp only at hkv
        subst hkv
        have h1 := hcell 1 (by decide)
        have h2 := hcell 2 (by decide)
        have h5 := hcell 5 (by decide)
        simp only [actC, List.getElem?_cons_succ, List.getElem?_cons_zero] at h1 h2 h5
        have hs1 := bstr_size xa
        have hs2 := bstr_size xb
        clear hcell hok hc1 hc2
        have HNO : Hid (100 < xa.length ∨ 300 < xb.length ∨ 60 < xks.length → fewB l = false) := Lib.hid (fun hh => by
          rw [HA.out, List.all_eq_false]
          exact ⟨_, hmem, by simp; omega⟩)
        have HLT : Hid (j < l.length) := Lib.hid hlt
        clear hmem
        by_cases ha : 100 < xa.length
        · have H := Lib.hid (HNO.out (.inl ha))
          go_wp2
          go_ret
          exact ⟨by rw [H.out]; rfl, HK.out⟩
        · by_cases hb : 300 < xb.length
          · have H := Lib.hid (HNO.out (.inr (.inl hb)))
            go_wp2
            go_ret
            exact ⟨by rw [H.out]; rfl, HK.out⟩
          · by_cases hc : 60 < xks.length
            · have H := Lib.hid (HNO.out (.inr (.inr hc)))
              go_wp2
              go_ret
              exact ⟨by rw [H.out]; rfl, HK.out⟩
            · go_wp2
              go_roundw
              case rel => exact ⟨j + 1, by omega, by go_num, Lib.hid (by
                rw [HT.out]
                intro y hy
                rcases List.mem_append.1 hy with h | h
                · exact HP.out y h
                · simp at h; subst h; exact ⟨by show xa.length ≤ 100; omega, by show xb.length ≤ 300; omega, by show xks.length ≤ 60; omega⟩), HK⟩
              case measure => simp [intOf] <;> omega
      · have H : Hid (fewB l = true) := Lib.hid (by
          rw [HA.out, List.all_eq_true]
          intro x hx
          have := HP.out x (by rw [List.take_of_length_le (by omega)]; exact hx)
          simp
          omega)
        have hjn : j = l.length := by omega
        have hlt' : decide ((j : Int) < (l.length : Int)) = false := by simp; omega
        clear hjn
        go_wp2
        go_ret
        exact ⟨by rw [H.out]; rfl, HK.out⟩
end Sa
end Go.Proofs.YtchjncnolmiejaaGreat

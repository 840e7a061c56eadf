/- Several texts in one: FrameRows, TxBytes, TxRefBytes, TxBegin. -/
import Derived.Test.YtchjncnolmiejaaK12
import Derived.Test.YtchjncnolmiejaaK38
import Derived.Test.YtchjncnolmiejaaK30
import Derived.Test.YtchjncnolmiejaaLawKit
import Derived.Test.YtchjncnolmiejaaDrawn
import Derived.Test.YtchjncnolmiejaaK10
import Derived.Test.YtchjncnolmiejaaFrameRef
import Derived.Test.YtchjncnolmiejaaK09
import Derived.Test.YtchjncnolmiejaaK16
/- Lists of payloads: how they lie in memory; Bulk, and the law's rows. -/
namespace Go.Proofs.Ytchjncnolmiejaa
open Go.RowKit
namespace Frm
open Oct

theorem row_cells {w : World} {v : Value} {l : List Value} (h : Row w v l) (hl : 0 < l.length) : ∃ b off cap, v = .slice (some ⟨b, off, none⟩) l.length cap ∧ Hid (∀ i x, l[i]? = some x → w.cell? ⟨b, off + i, none⟩ = some x) := by
  rcases h with ⟨a0, cap', rfl, hl0, -, -⟩ | ⟨b, off, cap', rfl, h1, h2, hcell⟩
  · rw [hl0] at hl
    simp at hl
  · exact ⟨b, off, cap', rfl, Lib.hid hcell⟩

/-- a payload in memory: its slice, its bytes -/
def payC (x : Value × List UInt8) : List Value := [x.1]
theorem payC_len (x : Value × List UInt8) : (payC x).length = 1 := rfl
def payOk (w : World) (x : Value × List UInt8) : Prop := Row w x.1 (x.2.map u8v)
theorem pay_map (l : List (Value × List UInt8)) : l.flatMap payC = l.map (·.1) := by
  induction l with
  | nil => rfl
  | cons x l ih => simp only [List.flatMap_cons, List.map_cons, ih]; rfl
theorem c5 : Try.prog.cellsOf 5 = 1 := by kernel_rfl
theorem c22 : Try.prog.cellsOf 22 = 1 := by kernel_rfl
theorem opens_pay {H : Type} {enc : TypeId × Value → H} {w : World} {base : Nat} {sp : Nat → Bool} {held : Bool} : Opens enc Try.prog w base sp held 22 payC (payOk w) := by
  have h := opens_slice (enc := enc) (w := w) (base := base) (sp := sp) (held := held) Try.underlying22 c5 (by decide) (fun _ => rfl) (opens_int (enc := enc) (P := Try.prog) (w := w) (base := base) (sp := sp) (held := held) Try.underlying5)
  refine opens_map h (fun x => (x.1, x.2.map fun n => UInt8.ofNat n.toNat)) (fun x _ => rfl) ?_
  rintro ⟨v, zs⟩ ⟨hr, hw⟩
  have e1 : zs.flatMap (fun a : Int => [Value.int .u8 a]) = zs.map (.int .u8) := by
    clear hr hw
    induction zs with
    | nil => rfl
    | cons z zs ih => simp only [List.flatMap_cons, List.map_cons, ih]; rfl
  have : (zs.map fun n => UInt8.ofNat n.toNat).map u8v = zs.map (.int .u8) := by
    rw [List.map_map]
    refine List.map_congr_left fun n hn => ?_
    have hb : 0 ≤ n ∧ n ≤ 255 := by simpa [Lit.wf, IntKind.min, IntKind.max, IntKind.signed, IntKind.bits] using hw n hn
    simp [u8v]
    omega
  unfold payOk
  simp only
  rw [this, ← e1]
  exact hr.row

def BulkDid (l : List (Value × List UInt8)) (w : World) (e : Ending) (w' : World) : Prop :=
  ∃ n : Nat, e = .returned (.int .i64 (n : Int)) ∧ (n ≤ 1000 → ∀ x ∈ l, x.2.length ≤ 1000) ∧ w = w'

set_option maxRecDepth 100000 in
set_option maxHeartbeats 2000000 in
theorem bulk_any (v : Value) (l : List (Value × List UInt8)) (w : World) (hr : Row w v (l.map (·.1))) (hp : ∀ x ∈ l, payOk w x) : Calls Try.prog 35 #[v, .int .i64 1000] w (BulkDid l w) := by
  obtain ⟨p, cap, rfl, hc1, hc2⟩ := hr.form
  rw [List.length_map] at hc1 ⊢
  have HR := Lib.hid hr
  have HP := Lib.hid hp
  unfold maxLen at hc2
  clear hr hp
  go_enter Try.func35, Try.ntmps35
  go_wp2_with fail
  go_loopw [5, 6] (fun nv iv wr => ∃ (n i : Nat), nv = .int .i64 (n : Int) ∧ iv = .int .i64 (i : Int) ∧ i ≤ l.length ∧ n ≤ 2002 ∧ Hid (n ≤ 1000 → ∀ x ∈ l.take i, x.2.length ≤ 1000) ∧ wr = w) (fun _ iv _ => l.length - (intOf iv).toNat)
  case atStart => exact ⟨0, 0, rfl, rfl, Nat.zero_le _, by omega, Lib.hid (by simp), rfl⟩
  case round =>
    obtain ⟨n, i, rfl, rfl, hi, hn, HA, rfl⟩ := hrel
    by_cases hlt : i < l.length
    · by_cases hn1 : n ≤ 1000
      · obtain ⟨b, off, cap', hv, hc⟩ := row_cells HR.out (by rw [List.length_map]; omega)
        simp only [Value.slice.injEq] at hv
        obtain ⟨rfl, -, rfl⟩ := hv
        have hcell : wr.cell? ⟨b, off + i, none⟩ = some l[i].1 := hc.out i _ (by simp [hlt])
        have hpay := HP.out l[i] (List.getElem_mem hlt)
        have HT : Hid (l.take (i + 1) = l.take i ++ [l[i]]) := Lib.hid (List.take_succ_eq_append_getElem hlt)
        generalize l[i] = y at *
        obtain ⟨yv, yl⟩ := y
        unfold payOk at hpay
        obtain ⟨q, qc, hyv, hq1, hq2⟩ := hpay.formB
        simp only at hyv hcell hq1
        subst hyv
        clear hpay
        by_cases hy : yl.length ≤ 1001
        · have hmin : min (yl.length : Int) 1001 = yl.length := by omega
          go_wp2_with fail
          go_roundw
          case rel => exact ⟨n + 1 + yl.length, i + 1, by simp, by simp, by omega, by omega, Lib.hid (fun h x hx => by
            rw [HT.out] at hx
            rcases List.mem_append.1 hx with h | h
            · exact HA.out (by omega) x h
            · simp at h; subst h; simp only; omega), trivial⟩
          case measure => simp [intOf] <;> omega
        · have hmin : min (yl.length : Int) 1001 = 1001 := by omega
          go_wp2_with fail
          go_roundw
          case rel => exact ⟨n + 1 + 1001, i + 1, by simp; omega, by simp, by omega, by omega, Lib.hid (fun h x hx => by omega), trivial⟩
          case measure => simp [intOf] <;> omega
      · go_wp2_with fail
        go_ret
        exact ⟨n, rfl, fun h => by omega, rfl⟩
    · have hil : i = l.length := by omega
      have H : Hid (BulkDid l wr (.returned (.int .i64 (n : Int))) wr) := Lib.hid ⟨n, rfl, fun h x hx => HA.out h x (by rw [hil, List.take_length]; exact hx), rfl⟩
      clear hil
      go_wp2_with fail
      go_ret
      exact H.out

/-- kinds and payloads -/
def zipF (ks : List UInt8) (l : List (Value × List UInt8)) : List (Nat × List UInt8) := List.zipWith (fun k x => (k.toNat, x.2)) ks l
theorem zipF_len {ks : List UInt8} {l : List (Value × List UInt8)} (h : l.length ≤ ks.length) : (zipF ks l).length = l.length := by
  unfold zipF; rw [List.length_zipWith]; omega
theorem zipF_at {ks : List UInt8} {l : List (Value × List UInt8)} {i : Nat} (h1 : i < ks.length) (h2 : i < l.length) : (zipF ks l)[i]? = some (ks[i].toNat, l[i].2) := by
  unfold zipF; rw [List.getElem?_zipWith, List.getElem?_eq_getElem h1, List.getElem?_eq_getElem h2]
theorem zipF_ok {ks : List UInt8} {l : List (Value × List UInt8)} (hl : ∀ x ∈ l, x.2.length ≤ 1000) : ∀ x ∈ zipF ks l, x.1 ≤ 255 ∧ x.2.length ≤ 1000 := by
  intro x hx
  obtain ⟨i, hi⟩ := List.mem_iff_getElem?.1 hx
  unfold zipF at hi
  rw [List.getElem?_zipWith] at hi
  cases hk : ks[i]? with
  | none => rw [hk] at hi; simp at hi
  | some k =>
    cases hy : l[i]? with
    | none => rw [hk, hy] at hi; simp at hi
    | some y =>
      rw [hk, hy] at hi
      simp at hi
      subst hi
      have := k.toNat_lt
      exact ⟨by simp only; omega, hl y (List.mem_of_getElem? hy)⟩
theorem cat_len : ∀ (F : List (Nat × List UInt8)), (∀ x ∈ F, x.1 ≤ 255 ∧ x.2.length ≤ 1000) → (cat F).length ≤ F.length * 2019 := by
  intro F
  induction F with
  | nil => intro _; simp [cat]
  | cons x F ih =>
    intro h
    obtain ⟨h1, h2⟩ := h x (by simp)
    have := ih (fun y hy => h y (by simp [hy]))
    rw [cat_cons, List.length_append, (wrapL_ok h1 (by omega)).2, List.length_cons, List.length_cons]
    have := (veil_len (body x.1 x.2)).2
    rw [body_len] at this
    omega
theorem take_succ_at {α : Type} {l : List α} {i : Nat} {x : α} (h : l[i]? = some x) : l.take (i + 1) = l.take i ++ [x] := by
  rw [List.take_add_one, h]; rfl

theorem iok : ElemOk Try.prog 24 3 8 := elemOk (z := .int .i64 0) Try.underlying24 (by kernel_rfl) rfl
def endsL (F : List (Nat × List UInt8)) (n : Nat) : List Value := (List.range n).map fun i => .int .i64 (endAt F i : Nat)
def RowsDid (F : List (Nat × List UInt8)) (n : Nat) (W : World) (e : Ending) (w' : World) : Prop :=
  ∃ va ve, e = .returned (.tuple #[va, ve]) ∧ Own w' W.heap.size 5 va ((cat F).map u8v) ∧ Own w' W.heap.size 3 ve (endsL F n) ∧ Keeps W w'
theorem own_grown_ne {w w' : World} {base base2 : Nat} {e e2 : TypeId} {v v2 : Value} {xs xs2 : List Value} (h : Own w base e v xs) (h2 : Own w base2 e2 v2 xs2) (hne : e2 ≠ e) (hg : w.grownBy w' v2.ownBlock) : Own w' base e v xs := by
  have hM : Mods (fun x => v2.ownBlock = some x) w w' := (Mods.refl _ w).grown hg (fun k hk _ => hk)
  refine ⟨h.1, ?_⟩
  rcases h.2 with h0 | ⟨g, cap, cur, rfl, hb, hgg, rest⟩
  · exact .inl h0
  · refine .inr ⟨g, cap, cur, rfl, hb, hM.heap hgg (fun hs => ?_), rest⟩
    rcases h2.2 with ⟨rfl, _⟩ | ⟨g', cap', cur', rfl, hb', hgg', rest'⟩
    · simp [Value.ownBlock] at hs
    · simp [Value.ownBlock] at hs
      subst hs
      rw [hgg] at hgg'
      simp only [Option.some.injEq, Obj.cells.injEq] at hgg'
      exact hne hgg'.2.1.symm

end Frm
end Go.Proofs.Ytchjncnolmiejaa

/- txlog.numbers, txlog.Bytes. -/
namespace Go.Proofs.Ytchjncnolmiejaa
open Go.RowKit
namespace Txl
open Oct Frm
theorem be8_len (n : Nat) : (be 8 n).length = 8 := be_length 8 n
set_option maxRecDepth 100000 in
set_option maxHeartbeats 1000000 in
theorem numbers_any (n : Nat) (hn : n < 9223372036854775808) (c : Int) (hc : -1 ≤ c ∧ c ≤ 1000) (w : World) : Calls Try.prog 98 #[.int .i64 (n : Int), .int .i64 c] w (RetS w (numL n c)) := by
  have HP := Lib.hid (show [] ++ putL n 8 = be 8 n from by rw [putL8 (by omega)]; rfl)
  have h8 := be8_len n
  have H8 := Lib.hid h8
  clear h8
  go_enter Try.func98, Try.ntmps98
  go_wp2_with fail
  refine (newSink_any _).mono ?_
  rintro e w1 ⟨g, rfl, hg, hSk, hK1⟩
  have hs := Sole.new hSk hg hK1
  have HC := Lib.hid (sinkU_any g _ [] n (by omega) 8 w1 hSk (by simp))
  have HSo := Lib.hid hs
  clear hSk hs hK1 hg
  go_wp2_with fail
  refine HC.out.mono ?_
  rintro e w2 ⟨v2, rfl, hS, hM, hF⟩
  have hs := HSo.out.did hS hM hF
  rw [HP.out] at hs
  have HSo := Lib.hid hs
  clear hS hM hF hs HC
  by_cases h : 0 ≤ c
  · obtain ⟨k, rfl⟩ := Int.eq_ofNat_of_zero_le h
    have HX := Lib.hid (show be 8 n ++ putL k 2 = numL n (k : Int) from by unfold numL; rw [putL2 (by omega), if_pos h]; rfl)
    have hk : (k : Int) ≤ 1000 := hc.2
    have HC := Lib.hid (sinkU_any g _ _ k (by omega) 2 w2 HSo.out.sink (by rw [H8.out]; omega))
    go_wp2_with fail
    refine HC.out.mono ?_
    rintro e w3 ⟨v3, rfl, hS, hM, hF⟩
    have hs := HSo.out.did hS hM hF
    rw [HX.out] at hs
    have HSo := Lib.hid hs
    clear hS hM hF hs HC
    have HC := Lib.hid (sinkBytes_any g _ _ w3 HSo.out.sink (by have := numL_len n (k : Int); omega))
    go_wp2_with fail
    refine HC.out.mono ?_
    rintro e w4 ⟨b4, rfl, hown4, hK4⟩
    go_wp2_with fail
    go_ret
    have hsz := HSo.out.keeps.size
    exact ⟨_, rfl, hown4.lower hsz, HSo.out.keeps.trans hK4⟩
  · have HX := Lib.hid (show be 8 n = numL n c from by unfold numL; rw [if_neg h, List.append_nil])
    have h' : c < 0 := by omega
    clear h
    rw [HX.out] at HSo
    have HC := Lib.hid (sinkBytes_any g _ _ w2 HSo.out.sink (by have := numL_len n c; omega))
    go_wp2_with fail
    refine HC.out.mono ?_
    rintro e w4 ⟨b4, rfl, hown4, hK4⟩
    go_wp2_with fail
    go_ret
    have hsz := HSo.out.keeps.size
    exact ⟨_, rfl, hown4.lower hsz, HSo.out.keeps.trans hK4⟩
theorem txE_1 {n : Int} {items : List Item} (h : n < 1) : txE n items = 1 := if_pos h
theorem txE_4 {n : Int} {items : List Item} (h : ¬ n < 1) (h2 : 1000 < items.length) : txE n items = 4 := by unfold txE; rw [if_neg h, if_pos h2]
theorem txE_big {n : Int} {items : List Item} (h : ¬ n < 1) (h2 : ¬ 1000 < items.length) {j : Nat} (hj : j < items.length) (hb : 4096 < items[j].length) : txE n items = 4 := by
  unfold txE
  rw [if_neg h, if_neg h2, if_pos (List.any_eq_true.2 ⟨_, List.getElem_mem hj, by simpa [bigB] using hb⟩)]
theorem txE_0 {n : Int} {items : List Item} (h : ¬ n < 1) (h2 : ¬ 1000 < items.length) (hb : ∀ x ∈ items, x.length ≤ 4096) : txE n items = 0 := by
  unfold txE
  rw [if_neg h, if_neg h2, if_neg]
  intro hh
  obtain ⟨x, hx, hy⟩ := List.any_eq_true.1 hh
  have := hb x hx
  simp [bigB] at hy
  omega
theorem txL_0 {n : Int} {items : List Item} (h : txE n items ≠ 0) : txL n items = [] := if_neg h
theorem retSI_fail {W : World} {n : Int} {items : List Item} {k : Int} (h : txE n items = k) (hk : k ≠ 0) {w' : World} (hK : Keeps W w') : RetSI W (txL n items) (txE n items) (.returned (.tuple #[.slice none 0 0, .int .i64 k])) w' := by
  rw [txL_0 (by rw [h]; exact hk), h]
  exact ⟨_, rfl, Own.nil _ _ _, hK⟩
set_option maxRecDepth 100000 in
set_option maxHeartbeats 4000000 in
theorem txBytes_any (n : Int) (hn : n ≤ 9223372036854775807) (v : Value) (l : List (Value × List UInt8)) (w : World) (hr : Row w v (l.map (·.1))) (hp : ∀ x ∈ l, payOk w x) : Calls Try.prog 34 #[.int .i64 n, v] w (RetSI w (txL n (l.map (·.2))) (txE n (l.map (·.2)))) := by
  have hlen : (l.map (·.2)).length = l.length := by simp
  obtain ⟨p, cap, rfl, hc1, hc2⟩ := hr.form
  rw [List.length_map] at hc1 ⊢
  have HR := Lib.hid hr
  have HP := Lib.hid hp
  unfold maxLen at hc2
  clear hr hp
  by_cases h1 : n < 1
  · have HF := Lib.hid (fun w' (hK : Keeps w w') => retSI_fail (items := l.map (·.2)) (txE_1 h1) (by decide) hK)
    go_enter Try.func34, Try.ntmps34
    go_wp2_with fail
    go_ret2
    exact HF.out _ (Keeps.refl _)
  by_cases h2 : 1000 < l.length
  · have HF := Lib.hid (fun w' (hK : Keeps w w') => retSI_fail (txE_4 (items := l.map (·.2)) h1 (by omega)) (by decide) hK)
    go_enter Try.func34, Try.ntmps34
    go_wp2_with fail
    go_ret2
    exact HF.out _ (Keeps.refl _)
  obtain ⟨N, rfl⟩ := Int.eq_ofNat_of_zero_le (show 0 ≤ n by omega)
  have HBIG := Lib.hid (fun j (hj : j < l.length) (hb : 4096 < l[j].2.length) w' (hK : Keeps w w') => retSI_fail (txE_big (items := l.map (·.2)) h1 (by omega) (j := j) (by omega) (by simpa using hb)) (by decide) hK)
  have HOK := Lib.hid (fun (hb : ∀ x ∈ l, x.2.length ≤ 4096) => show txE (N : Int) (l.map (·.2)) = 0 ∧ txL (N : Int) (l.map (·.2)) = headL N l.length ++ itemsL (l.map (·.2)) ++ endL N from by
    have h0 := txE_0 (n := (N : Int)) (items := l.map (·.2)) h1 (by omega) (fun x hx => by obtain ⟨y, hy, rfl⟩ := List.mem_map.1 hx; exact hb y hy)
    refine ⟨h0, ?_⟩
    unfold txL
    rw [if_pos h0, hlen]
    rfl)
  have HN1 := Lib.hid (numbers_any N (by omega) (l.length : Int) (by omega) w)
  have hNb : (N : Int) ≤ 9223372036854775807 := hn
  have hN1 : (1 : Int) ≤ (N : Int) := by omega
  clear h1 hn hlen
  go_enter Try.func34, Try.ntmps34
  go_wp2_with fail
  refine HN1.out.mono ?_
  rintro e w1 ⟨v1, rfl, ho1, hk1⟩
  have HW := Lib.hid (wrap_any 32 v1 _ w1 ho1.row)
  have HK1 := Lib.hid hk1
  clear hk1 ho1 HN1
  go_wp2_with fail
  refine HW.out.mono ?_
  rintro e w2 ⟨v2, rfl, ho2, hk2⟩
  have HK2 := Lib.hid (HK1.out.trans hk2)
  have HO2 := Lib.hid (show Own w2 w.heap.size 5 v2 ((headL N l.length).map u8v) from ho2.lower HK1.out.size)
  have HWE := Lib.hid (show wrapE 32 (numL N (l.length : Int)).length = 0 from by
    unfold wrapE
    have := numL_len N (l.length : Int)
    rw [if_neg (by omega), if_neg (by omega)])
  clear ho2 hk2 HW
  obtain ⟨q2, n2, c2, rfl⟩ := HO2.out.sl
  go_wp2_with fail
  go_loopw [6, 29] (fun ov iv wr => ∃ (j : Nat) (po : Option Addr) (no co : Nat), iv = .int .i64 (j : Int) ∧ j ≤ l.length ∧ ov = .slice po no co ∧ Hid (Own wr w.heap.size 5 (.slice po no co) ((headL N l.length ++ itemsL ((l.map (·.2)).take j)).map u8v)) ∧ Hid (Keeps w wr) ∧ Hid (∀ x ∈ l.take j, x.2.length ≤ 4096)) (fun _ iv _ => l.length - (intOf iv).toNat)
  case atStart => exact ⟨0, q2, n2, c2, rfl, Nat.zero_le _, rfl, Lib.hid (by simpa [itemsL] using HO2.out), HK2, Lib.hid (by simp)⟩
  case round =>
    clear HO2 HK2
    obtain ⟨j, po, no, co, rfl, hj, rfl, HO, HK, HL⟩ := hrel
    by_cases hlt : j < l.length
    · obtain ⟨b, off, cap', hv, hc⟩ := row_cells HR.out (by rw [List.length_map]; omega)
      rw [List.length_map] at hv
      simp only [Value.slice.injEq] at hv
      obtain ⟨rfl, -, rfl⟩ := hv
      have hcell : wr.cell? ⟨b, off + j, none⟩ = some l[j].1 := by
        have := hc.out j l[j].1 (by simp [hlt])
        rw [HK.out.cell (p := ⟨b, off + j, none⟩) (lt_of_cell this)]
        exact this
      have HPY := Lib.hid ((HP.out l[j] (List.getElem_mem hlt)).keeps HK.out)
      have HT := Lib.hid (show l.take (j + 1) = l.take j ++ [l[j]] from List.take_succ_eq_append_getElem hlt)
      have HIT := Lib.hid (show itemsL ((l.map (·.2)).take (j + 1)) = itemsL ((l.map (·.2)).take j) ++ wrapL 33 l[j].2 from by rw [itemsL_take (by simpa using hlt)]; simp)
      have HBJ := Lib.hid (fun hb => HBIG.out j hlt hb)
      have hlj : (j : Int) < (l.length : Int) := by omega
      have HLE := Lib.hid (show (headL N l.length ++ itemsL ((l.map (·.2)).take j)).length ≤ 9000000 from by
        have h1 := headL_le N l.length
        have h2 := itemsL_le (items := (l.map (·.2)).take j) (fun x hx => by
          rw [← List.map_take] at hx
          obtain ⟨y, hy, rfl⟩ := List.mem_map.1 hx
          exact HL.out y hy)
        have h3 : ((l.map (·.2)).take j).length ≤ 1000 := by rw [List.length_take, List.length_map]; omega
        have h4 : ((l.map (·.2)).take j).length * 8211 ≤ 1000 * 8211 := Nat.mul_le_mul_right _ h3
        rw [List.length_append]
        omega)
      clear hc
      generalize l[j] = y at *
      obtain ⟨yv, yl⟩ := y
      simp only at hcell HPY HIT HBJ
      obtain ⟨pq, cq, rfl, -, -⟩ := (show Row wr yv (yl.map u8v) from HPY.out).formB
      by_cases hbig : 4096 < yl.length
      · go_wp2_with fail
        go_ret2
        exact HBJ.out hbig _ HK.out
      · have HW := Lib.hid (wrap_any 33 (.slice pq yl.length cq) yl wr HPY.out)
        have HWL := Lib.hid (wrapL_le 33 yl)
        go_wp2_with fail
        refine HW.out.mono ?_
        rintro e w3 ⟨v3, rfl, ho3, hk3⟩
        have HO3 := Lib.hid ho3
        have HOa := Lib.hid (HO.out.keeps hk3)
        have HK3 := Lib.hid (HK.out.trans hk3)
        have hs3 := HK3.out.size
        clear ho3 hk3 HW
        obtain ⟨q3, n3, c3, rfl⟩ := HO3.out.sl
        go_wp2_with (at_builtin; refine wpList_app1 (base := w.heap.size) u8ok rfl _ _ rfl (.slice po no co) (.slice q3 n3 c3) _ ((wrapL 33 yl).map u8v) rfl rfl HOa.out HO3.out.row (oneCell_map_u8 _) (by rw [List.length_map, List.length_map]; have := HLE.out; have := HWL.out; omega) (by decide) hs3 ?_; intro v4 w4 ho4 hg4 hf4; obtain ⟨p4, n4, c4, rfl⟩ := ho4.sl; have HO4 := Lib.hid ho4; have HK4 := Lib.hid (HK3.out.grown hg4 (fun k hk => HOa.out.base k hk)); clear ho4 hg4 hf4)
        go_roundw
        case rel =>
          refine ⟨j + 1, p4, n4, c4, by simp, by omega, rfl, Lib.hid ?_, HK4, Lib.hid ?_⟩
          · rw [HIT.out, ← List.append_assoc, List.map_append]
            exact HO4.out
          · rw [HT.out]
            intro x hx
            rcases List.mem_append.1 hx with hx | hx
            · exact HL.out x hx
            · simp at hx; subst hx; show yl.length ≤ 4096; omega
        case measure =>
          simp only [intOf]
          omega
    · have hjn : j = l.length := by omega
      have hlt' : decide ((j : Int) < (l.length : Int)) = false := by simp; omega
      obtain ⟨h0, hL⟩ := HOK.out (fun x hx => HL.out x (by rw [hjn, List.take_length]; exact hx))
      have HE0 := Lib.hid h0
      have HLL := Lib.hid hL
      have HO := Lib.hid (show Own wr w.heap.size 5 (.slice po no co) ((headL N l.length ++ itemsL (l.map (·.2))).map u8v) from by
        have := HO.out
        rw [List.take_of_length_le (by simp; omega)] at this
        exact this)
      have HLE := Lib.hid (show (headL N l.length ++ itemsL (l.map (·.2))).length ≤ 9000000 from by
        have h1 := headL_le N l.length
        have h2 := itemsL_le (items := l.map (·.2)) (fun x hx => by
          obtain ⟨y, hy, rfl⟩ := List.mem_map.1 hx
          exact HL.out y (by rw [hjn, List.take_length]; exact hy))
        have h4 : (l.map (·.2)).length * 8211 ≤ 1000 * 8211 := Nat.mul_le_mul_right _ (by rw [List.length_map]; omega)
        rw [List.length_append]
        omega)
      have HN1 := Lib.hid (numbers_any N (by omega) (-1) (by omega) wr)
      have HEL := Lib.hid (endL_le N)
      clear h0 hL hjn
      go_wp2_with fail
      refine HN1.out.mono ?_
      rintro e w3 ⟨v3, rfl, ho3, hk3⟩
      have HW := Lib.hid (wrap_any 34 v3 _ w3 ho3.row)
      have HK3 := Lib.hid (HK.out.trans hk3)
      have HOa := Lib.hid (HO.out.keeps hk3)
      clear hk3 ho3 HN1
      go_wp2_with fail
      refine HW.out.mono ?_
      rintro e w4 ⟨v4, rfl, ho4, hk4⟩
      have HO4 := Lib.hid (show Own w4 w3.heap.size 5 v4 ((endL N).map u8v) from ho4)
      have HOb := Lib.hid (HOa.out.keeps hk4)
      have HK4 := Lib.hid (HK3.out.trans hk4)
      have hs4 := HK4.out.size
      clear ho4 hk4 HW
      obtain ⟨q4, n4, c4, rfl⟩ := HO4.out.sl
      go_wp2_with (at_builtin; refine wpList_app1 (base := w.heap.size) u8ok rfl _ _ rfl (.slice po no co) (.slice q4 n4 c4) _ ((endL N).map u8v) rfl rfl HOb.out HO4.out.row (oneCell_map_u8 _) (by rw [List.length_map, List.length_map]; have := HLE.out; have := HEL.out; omega) (by decide) hs4 ?_; intro v5 w5 ho5 hg5 hf5; obtain ⟨p5, n5, c5, rfl⟩ := ho5.sl; have HO5 := Lib.hid ho5; have HK5 := Lib.hid (HK4.out.grown hg5 (fun k hk => HOb.out.base k hk)); clear ho5 hg5 hf5)
      go_ret2
      rw [HE0.out, HLL.out]
      exact ⟨_, rfl, by rw [List.map_append]; exact HO5.out, HK5.out⟩
end Txl
end Go.Proofs.Ytchjncnolmiejaa

/- The document's bytes of a transaction. -/
namespace Go.Proofs.Ytchjncnolmiejaa
open Go.RowKit
namespace Txl
open Oct Frm
theorem wrapU {n : Nat} (h : n < 18446744073709551616) : IntKind.u64.wrap (n : Int) = (n : Int) := by rw [IntKind.wrap_u64]; omega
theorem bstr_data (l : List UInt8) : (bstr l).data.toList = l := by simp [bstr]
theorem rput17_any (n : Nat) (hn : n < 9223372036854775808) (k : Int) (w : World) : Calls Try.prog 100 #[.int .i64 (n : Int), .int .i64 k] w fun e w' => e = .returned (.string (bstr (putL n k))) ∧ Keeps w w' := by
  have hw := wrapU (n := n) (by omega)
  go_enter Try.func100, Try.ntmps100
  go_wp2_with fail
  refine (rPut_any n (by omega) k _).mono ?_
  rintro e w1 ⟨b, rfl, hown1, hK1⟩
  have hst := Frm.str_at' hown1.row
  clear hown1
  go_wp2_with fail
  go_ret
  exact ⟨rfl, hK1⟩
set_option maxRecDepth 100000 in
set_option maxHeartbeats 4000000 in
theorem rtxBytes_any (n : Int) (hn : n ≤ 9223372036854775807) (v : Value) (l : List (Value × List UInt8)) (w : World) (hr : Row w v (l.map (·.1))) (hp : ∀ x ∈ l, payOk w x) : Calls Try.prog 36 #[.int .i64 n, v] w (RetSI w (txL n (l.map (·.2))) (txE n (l.map (·.2)))) := by
  have hlen : (l.map (·.2)).length = l.length := by simp
  obtain ⟨p, cap, rfl, hc1, hc2⟩ := hr.form
  rw [List.length_map] at hc1 ⊢
  have HR := Lib.hid hr
  have HP := Lib.hid hp
  unfold maxLen at hc2
  clear hr hp
  by_cases h1 : n < 1
  · have HF := Lib.hid (fun w' (hK : Keeps w w') => retSI_fail (items := l.map (·.2)) (txE_1 h1) (by decide) hK)
    go_enter Try.func36, Try.ntmps36
    go_wp2_with fail
    go_ret2
    exact HF.out _ (Keeps.refl _)
  by_cases h2 : 1000 < l.length
  · have HF := Lib.hid (fun w' (hK : Keeps w w') => retSI_fail (txE_4 (items := l.map (·.2)) h1 (by omega)) (by decide) hK)
    go_enter Try.func36, Try.ntmps36
    go_wp2_with fail
    go_ret2
    exact HF.out _ (Keeps.refl _)
  obtain ⟨N, rfl⟩ := Int.eq_ofNat_of_zero_le (show 0 ≤ n by omega)
  have HBIG := Lib.hid (fun j (hj : j < l.length) (hb : 4096 < l[j].2.length) w' (hK : Keeps w w') => retSI_fail (txE_big (items := l.map (·.2)) h1 (by omega) (j := j) (by omega) (by simpa using hb)) (by decide) hK)
  have HOK := Lib.hid (fun (hb : ∀ x ∈ l, x.2.length ≤ 4096) => show txE (N : Int) (l.map (·.2)) = 0 ∧ txL (N : Int) (l.map (·.2)) = headL N l.length ++ itemsL (l.map (·.2)) ++ endL N from by
    have h0 := txE_0 (n := (N : Int)) (items := l.map (·.2)) h1 (by omega) (fun x hx => by obtain ⟨y, hy, rfl⟩ := List.mem_map.1 hx; exact hb y hy)
    refine ⟨h0, ?_⟩
    unfold txL
    rw [if_pos h0, hlen]
    rfl)
  have HN1 := Lib.hid (rput17_any N (by omega) 8)
  have HN2 := Lib.hid (rput17_any l.length (by omega) 2)
  rw [putL8 (by omega)] at HN1
  rw [putL2 (by omega)] at HN2
  have hNb : (N : Int) ≤ 9223372036854775807 := hn
  have hN1 : (1 : Int) ≤ (N : Int) := by omega
  clear h1 hn hlen
  go_enter Try.func36, Try.ntmps36
  go_wp2_with fail
  refine (HN1.out _).mono ?_
  rintro e wa ⟨rfl, hka⟩
  go_wp2_with fail
  refine (HN2.out _).mono ?_
  rintro e wb ⟨rfl, hkb⟩
  have HKB := Lib.hid (hka.trans hkb)
  have hcat : bstr (be 8 N) ++ bstr (be 2 l.length) = bstr (numL N (l.length : Int)) := by
    rw [bstr_append]
    unfold numL
    rw [if_pos (by omega)]
    rfl
  have hz1 : (bstr (be 8 N)).size = 8 := by rw [bstr_size, be_length]
  have hz2 : (bstr (be 2 l.length)).size = 2 := by rw [bstr_size, be_length]
  have hz3 : (bstr (numL N (l.length : Int))).size = (numL N (l.length : Int)).length := bstr_size _
  have hz4 := numL_len N (l.length : Int)
  obtain ⟨cc, w1, hcv, hrow, hk1⟩ := str_bytes (P := Try.prog) wb Try.underlying22 Try.underlying5 str9 (bstr (numL N (l.length : Int))) (by rw [bstr_size]; unfold maxLen; omega)
  rw [hz3] at hcv hrow
  have HRW := Lib.hid (show Row w1 _ ((numL N (l.length : Int)).map u8v) from by have := hrow; rw [bstr_data] at this; exact this)
  have HK1 := Lib.hid (HKB.out.trans hk1)
  clear hka hkb hrow hk1 hz3
  have HW := Lib.hid (rWrap_any 32 _ _ w1 HRW.out)
  go_wp2_with fail
  refine HW.out.mono ?_
  rintro e w2 ⟨v2, rfl, ho2, hk2⟩
  have HK2 := Lib.hid (HK1.out.trans hk2)
  have HO2 := Lib.hid (show Own w2 w.heap.size 5 v2 ((headL N l.length).map u8v) from ho2.lower HK1.out.size)
  clear hcv hcat hz1 hz2 hz4
  have HWE := Lib.hid (show wrapE 32 (numL N (l.length : Int)).length = 0 from by
    unfold wrapE
    have := numL_len N (l.length : Int)
    rw [if_neg (by omega), if_neg (by omega)])
  clear ho2 hk2 HW
  obtain ⟨q2, n2, c2, rfl⟩ := HO2.out.sl
  go_wp2_with fail
  go_loopw [6, 8] (fun ov iv wr => ∃ (j : Nat) (po : Option Addr) (no co : Nat), iv = .int .i64 (j : Int) ∧ j ≤ l.length ∧ ov = .slice po no co ∧ Hid (Own wr w.heap.size 5 (.slice po no co) ((headL N l.length ++ itemsL ((l.map (·.2)).take j)).map u8v)) ∧ Hid (Keeps w wr) ∧ Hid (∀ x ∈ l.take j, x.2.length ≤ 4096)) (fun _ iv _ => l.length - (intOf iv).toNat)
  case atStart => exact ⟨0, q2, n2, c2, rfl, Nat.zero_le _, rfl, Lib.hid (by simpa [itemsL] using HO2.out), HK2, Lib.hid (by simp)⟩
  case round =>
    clear HO2 HK2
    obtain ⟨j, po, no, co, rfl, hj, rfl, HO, HK, HL⟩ := hrel
    by_cases hlt : j < l.length
    · obtain ⟨b, off, cap', hv, hc⟩ := row_cells HR.out (by rw [List.length_map]; omega)
      rw [List.length_map] at hv
      simp only [Value.slice.injEq] at hv
      obtain ⟨rfl, -, rfl⟩ := hv
      have hcell : wr.cell? ⟨b, off + j, none⟩ = some l[j].1 := by
        have := hc.out j l[j].1 (by simp [hlt])
        rw [HK.out.cell (p := ⟨b, off + j, none⟩) (lt_of_cell this)]
        exact this
      have HPY := Lib.hid ((HP.out l[j] (List.getElem_mem hlt)).keeps HK.out)
      have HT := Lib.hid (show l.take (j + 1) = l.take j ++ [l[j]] from List.take_succ_eq_append_getElem hlt)
      have HIT := Lib.hid (show itemsL ((l.map (·.2)).take (j + 1)) = itemsL ((l.map (·.2)).take j) ++ wrapL 33 l[j].2 from by rw [itemsL_take (by simpa using hlt)]; simp)
      have HBJ := Lib.hid (fun hb => HBIG.out j hlt hb)
      have hlj : (j : Int) < (l.length : Int) := by omega
      have HLE := Lib.hid (show (headL N l.length ++ itemsL ((l.map (·.2)).take j)).length ≤ 9000000 from by
        have h1 := headL_le N l.length
        have h2 := itemsL_le (items := (l.map (·.2)).take j) (fun x hx => by
          rw [← List.map_take] at hx
          obtain ⟨y, hy, rfl⟩ := List.mem_map.1 hx
          exact HL.out y hy)
        have h3 : ((l.map (·.2)).take j).length ≤ 1000 := by rw [List.length_take, List.length_map]; omega
        have h4 : ((l.map (·.2)).take j).length * 8211 ≤ 1000 * 8211 := Nat.mul_le_mul_right _ h3
        rw [List.length_append]
        omega)
      clear hc
      generalize l[j] = y at *
      obtain ⟨yv, yl⟩ := y
      simp only at hcell HPY HIT HBJ
      obtain ⟨pq, cq, rfl, -, -⟩ := (show Row wr yv (yl.map u8v) from HPY.out).formB
      by_cases hbig : 4096 < yl.length
      · go_wp2_with fail
        go_ret2
        exact HBJ.out hbig _ HK.out
      · have HW := Lib.hid (rWrap_any 33 (.slice pq yl.length cq) yl wr HPY.out)
        have HWL := Lib.hid (wrapL_le 33 yl)
        go_wp2_with fail
        refine HW.out.mono ?_
        rintro e w3 ⟨v3, rfl, ho3, hk3⟩
        have HO3 := Lib.hid ho3
        have HOa := Lib.hid (HO.out.keeps hk3)
        have HK3 := Lib.hid (HK.out.trans hk3)
        have hs3 := HK3.out.size
        clear ho3 hk3 HW
        obtain ⟨q3, n3, c3, rfl⟩ := HO3.out.sl
        go_wp2_with (at_builtin; refine wpList_app1 (base := w.heap.size) u8ok rfl _ _ rfl (.slice po no co) (.slice q3 n3 c3) _ ((wrapL 33 yl).map u8v) rfl rfl HOa.out HO3.out.row (oneCell_map_u8 _) (by rw [List.length_map, List.length_map]; have := HLE.out; have := HWL.out; omega) (by decide) hs3 ?_; intro v4 w4 ho4 hg4 hf4; obtain ⟨p4, n4, c4, rfl⟩ := ho4.sl; have HO4 := Lib.hid ho4; have HK4 := Lib.hid (HK3.out.grown hg4 (fun k hk => HOa.out.base k hk)); clear ho4 hg4 hf4)
        go_roundw
        case rel =>
          refine ⟨j + 1, p4, n4, c4, by simp, by omega, rfl, Lib.hid ?_, HK4, Lib.hid ?_⟩
          · rw [HIT.out, ← List.append_assoc, List.map_append]
            exact HO4.out
          · rw [HT.out]
            intro x hx
            rcases List.mem_append.1 hx with hx | hx
            · exact HL.out x hx
            · simp at hx; subst hx; show yl.length ≤ 4096; omega
        case measure =>
          simp only [intOf]
          omega
    · have hjn : j = l.length := by omega
      have hlt' : decide ((j : Int) < (l.length : Int)) = false := by simp; omega
      obtain ⟨h0, hL⟩ := HOK.out (fun x hx => HL.out x (by rw [hjn, List.take_length]; exact hx))
      have HE0 := Lib.hid h0
      have HLL := Lib.hid hL
      have HO := Lib.hid (show Own wr w.heap.size 5 (.slice po no co) ((headL N l.length ++ itemsL (l.map (·.2))).map u8v) from by
        have := HO.out
        rw [List.take_of_length_le (by simp; omega)] at this
        exact this)
      have HLE := Lib.hid (show (headL N l.length ++ itemsL (l.map (·.2))).length ≤ 9000000 from by
        have h1 := headL_le N l.length
        have h2 := itemsL_le (items := l.map (·.2)) (fun x hx => by
          obtain ⟨y, hy, rfl⟩ := List.mem_map.1 hx
          exact HL.out y (by rw [hjn, List.take_length]; exact hy))
        have h4 : (l.map (·.2)).length * 8211 ≤ 1000 * 8211 := Nat.mul_le_mul_right _ (by rw [List.length_map]; omega)
        rw [List.length_append]
        omega)
      have HN1 := Lib.hid (rput17_any N (by omega) 8 wr)
      rw [putL8 (by omega)] at HN1
      have HEL := Lib.hid (endL_le N)
      clear h0 hL hjn
      go_wp2_with fail
      refine HN1.out.mono ?_
      rintro e wa ⟨rfl, hka⟩
      have HXE := Lib.hid (show be 8 N = numL N (-1) from by unfold numL; rw [if_neg (by omega), List.append_nil])
      have hz1 : (bstr (be 8 N)).size = 8 := by rw [bstr_size, be_length]
      obtain ⟨cc, w3, hcv, hrow, hk3⟩ := str_bytes (P := Try.prog) wa Try.underlying22 Try.underlying5 str9 (bstr (be 8 N)) (by rw [bstr_size, be_length]; unfold maxLen; omega)
      rw [hz1] at hcv hrow
      rw [bstr_data] at hrow
      have HW := Lib.hid (rWrap_any 34 _ _ w3 hrow)
      rw [HXE.out] at HW
      have HK3 := Lib.hid ((HK.out.trans hka).trans hk3)
      have HOa := Lib.hid ((HO.out.keeps hka).keeps hk3)
      clear hk3 hka hrow HN1
      go_wp2_with fail
      refine HW.out.mono ?_
      rintro e w4 ⟨v4, rfl, ho4, hk4⟩
      have HO4 := Lib.hid (show Own w4 w3.heap.size 5 v4 ((endL N).map u8v) from ho4)
      have HOb := Lib.hid (HOa.out.keeps hk4)
      have HK4 := Lib.hid (HK3.out.trans hk4)
      have hs4 := HK4.out.size
      clear ho4 hk4 HW
      obtain ⟨q4, n4, c4, rfl⟩ := HO4.out.sl
      go_wp2_with (at_builtin; refine wpList_app1 (base := w.heap.size) u8ok rfl _ _ rfl (.slice po no co) (.slice q4 n4 c4) _ ((endL N).map u8v) rfl rfl HOb.out HO4.out.row (oneCell_map_u8 _) (by rw [List.length_map, List.length_map]; have := HLE.out; have := HEL.out; omega) (by decide) hs4 ?_; intro v5 w5 ho5 hg5 hf5; obtain ⟨p5, n5, c5, rfl⟩ := ho5.sl; have HO5 := Lib.hid ho5; have HK5 := Lib.hid (HK4.out.grown hg5 (fun k hk => HOb.out.base k hk)); clear ho5 hg5 hf5)
      go_ret2
      rw [HE0.out, HLL.out]
      exact ⟨_, rfl, by rw [List.map_append]; exact HO5.out, HK5.out⟩
end Txl
end Go.Proofs.Ytchjncnolmiejaa

/- txlog.begin, commit. -/
namespace Go.Proofs.Ytchjncnolmiejaa
open Go.RowKit
namespace Txl
open Oct Frm
def numP (l : List UInt8) : Nat := if 8 ≤ l.length then Oct.valOf (l.take 8) else 0
def cntP (l : List UInt8) : Nat := if 10 ≤ l.length then Oct.valOf ((l.drop 8).take 2) else 0
def beginB (n : Nat) (f : Fr1) : Bool := decide (f.kind = 32) && decide (f.pay.length = 10) && decide (numP f.pay = n) && decide (cntP f.pay ≤ 1000)
def commitB (n : Nat) (f : Fr1) : Bool := decide (numP f.pay = n) && decide (f.pay.length = 8) && decide (f.kind = 34)
theorem numP_lt (l : List UInt8) : numP l < 18446744073709551616 := by
  unfold numP
  split
  · have := valOf_lt (l.take 8)
    rw [List.length_take, show min 8 l.length = 8 from by omega] at this
    simpa using this
  · omega
theorem cntP_lt (l : List UInt8) : cntP l < 65536 := by
  unfold cntP
  split
  · have := valOf_lt ((l.drop 8).take 2)
    rw [List.length_take, List.length_drop, show min 2 (l.length - 8) = 2 from by omega] at this
    simpa using this
  · omega
theorem u8 (l : List UInt8) : uE l.length 0 0 8 = (if 8 ≤ l.length then 0 else 2) ∧ uA l.length 0 0 8 = (if 8 ≤ l.length then 8 else 0) ∧ uV l 0 0 8 = numP l := by
  have hE : uE l.length 0 0 8 = if 8 ≤ l.length then 0 else 2 := by
    unfold uE
    rw [if_neg (by simp), if_neg (by simp [okk])]
    by_cases h : 8 ≤ l.length
    · rw [if_neg (by omega), if_pos h]
    · rw [if_pos (by omega), if_neg h]
  refine ⟨hE, ?_, ?_⟩
  · unfold uA
    rw [hE]
    split <;> simp
  · unfold uV numP
    rw [hE]
    by_cases h : 8 ≤ l.length
    · rw [if_pos h, if_pos h, if_pos rfl]
      unfold getV
      rw [if_pos (by simp [getB, okk]; omega)]
      rfl
    · rw [if_neg h, if_neg h, if_neg (by decide)]
theorem u2 (l : List UInt8) : uE l.length (if 8 ≤ l.length then 8 else 0) (if 8 ≤ l.length then 0 else 2) 2 = (if 10 ≤ l.length then 0 else 2) ∧ uA l.length (if 8 ≤ l.length then 8 else 0) (if 8 ≤ l.length then 0 else 2) 2 = (if 10 ≤ l.length then 10 else if 8 ≤ l.length then 8 else 0) ∧ uV l (if 8 ≤ l.length then 8 else 0) (if 8 ≤ l.length then 0 else 2) 2 = cntP l := by
  by_cases h8 : 8 ≤ l.length
  · rw [if_pos h8, if_pos h8]
    have hE : uE l.length 8 0 2 = if 10 ≤ l.length then 0 else 2 := by
      unfold uE
      rw [if_neg (by simp), if_neg (by simp [okk])]
      by_cases h : 10 ≤ l.length
      · rw [if_neg (by omega), if_pos h]
      · rw [if_pos (by omega), if_neg h]
    refine ⟨hE, ?_, ?_⟩
    · unfold uA
      rw [hE]
      by_cases h : 10 ≤ l.length
      · rw [if_pos h, if_pos h, if_pos rfl]; rfl
      · rw [if_neg h, if_neg h, if_neg (by decide)]
    · unfold uV cntP
      rw [hE]
      by_cases h : 10 ≤ l.length
      · rw [if_pos h, if_pos h, if_pos rfl]
        unfold getV
        rw [if_pos (by simp [getB, okk]; omega)]
        rfl
      · rw [if_neg h, if_neg h, if_neg (by decide)]
  · rw [if_neg h8, if_neg h8]
    have h10 : ¬ 10 ≤ l.length := by omega
    have hE : uE l.length 0 2 2 = 2 := by unfold uE; rw [if_pos (by decide)]
    refine ⟨by rw [hE, if_neg h10], ?_, ?_⟩
    · unfold uA
      rw [hE, if_neg (by decide), if_neg h10]
    · unfold uV cntP
      rw [hE, if_neg (by decide), if_neg h10]
theorem d10 (l : List UInt8) : (doneE (if 10 ≤ l.length then 0 else 2) (if 10 ≤ l.length then 10 else if 8 ≤ l.length then 8 else 0) l.length = 0) ↔ l.length = 10 := by
  unfold doneE
  by_cases h : 10 ≤ l.length
  · rw [if_pos h, if_pos h]
    by_cases h2 : 10 < l.length
    · rw [if_pos ⟨rfl, h2⟩]
      constructor
      · intro e; cases e
      · intro e; omega
    · rw [if_neg (fun e => h2 e.2)]
      exact ⟨fun _ => by omega, fun _ => rfl⟩
  · rw [if_neg h, if_neg h, if_neg (fun e => absurd e.1 (by decide))]
    constructor
    · intro e; cases e
    · intro e; omega
theorem d8 (l : List UInt8) : (doneE (if 8 ≤ l.length then 0 else 2) (if 8 ≤ l.length then 8 else 0) l.length = 0) ↔ l.length = 8 := by
  unfold doneE
  by_cases h : 8 ≤ l.length
  · rw [if_pos h, if_pos h]
    by_cases h2 : 8 < l.length
    · rw [if_pos ⟨rfl, h2⟩]
      constructor
      · intro e; cases e
      · intro e; omega
    · rw [if_neg (fun e => h2 e.2)]
      exact ⟨fun _ => by omega, fun _ => rfl⟩
  · rw [if_neg h, if_neg h, if_neg (fun e => absurd e.1 (by decide))]
    constructor
    · intro e; cases e
    · intro e; omega
def BeginDid (W : World) (n : Nat) (f : Fr1) (e : Ending) (w' : World) : Prop := e = .returned (.tuple #[.int .i64 (cntP f.pay : Int), .bool (beginB n f)]) ∧ Keeps W w'
set_option maxRecDepth 100000 in
set_option maxHeartbeats 2000000 in
theorem begin_any (n : Nat) (hn : n < 9223372036854775808) (f : Fr1) (pv : Value) (w : World) (hr : Row w pv (f.pay.map u8v)) (hl : f.pay.length ≤ 35184372088832) : Calls Try.prog 142 #[.agg #[.int .i64 f.at', .int .i64 f.len, .int .i64 f.kind, pv], .int .i64 (n : Int)] w (BeginDid w n f) := by
  obtain ⟨p, c, rfl, -, -⟩ := hr.formB
  obtain ⟨fa, fl, fk, l⟩ := f
  have HR := Lib.hid hr
  have hll : l.length ≤ 35184372088832 := hl
  have HX : Hid (beginB n ⟨fa, fl, fk, l⟩ = (decide (fk = 32) && decide (l.length = 10) && decide (numP l = n) && decide (cntP l ≤ 1000))) := Lib.hid rfl
  obtain ⟨a1, a2, a3⟩ := u8 l
  obtain ⟨b1, b2, b3⟩ := u2 l
  have HA := Lib.hid (And.intro a1 (And.intro a2 a3))
  have HB := Lib.hid (And.intro b1 (And.intro b2 b3))
  have HD := Lib.hid (d10 l)
  have hnl := numP_lt l
  have hcl := cntP_lt l
  have hwu := wrapU (n := n) (by omega)
  have hwc : IntKind.i64.wrap (cntP l : Int) = (cntP l : Int) := by rw [IntKind.wrap_i64]; omega
  unfold BeginDid
  rw [HX.out]
  clear hr hl a1 a2 a3 b1 b2 b3 HX
  show Calls Try.prog 142 #[.agg #[.int .i64 fa, .int .i64 fl, .int .i64 fk, .slice p l.length c], .int .i64 (n : Int)] w fun e w' => e = .returned (.tuple #[.int .i64 (cntP l : Int), .bool (decide (fk = 32) && decide (l.length = 10) && decide (numP l = n) && decide (cntP l ≤ 1000))]) ∧ Keeps w w'
  obtain ⟨cn, hcn⟩ : ∃ x, x = cntP l := ⟨_, rfl⟩
  obtain ⟨nm, hnm⟩ : ∃ x, x = numP l := ⟨_, rfl⟩
  rw [← hcn] at hwc hcl HB ⊢
  rw [← hnm] at hnl HA ⊢
  clear hcn hnm
  go_enter Try.func142, Try.ntmps142
  go_upto_region 1 with fail
  generalize hW : World.alloc w _ = w1
  have HK1 := Lib.hid (show Keeps w w1 from by rw [← hW]; exact (Keeps.refl _).alloc _)
  have HQ1 := Lib.hid (show Blk w1 w.heap.size 139 #[.int .i64 fa, .int .i64 fl, .int .i64 fk, .slice p l.length c] from by rw [← hW]; exact Blk.new _ _ _ rfl)
  clear hW
  obtain ⟨q, hq⟩ : ∃ q, q = w.heap.size := ⟨_, rfl⟩
  rw [← hq] at HQ1 ⊢
  clear hq
  have q3 : w1.cell? ⟨q, 3, none⟩ = some (.slice p l.length c) := by rw [HQ1.out.cell]; rfl
  have HN := Lib.hid (newSource_any (.slice p l.length c) l w1 (HR.out.keeps HK1.out) hll)
  go_wp2_with fail
  refine HN.out.mono ?_
  rintro e w2 ⟨g, sv, rfl, hg, hS, -, hk⟩
  have HS := Lib.hid hS
  have HK2 := Lib.hid (HK1.out.trans hk)
  have HQ2 := Lib.hid (HQ1.out.keeps hk)
  have HGQ := Lib.hid (show g ≠ q from fun e => by have := HQ1.out.lt; omega)
  have HG0 := Lib.hid (show w.heap.size ≤ g from Nat.le_trans HK1.out.size hg)
  clear hS hk hg q3 HN
  have HU := Lib.hid (srcU_any g sv l 0 0 8 w2 HS.out)
  rw [HA.out.1, HA.out.2.1, HA.out.2.2] at HU
  go_wp2_with fail
  refine HU.out.mono ?_
  rintro e w3 ⟨rfl, hS, hM⟩
  have HK3 := Lib.hid (hM.keeps HK2.out (fun x hx => by subst hx; exact HG0.out))
  have HQ3 := Lib.hid (HQ2.out.mods hM (fun e => HGQ.out e.symm))
  have HU := Lib.hid (srcU_any g sv l _ _ 2 w3 hS)
  rw [HB.out.1, HB.out.2.1, HB.out.2.2] at HU
  clear hS hM HS
  go_wp2_with fail
  refine HU.out.mono ?_
  rintro e w4 ⟨rfl, hS, hM⟩
  have HK4 := Lib.hid (hM.keeps HK3.out (fun x hx => by subst hx; exact HG0.out))
  have HQ4 := Lib.hid (HQ3.out.mods hM (fun e => HGQ.out e.symm))
  have HDN := Lib.hid (done_any g sv l _ _ w4 hS)
  unfold QuietI at HDN
  generalize doneE (if 10 ≤ l.length then 0 else 2) (if 10 ≤ l.length then 10 else if 8 ≤ l.length then 8 else 0) l.length = dn at *
  clear hS hM HU
  have q2 : w4.cell? ⟨q, 2, none⟩ = some (.int .i64 fk) := by rw [HQ4.out.cell]; rfl
  clear HA HB
  by_cases hk : fk = 32
  · have e1 : (fk == 32) = true := by simp [hk]
    have ed1 := Lib.hid (show decide (fk = 32) = true from by simp [hk])
    by_cases hd : dn = 0
    · have e2 : (dn == 0) = true := by simp [hd]
      have ed2 := Lib.hid (show decide (l.length = 10) = true from by simp [HD.out.1 hd])
      by_cases hm : nm = n
      · have e3 : ((nm : Int) == (n : Int)) = true := by simp [hm]
        have ed3 := Lib.hid (show decide (nm = n) = true from by simp [hm])
        clear hk hd hm
        by_cases hc : cn ≤ 1000
        · have ed4 := Lib.hid (show decide (cn ≤ 1000) = true from by simp [hc])
          have e4 : decide ((cn : Int) ≤ 1000) = true := by simp; omega
          go_wp2_with fail
          refine HDN.out.mono ?_
          rintro e w5 ⟨rfl, hk5⟩
          go_wp2_with fail
          go_ret2
          exact ⟨by rw [ed1.out, ed2.out, ed3.out, ed4.out]; rfl, HK4.out.trans hk5⟩
        · have ed4 := Lib.hid (show decide (cn ≤ 1000) = false from by simp; omega)
          have e4 : decide ((cn : Int) ≤ 1000) = false := by simp; omega
          go_wp2_with fail
          refine HDN.out.mono ?_
          rintro e w5 ⟨rfl, hk5⟩
          go_wp2_with fail
          go_ret2
          exact ⟨by rw [ed1.out, ed2.out, ed3.out, ed4.out]; rfl, HK4.out.trans hk5⟩
      · have e3 : ((nm : Int) == (n : Int)) = false := by simp; omega
        have e3n : (nm == n) = false := by simp; omega
        have ed3 := Lib.hid (show decide (nm = n) = false from by simp [hm])
        clear hk hd hm
        go_wp2_with fail
        refine HDN.out.mono ?_
        rintro e w5 ⟨rfl, hk5⟩
        go_wp2_with fail
        go_ret2
        exact ⟨by rw [ed1.out, ed2.out, ed3.out]; rfl, HK4.out.trans hk5⟩
    · have e2 : (dn == 0) = false := by simp [hd]
      have ed2 := Lib.hid (show decide (l.length = 10) = false from by simp; exact fun e => hd (HD.out.2 e))
      clear hk hd
      go_wp2_with fail
      refine HDN.out.mono ?_
      rintro e w5 ⟨rfl, hk5⟩
      go_wp2_with fail
      go_ret2
      exact ⟨by rw [ed1.out, ed2.out]; rfl, HK4.out.trans hk5⟩
  · have e1 : (fk == 32) = false := by simp [hk]
    have ed1 := Lib.hid (show decide (fk = 32) = false from by simp [hk])
    clear hk
    go_wp2_with fail
    go_ret2
    exact ⟨by rw [ed1.out]; rfl, HK4.out⟩
def CommitDid (W : World) (n : Nat) (f : Fr1) (e : Ending) (w' : World) : Prop := e = .returned (.bool (commitB n f)) ∧ Keeps W w'
set_option maxRecDepth 100000 in
set_option maxHeartbeats 2000000 in
theorem commit_any (n : Nat) (hn : n < 9223372036854775808) (f : Fr1) (pv : Value) (w : World) (hr : Row w pv (f.pay.map u8v)) (hl : f.pay.length ≤ 35184372088832) : Calls Try.prog 143 #[.agg #[.int .i64 f.at', .int .i64 f.len, .int .i64 f.kind, pv], .int .i64 (n : Int)] w (CommitDid w n f) := by
  obtain ⟨p, c, rfl, -, -⟩ := hr.formB
  obtain ⟨fa, fl, fk, l⟩ := f
  have HR := Lib.hid hr
  have hll : l.length ≤ 35184372088832 := hl
  have HX : Hid (commitB n ⟨fa, fl, fk, l⟩ = (decide (numP l = n) && decide (l.length = 8) && decide (fk = 34))) := Lib.hid rfl
  obtain ⟨a1, a2, a3⟩ := u8 l
  have HA := Lib.hid (And.intro a1 (And.intro a2 a3))
  have HD := Lib.hid (d8 l)
  have hnl := numP_lt l
  have hwu := wrapU (n := n) (by omega)
  unfold CommitDid
  rw [HX.out]
  clear hr hl a1 a2 a3 HX
  show Calls Try.prog 143 #[.agg #[.int .i64 fa, .int .i64 fl, .int .i64 fk, .slice p l.length c], .int .i64 (n : Int)] w fun e w' => e = .returned (.bool (decide (numP l = n) && decide (l.length = 8) && decide (fk = 34))) ∧ Keeps w w'
  obtain ⟨nm, hnm⟩ : ∃ x, x = numP l := ⟨_, rfl⟩
  rw [← hnm] at hnl HA ⊢
  clear hnm
  go_enter Try.func143, Try.ntmps143
  go_upto_region 1 with fail
  generalize hW : World.alloc w _ = w1
  have HK1 := Lib.hid (show Keeps w w1 from by rw [← hW]; exact (Keeps.refl _).alloc _)
  have HQ1 := Lib.hid (show Blk w1 w.heap.size 139 #[.int .i64 fa, .int .i64 fl, .int .i64 fk, .slice p l.length c] from by rw [← hW]; exact Blk.new _ _ _ rfl)
  clear hW
  obtain ⟨q, hq⟩ : ∃ q, q = w.heap.size := ⟨_, rfl⟩
  rw [← hq] at HQ1 ⊢
  clear hq
  have q3 : w1.cell? ⟨q, 3, none⟩ = some (.slice p l.length c) := by rw [HQ1.out.cell]; rfl
  have HN := Lib.hid (newSource_any (.slice p l.length c) l w1 (HR.out.keeps HK1.out) hll)
  go_wp2_with fail
  refine HN.out.mono ?_
  rintro e w2 ⟨g, sv, rfl, hg, hS, -, hk⟩
  have HS := Lib.hid hS
  have HK2 := Lib.hid (HK1.out.trans hk)
  have HQ2 := Lib.hid (HQ1.out.keeps hk)
  have HGQ := Lib.hid (show g ≠ q from fun e => by have := HQ1.out.lt; omega)
  have HG0 := Lib.hid (show w.heap.size ≤ g from Nat.le_trans HK1.out.size hg)
  clear hS hk hg q3 HN
  have HU := Lib.hid (srcU_any g sv l 0 0 8 w2 HS.out)
  rw [HA.out.1, HA.out.2.1, HA.out.2.2] at HU
  clear HA
  by_cases hm : nm = n
  · have e3 : ((nm : Int) == (n : Int)) = true := by simp [hm]
    have ed3 := Lib.hid (show decide (nm = n) = true from by simp [hm])
    go_wp2_with fail
    refine HU.out.mono ?_
    rintro e w3 ⟨rfl, hS, hM⟩
    have HK3 := Lib.hid (hM.keeps HK2.out (fun x hx => by subst hx; exact HG0.out))
    have HQ3 := Lib.hid (HQ2.out.mods hM (fun e => HGQ.out e.symm))
    have HDN := Lib.hid (done_any g sv l _ _ w3 hS)
    unfold QuietI at HDN
    generalize doneE (if 8 ≤ l.length then 0 else 2) (if 8 ≤ l.length then 8 else 0) l.length = dn at *
    clear hS hM HU
    have q2 : w3.cell? ⟨q, 2, none⟩ = some (.int .i64 fk) := by rw [HQ3.out.cell]; rfl
    by_cases hd : dn = 0
    · have e2 : (dn == 0) = true := by simp [hd]
      have ed2 := Lib.hid (show decide (l.length = 8) = true from by simp [HD.out.1 hd])
      clear hd
      by_cases hk : fk = 34
      · have e1 : (fk == 34) = true := by simp [hk]
        have ed1 := Lib.hid (show decide (fk = 34) = true from by simp [hk])
        clear hk
        go_wp2_with fail
        refine HDN.out.mono ?_
        rintro e w5 ⟨rfl, hk5⟩
        have q5 := keep1 hk5 q2
        go_wp2_with fail
        go_ret
        exact ⟨by rw [ed3.out, ed2.out, ed1.out]; rfl, HK3.out.trans hk5⟩
      · have e1 : (fk == 34) = false := by simp [hk]
        have ed1 := Lib.hid (show decide (fk = 34) = false from by simp [hk])
        clear hk
        go_wp2_with fail
        refine HDN.out.mono ?_
        rintro e w5 ⟨rfl, hk5⟩
        have q5 := keep1 hk5 q2
        go_wp2_with fail
        go_ret
        exact ⟨by rw [ed3.out, ed2.out, ed1.out]; rfl, HK3.out.trans hk5⟩
    · have e2 : (dn == 0) = false := by simp [hd]
      have ed2 := Lib.hid (show decide (l.length = 8) = false from by simp; exact fun e => hd (HD.out.2 e))
      clear hd
      go_wp2_with fail
      refine HDN.out.mono ?_
      rintro e w5 ⟨rfl, hk5⟩
      go_wp2_with fail
      go_ret
      exact ⟨by rw [ed3.out, ed2.out]; rfl, HK3.out.trans hk5⟩
  · have e3 : ((nm : Int) == (n : Int)) = false := by simp; omega
    have e3n : (nm == n) = false := by simp; omega
    have ed3 := Lib.hid (show decide (nm = n) = false from by simp [hm])
    clear hm
    go_wp2_with fail
    refine HU.out.mono ?_
    rintro e w3 ⟨rfl, hS, hM⟩
    have HK3 := Lib.hid (hM.keeps HK2.out (fun x hx => by subst hx; exact HG0.out))
    clear hS hM
    go_wp2_with fail
    go_ret
    exact ⟨by rw [ed3.out]; rfl, HK3.out⟩
end Txl
end Go.Proofs.Ytchjncnolmiejaa

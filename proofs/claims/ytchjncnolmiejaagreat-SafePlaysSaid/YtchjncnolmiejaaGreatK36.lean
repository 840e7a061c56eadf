/- Several texts in one: SfNames, SfWaits. -/
import Derived.Test.YtchjncnolmiejaaGreatK27
import Derived.Test.YtchjncnolmiejaaGreatSfShelf
import Derived.Test.YtchjncnolmiejaaGreatK35
/- vdisk: Names, rising; how many turns and writes wait. -/
namespace Go.Proofs.YtchjncnolmiejaaGreat
open Go.RowKit Go.Sort Go.Shelf
namespace Vd
open Go.Maps
open Mbx (intD intElem intElem_inv)
theorem sortsStr (m : Nat) : AnyZ.SortsIn Tryz.prog Tryz.sortedStr_ren Fence.wide m :=
  ⟨fun blk off cap ss W hH hblk hsz => callsIn_wide.2 (AnyM.slices_Sort_string Tryz.sortStr blk off cap ss W hH hblk hsz),
   fun p cap W => callsIn_wide.2 (AnyM.slices_Sort_string_none Tryz.sortStr p cap W)⟩
theorem keysNam_any (mb : Option Nat) (W : World) : Calls Tryz.prog 121 #[.map mb] W fun e w' => e = .returned (.func (.func 148) #[] #[.pointer (some ⟨W.heap.size, 0, none⟩)]) ∧ w' = W.alloc (.cells #[.map mb] 76) :=
  (callsIn_wide (n := 5)).1 (AnyZ.keys_in Tryz.keysNam Fence.wide 5 trivial rfl mb W)
theorem sortedNam_any (b nn : Nat) (D0 : DataW Unit) (R : Value → Option (DataW Unit × List MemPlace)) (w : World) (hown : w.ownsMap Tryz.prog 9 R b nn D0) (hn : nn ≤ 1000000) :
    Calls Tryz.prog 120 #[.func (.func 148) #[] #[.pointer (some ⟨w.heap.size, 0, none⟩)]] (w.alloc (.cells #[.map (some b)] 76)) fun e w' => ∃ (v : Value) (ss : List (List UInt8)), e = .returned v ∧ ss.Perm (strKeys D0) ∧ Own w' w.heap.size 9 v ((ss.mergeSort (fun x y => decide (x ≤ y))).map encStr) ∧ Keeps w w' := by
  refine (callsIn_wide (n := 5)).1 ?_
  have hsz := hown.size_le
  have hbl := hown.lt
  have hseq : SeqGives Fence.wide 2 Tryz.prog 148 #[.pointer (some ⟨w.heap.size, 0, none⟩)] encStr (fun ss => ss.Perm (strKeys D0)) (Maps.size D0) (w.alloc (.cells #[.map (some b)] 76)) :=
    AnyZ.keys_gives (ρ := Tryz.keysNam_ren) { Tryz.keysNam with } Fence.wide _ trivial rfl (by omega) w.heap.size b nn D0 _ (by simp) (by simp) (by
      obtain ⟨es, clock, hb, Ft, hs, hD⟩ := hown
      exact ⟨es, clock, (Below.heap_alloc _ _ b hbl).trans hb, Ft, hs, hD⟩)
  have cS := AnyZ.sorted_in Tryz.sortedStr Fence.wide 5 trivial trivial trivial trivial rfl (by omega) (sortsStr _) (enters_of Tryz.func147 (by kernel_rfl) rfl) 148 #[.pointer (some ⟨w.heap.size, 0, none⟩)] trivial (enters_of Tryz.func148 (by kernel_rfl) rfl) _ _ (by unfold maxLen; omega) (by omega) _ hseq
  change CallsIn _ _ Tryz.prog 120 _ _ _ at cS
  refine cS.mono ?_
  rintro e w' ⟨v, ss, rfl, hS, hrow, hnil, hb⟩
  refine ⟨v, ss, rfl, hS, ?_, ((Below.refl _ w).alloc (Nat.le_refl _) _).trans (hb.mono (by simp))⟩
  unfold Own
  rw [show ((ss.mergeSort (fun x y => decide (x ≤ y))).map encStr).length = ss.length from by simp]
  exact ownsRow_base_a hrow (by simp)
/-- the names, as Go's strings -/
def nameV (l : Nms) : List Value := l.map fun p => Value.string (bstr p.1)
theorem sorted_names {w : World} {b nn : Nat} {D : DataW Unit} {l : Nms} (ho : w.ownsMap Tryz.prog 9 intElem b nn D) (h : ReadsN D l) {ss : List (List UInt8)} (hs : ss.Perm (strKeys D)) : (ss.mergeSort (fun x y => decide (x ≤ y))).map encStr = nameV l := by
  have hnd : (l.map (·.1)).Nodup := List.pairwise_map.2 (h.2.1.imp fun {a b} hab => str_ne hab)
  have hc : Collected D (fun _ => false) (l.map (·.1)) := ⟨hnd, fun x => by
    rw [(h.2.2 x).1]
    simp only [and_true]
    cases e : look l x with
    | none =>
      rw [look_none] at e
      simp only [List.mem_map]
      constructor
      · rintro ⟨p, hp, rfl⟩; exact absurd rfl (e p hp)
      · intro hh; cases hh
    | some i =>
      have := (look_mem h.2.1).1 e
      simp only [Option.isSome_some, iff_true]
      exact List.mem_map.2 ⟨_, this, rfl⟩⟩
  have hp := hc.perm ho strKeyed Tryz.underlying9 (fun _ => rfl)
  have e : ss.mergeSort (fun x y => decide (x ≤ y)) = l.map (·.1) := by
    show ss.mergeSort leB = _
    rw [mergeSort_of_perm (hs.trans hp.symm)]
    refine List.mergeSort_of_pairwise ?_
    refine List.pairwise_map.2 (h.2.1.imp fun {a b} hab => ?_)
    exact decide_eq_true (List.le_of_lt hab)
  rw [e, List.map_map]
  rfl
def namesD (d : Dsk) : Nms := if d.off then [] else d.seen
def NamesDid (W : World) (d : Dsk) (e : Ending) (w' : World) : Prop := ∃ v, e = .returned v ∧ Own w' W.heap.size 9 v (nameV (namesD d)) ∧ Keeps W w'
theorem names_any (w : World) {S : Nat → Prop} {g : Nat} {d : Dsk} (h : DiskAt w S g d) : Calls Tryz.prog 76 #[.pointer (some ⟨g, 0, none⟩)] w (NamesDid w d) := by
  obtain ⟨b1, b2, nv, mv, nb, h⟩ := h
  obtain ⟨-, -, c2, -, -, c5, -⟩ := h.cells
  obtain ⟨D, ho, hr⟩ := h.seen
  have hs1 := h.fit.s1
  unfold NamesDid
  cases hoff : d.off with
  | true =>
    rw [hoff] at c5
    have HX := Lib.hid (show namesD d = [] from by unfold namesD; rw [hoff]; rfl)
    clear ho hr h c2 hoff
    go_enter Tryz.func76, Tryz.ntmps76
    go_wp2_with fail
    go_ret
    exact ⟨_, rfl, by rw [HX.out]; exact Own.nil _ _ _, Keeps.refl _⟩
  | false =>
    rw [hoff] at c5
    have HX := Lib.hid (show namesD d = d.seen from by unfold namesD; rw [hoff]; rfl)
    have HS := Lib.hid (sortedNam_any b1 _ D intElem w ho (by omega))
    have HM := Lib.hid (fun (ss : List (List UInt8)) (hs : ss.Perm (strKeys D)) => sorted_names ho hr hs)
    clear ho hr h hoff
    go_enter Tryz.func76, Tryz.ntmps76
    go_wp2_with fail
    refine (keysNam_any _ _).mono ?_
    rintro e w2 ⟨rfl, rfl⟩
    go_wp2_with fail
    refine HS.out.mono ?_
    rintro e w3 ⟨v, ss, rfl, hss, hown, hk⟩
    have HO := Lib.hid (show Own w3 w.heap.size 9 v (nameV (namesD d)) from by rw [HX.out, ← HM.out ss hss]; exact hown)
    have HK := Lib.hid hk
    clear hown hk hss
    obtain ⟨p, n, c, rfl⟩ := HO.out.sl
    go_wp2_with fail
    go_ret
    exact ⟨_, rfl, HO.out, HK.out⟩
def waitsD (d : Dsk) : Nat × Nat := if d.off then (0, 0) else (d.moves.length, writesD d)
end Vd
end Go.Proofs.YtchjncnolmiejaaGreat

/- vdisk: how many turns and writes wait. -/
namespace Go.Proofs.YtchjncnolmiejaaGreat
open Go.RowKit
namespace Vd
open Go.Maps
def WaitsDid (W : World) (d : Dsk) (e : Ending) (w' : World) : Prop := e = .returned (.tuple #[.int .i64 ((waitsD d).1 : Int), .int .i64 ((waitsD d).2 : Int)]) ∧ Keeps W w'
/-- the writes of the first known nodes -/
def sumTo (d : Dsk) (j : Nat) : Nat := (((knownL d).take j).map fun i => (nodD d i).pats.length).sum
theorem sumTo_succ {d : Dsk} {j : Nat} (h : j < (knownL d).length) : sumTo d (j + 1) = sumTo d j + (nodD d (knownL d)[j]).pats.length := by
  unfold sumTo
  rw [List.take_succ_eq_append_getElem h, List.map_append, List.sum_append]
  simp
theorem sumTo_le {d : Dsk} {B : Nat} (hB : ∀ y ∈ d.nodes, y.pats.length ≤ B) : ∀ j, sumTo d j ≤ j * B
  | 0 => by simp [sumTo]
  | j + 1 => by
    have ih := sumTo_le hB j
    by_cases h : j < (knownL d).length
    · rw [sumTo_succ h, Nat.succ_mul]
      have hi : (knownL d)[j] < d.nodes.length := List.mem_range.1 (List.mem_filter.1 (List.getElem_mem h)).1
      have := hB d.nodes[(knownL d)[j]] (List.getElem_mem hi)
      rw [nodD_get hi]
      omega
    · have : sumTo d (j + 1) = sumTo d j := by
        unfold sumTo
        rw [List.take_of_length_le (by omega), List.take_of_length_le (by omega)]
      rw [this, Nat.succ_mul]
      omega
set_option maxRecDepth 100000 in
set_option maxHeartbeats 2000000 in
theorem waits_any (w : World) {S : Nat → Prop} {g : Nat} {d : Dsk} (h : DiskAt w S g d) (hnl : d.nodes.length ≤ 1000000) (hpl : ∀ y ∈ d.nodes, y.pats.length ≤ 1000000) : Calls Tryz.prog 77 #[.pointer (some ⟨g, 0, none⟩)] w (WaitsDid w d) := by
  obtain ⟨b1, b2, nv, mv, nb, h⟩ := h
  obtain ⟨-, -, -, -, c4, c5, -⟩ := h.cells
  have HD := Lib.hid h
  have HKN := Lib.hid (known_any w h (by omega))
  have HSL := Lib.hid (sumTo_le hpl)
  obtain ⟨pm, cm, rfl, -, -⟩ := Frm.ownsRow_form h.mvs
  have hKL : (knownL d).length ≤ d.nodes.length := by unfold knownL; exact Nat.le_trans (List.length_filter_le ..) (by simp)
  clear h
  unfold WaitsDid
  cases hoff : d.off with
  | true =>
    rw [hoff] at c5
    have HX := Lib.hid (show waitsD d = (0, 0) from by unfold waitsD; rw [hoff]; rfl)
    clear hoff
    go_enter Tryz.func77, Tryz.ntmps77
    go_wp2_with fail
    go_ret2
    exact ⟨by rw [HX.out]; rfl, Keeps.refl _⟩
  | false =>
    rw [hoff] at c5
    have HX := Lib.hid (show waitsD d = (d.moves.length, writesD d) from by unfold waitsD; rw [hoff]; rfl)
    have HC4 := Lib.hid c4
    clear hoff c4
    go_enter Tryz.func77, Tryz.ntmps77
    go_wp2_with fail
    refine HKN.out.mono ?_
    rintro e w2 ⟨v, rfl, hown, hk⟩
    obtain ⟨pk, nk, ck, rfl⟩ := hown.sl
    have hnk : nk = (knownL d).length := by
      have := hown.row.form
      obtain ⟨p', c', hv, -, -⟩ := this
      simp only [Value.slice.injEq] at hv
      rw [hv.2.1]
      simp [ptrsOf]
    have HO := Lib.hid hown
    have HK := Lib.hid hk
    have HNK := Lib.hid hnk
    have hnk2 : nk ≤ 1000000 := by omega
    clear hown hk c5 HKN hnk
    go_wp2_with fail
    go_loopw [3, 13] (fun sx ix wr => ∃ j : Nat, ix = .int .i64 (j : Int) ∧ j ≤ nk ∧ sx = .int .i64 (sumTo d j : Int) ∧ wr = w2) (fun _ ix _ => nk - (RowKit.intOf ix).toNat)
    case atStart => exact ⟨0, rfl, Nat.zero_le _, by simp [sumTo], rfl⟩
    case round =>
      obtain ⟨j, rfl, hj, rfl, rfl⟩ := hrel
      by_cases hlt : j < nk
      · have hjl : j < (knownL d).length := by rw [← HNK.out]; exact hlt
        have hlt' : (j : Int) < (nk : Int) := by omega
        obtain ⟨gk, ck', hv, -, -, -⟩ := HO.out.form (by simp [ptrsOf]; omega)
        simp only [Value.slice.injEq] at hv
        obtain ⟨rfl, hnk', rfl⟩ := hv
        have hin : (knownL d)[j] < d.nodes.length := List.mem_range.1 (List.mem_filter.1 (List.getElem_mem hjl)).1
        have hcell : wr.cell? ⟨gk, j, none⟩ = some (.pointer (some ⟨(nb.getD (knownL d)[j] (0, undef)).1, 0, none⟩)) := HO.out.cellAt j _ (by simp [ptrsOf, hjl])
        have hin2 : (knownL d)[j] < nb.length := by rw [HD.out.len]; exact hin
        have hnod := HD.out.nod (knownL d)[j] hin2 hin
        have hgd : nb.getD (knownL d)[j] (0, undef) = nb[(knownL d)[j]] := by rw [List.getD_eq_getElem?_getD, List.getElem?_eq_getElem hin2]; rfl
        rw [hgd] at hcell
        have HST := Lib.hid (sumTo_succ hjl)
        have hsl := HSL.out (j + 1)
        rw [HST.out] at hsl
        have hnd : nodD d (knownL d)[j] = d.nodes[(knownL d)[j]] := nodD_get hin
        rw [hnd] at hsl HST
        obtain ⟨pp, cp, hpv, -, -⟩ := Frm.ownsRow_form (hnod.keeps HK.out).pats
        have hc2 : wr.cell? ⟨nb[(knownL d)[j]].1, 2, none⟩ = some nb[(knownL d)[j]].2 := by rw [(hnod.keeps HK.out).blk.cell]; rfl
        rw [hpv] at hc2
        generalize nb[(knownL d)[j]].1 = kb at *
        obtain ⟨pl, hple⟩ : ∃ pl, pl = d.nodes[(knownL d)[j]].pats.length := ⟨_, rfl⟩
        rw [← hple] at hc2 hsl HST
        obtain ⟨s0, hs0⟩ : ∃ s0, s0 = sumTo d j := ⟨_, rfl⟩
        rw [← hs0] at hsl HST ⊢
        have hsm : (j + 1) * 1000000 ≤ 1000000000000 := by omega
        have hw : IntKind.i64.wrap ((s0 : Int) + (pl : Int)) = ((s0 + pl : Nat) : Int) := by rw [IntKind.wrap_i64]; omega
        clear hnod hgd hnd hple hs0 hpv hin2 hin hnk'
        go_wp2_with fail
        go_roundw
        case rel => exact ⟨j + 1, by simp, by omega, by rw [HST.out]; simp, trivial⟩
        case measure =>
          simp only [RowKit.intOf]
          omega
      · have hjn : j = nk := by omega
        have HE := Lib.hid (show sumTo d j = writesD d from by rw [hjn, HNK.out]; unfold sumTo writesD; rw [List.take_length])
        have hlt' : decide ((j : Int) < (nk : Int)) = false := by simp; omega
        have c4 := keep1 HK.out HC4.out
        clear hjn
        go_wp2_with fail
        go_ret2
        exact ⟨by rw [HX.out, ← HE.out]; rfl, HK.out⟩
end Vd
end Go.Proofs.YtchjncnolmiejaaGreat

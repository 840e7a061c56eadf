/- Several texts in one: MboxList, MboxRefs, MboxMore, MboxRefUse, MboxWith. -/
import Derived.Test.YtohchhgheeolpaaMboxKeys
import Derived.Test.YtohchhgheeolpaaK26
import Derived.Test.YtohchhgheeolpaaK00
import Derived.Test.YtohchhgheeolpaaFrameAwake
import Derived.Test.YtohchhgheeolpaaK12
import Derived.Test.YtohchhgheeolpaaK04
/- mbox.List. -/
namespace Go.Proofs.Ytohchhgheeolpaa
open Go.RowKit
namespace Mbx
open Rcd Go.Maps

def entC (e : Ent) : List Value := (entA e).toList
theorem entC_len (e : Ent) : (entC e).length = 7 := rfl
/-- a slice of entries, of the call's own -/
def EntsAt (w : World) (base : Nat) (v : Value) (l : List Ent) : Prop := w.ownsRow base 85 7 v l.length (l.flatMap entC)
theorem EntsAt.nil (w : World) (base : Nat) : EntsAt w base (.slice none 0 0) [] := World.ownsRow_nil w base _ 7
theorem EntsAt.keeps {w w' : World} {base : Nat} {v : Value} {l : List Ent} (h : EntsAt w base v l) (k : Keeps w w') : EntsAt w' base v l := Frm.ownsRow_keeps h k
theorem EntsAt.mods {w w' : World} {base : Nat} {v : Value} {l : List Ent} {S : Nat → Prop} (h : EntsAt w base v l) (k : Mods S w w') (hn : ∀ x, S x → x < base) : EntsAt w' base v l := Frm.ownsRow_mods h k (fun x hx hs => by have := Frm.ownsRow_base h x hx; have := hn x hs; omega)
theorem EntsAt.snoc {w : World} {base : Nat} {v : Value} {l : List Ent} {e : Ent} (h : w.ownsRow base 85 7 v (l.length + 1) (l.flatMap entC ++ entC e)) : EntsAt w base v (l ++ [e]) := by
  unfold EntsAt
  simpa using h
theorem entok : ElemOkS Try.prog 79 85 7 56 := elemOkS (z := .agg #[.int .i64 0, .int .i64 0, .int .i64 0, .int .i64 0, .int .i64 0, .int .i64 0, .bool false]) Try.underlying79 (by kernel_rfl) rfl

/-- an append to a slice of other elements leaves a slice as it was -/
theorem own_grown {w w' : World} {base base2 C2 n2 : Nat} {e e2 : TypeId} {v v2 : Value} {l xs2 : List Value} (h : Own w base e v l) (h2 : w.ownsRow base2 e2 C2 v2 n2 xs2) (hne : e2 ≠ e) (hg : w.grownBy w' v2.ownBlock) : Own w' base e v l :=
  h.mods ((Mods.refl (fun x => v2.ownBlock = some x) w).grown hg (fun k hk _ => hk)) (fun x hx hs => by
    rcases h.2 with ⟨rfl, _⟩ | ⟨g, cap, cur, rfl, _, hgg, _⟩
    · simp [Value.ownBlock] at hx
    · simp [Value.ownBlock] at hx
      subst hx
      exact Frm.ownsRow_ty h2 hne g hs _ _ hgg)
/-- the entries that are asked for -/
def filt (gone : Bool) (L : List Ent) : List Ent := L.filter fun e => gone || !e.gone
theorem filt_next (gone : Bool) (L : List Ent) {j : Nat} (hj : j < L.length) : filt gone (L.take (j + 1)) = filt gone (L.take j) ++ if gone || !L[j].gone then [L[j]] else [] := by
  rw [List.take_succ_eq_append_getElem hj]
  unfold filt
  rw [List.filter_append]
  congr 1
  simp only [List.filter_cons, List.filter_nil]
theorem filt_le (gone : Bool) (L : List Ent) : (filt gone L).length ≤ L.length := List.length_filter_le _ _
theorem filt_true (L : List Ent) : filt true L = L := by unfold filt; simp

theorem uids_nodup {L : List Ent} (h : Asc L) : (L.map (·.uid)).Nodup := by
  refine List.pairwise_map.2 (h.imp fun {a b} hab => ?_)
  show a.uid ≠ b.uid
  omega
theorem mem_uids {L : List Ent} (x : Int) : x ∈ L.map (·.uid) ↔ (at_ L x).isSome = true := by
  unfold at_
  rw [List.find?_isSome]
  simp
theorem sorted_uids {w : World} {b nn : Nat} {D : DataW Unit} {m : Box} {L : List Ent} (ho : w.ownsMap Try.prog 3 entElem b nn D) (hr : Reads D m.ent entD) (hR : Rel m L) {ss : List Int} (hs : ss.Perm (intKeys D)) : ss.mergeSort leI = L.map (·.uid) := by
  have hc : CollectedI D (fun _ => false) (L.map (·.uid)) := ⟨uids_nodup hR.asc, fun x => by rw [mem_uids, ← hR.ent, ← (hr.2 x).1]; simp⟩
  have hp := hc.perm ho intKeyed Try.underlying3 (fun _ => rfl)
  rw [mergeSort_of_perm_i (hs.trans hp.symm)]
  refine List.mergeSort_of_pairwise ?_
  refine List.pairwise_map.2 (hR.asc.imp fun {a b} hab => ?_)
  simp only [leI, decide_eq_true_eq]
  omega
theorem Rel.len_le {w : World} {g b1 b2 n : Nat} {m : Box} {L : List Ent} (h : BoxAt w g b1 b2 n m) (hR : Rel m L) : L.length ≤ n := by
  obtain ⟨D, ho, hr⟩ := h.ent
  have hc : CollectedI D (fun _ => false) (L.map (·.uid)) := ⟨uids_nodup hR.asc, fun x => by rw [mem_uids, ← hR.ent, ← (hr.2 x).1]; simp⟩
  have hp := (hc.perm ho intKeyed Try.underlying3 (fun _ => rfl)).length_eq
  have := ho.size_le
  obtain ⟨es, rfl⟩ := hr.1
  simp [intKeys, Maps.size] at hp this
  omega
def ListDid (W : World) (l : List Ent) (e : Ending) (w' : World) : Prop := ∃ v, e = .returned v ∧ EntsAt w' W.heap.size v l ∧ Keeps W w'

set_option maxRecDepth 100000 in
set_option maxHeartbeats 1000000 in
theorem list_any (w : World) {g b1 b2 n : Nat} {m : Box} {L : List Ent} (h : BoxAt w g b1 b2 n m) (hn : n ≤ 900000) (hR : Rel m L) (hwf : ∀ e ∈ L, (Lit.int .i64 e.uid).wf = true) (gone : Bool) : Calls Try.prog 49 #[.pointer (some ⟨g, 0, none⟩), .bool gone] w (ListDid w (filt gone L)) := by
  have HB := Lib.hid h
  have HWF := Lib.hid hwf
  have hlen := Rel.len_le h hR
  obtain ⟨D, ho, hr⟩ := h.ent
  have HSR := Lib.hid (fun ss hs => sorted_uids ho hr hR (ss := ss) hs)
  have HSO := Lib.hid (sortedEnt_any b1 n D entElem w ho (by omega))
  have HAT : Hid (∀ j (hj : j < L.length), m.ent L[j].uid = some L[j]) := Lib.hid (fun j hj => by rw [hR.ent]; exact at_mem hR.asc _ (List.getElem_mem hj))
  obtain ⟨c0, -⟩ := h.cells
  unfold ListDid
  clear h ho hr hR hwf
  go_enter Try.func49, Try.ntmps49
  go_wp2_with fail
  refine (keysEnt_any _ _).mono ?_
  rintro e w1 ⟨rfl, rfl⟩
  go_wp2_with fail
  refine HSO.out.mono ?_
  rintro e w1 ⟨v, ss, rfl, hss, hown, hk⟩
  rw [HSR.out ss hss] at hown
  obtain ⟨pk, ck, hv, -, -⟩ := hown.row.form
  rw [List.length_map, List.length_map] at hv
  subst hv
  have HO := Lib.hid hown
  have HK := Lib.hid hk
  clear hown hk hss c0 HSR HSO
  go_wp2_with fail
  go_loopw [5, 16] (fun vv i wr => ∃ (j : Nat) (p : Option Addr) (c : Nat), i = .int .i64 (j : Int) ∧ j ≤ L.length ∧ vv = .slice p (filt gone (L.take j)).length c ∧ Hid (EntsAt wr w.heap.size (.slice p (filt gone (L.take j)).length c) (filt gone (L.take j)) ∧ Keeps w wr ∧ Own wr w.heap.size 3 (.slice pk L.length ck) ((L.map (·.uid)).map encZ))) (fun _ i _ => L.length - (RowKit.intOf i).toNat)
  case atStart => exact ⟨0, none, 0, rfl, Nat.zero_le _, rfl, Lib.hid ⟨EntsAt.nil _ _, HK.out, HO.out⟩⟩
  case round =>
    obtain ⟨j, p, c, rfl, hj, rfl, HH⟩ := hrel
    clear HO HK
    by_cases hlt : j < L.length
    · obtain ⟨gk, ck', hv, -, -, -⟩ := Own.form HH.out.2.2 (by simp; omega)
      simp only [List.length_map, Value.slice.injEq] at hv
      obtain ⟨rfl, -, rfl⟩ := hv
      have k0 : wr.cell? ⟨gk, j, none⟩ = some (.int .i64 L[j].uid) := Own.cellAt HH.out.2.2 j _ (by simp [List.getElem?_eq_getElem hlt])
      have hl1 := (HB.out.keeps HH.out.2.1).look1 (HWF.out L[j] (List.getElem_mem hlt))
      rw [HAT.out j hlt] at hl1
      simp only [Option.getD_some] at hl1
      obtain ⟨c0, -⟩ := (HB.out.keeps HH.out.2.1).cells
      have HN := Lib.hid (filt_next gone L hlt)
      have hfl : (filt gone (L.take j)).length ≤ L.length := Nat.le_trans (filt_le _ _) (by simp; omega)
      generalize L[j] = E at *
      generalize filt gone (L.take j) = fl at *
      unfold entV at hl1
      go_upto_region 6 with fail
      generalize hW : World.alloc wr _ = wy
      have HKy := Lib.hid (show Keeps wr wy from by rw [← hW]; exact (Keeps.refl _).alloc _)
      have HE := Lib.hid (show Blk wy wr.heap.size 85 (entA E) from by rw [← hW]; exact Blk.new _ _ _ rfl)
      clear hW k0 c0 hl1
      generalize wr.heap.size = q at *
      have e6 : wy.cell? ⟨q, 6, none⟩ = some (.bool E.gone) := by rw [HE.out.cell]; rfl
      have HHs := Lib.hid (show EntsAt wy w.heap.size (.slice p fl.length c) fl ∧ Keeps w wy ∧ Own wy w.heap.size 3 (.slice (some ⟨gk, 0, none⟩) L.length ck) ((L.map (·.uid)).map encZ) from ⟨HH.out.1.keeps HKy.out, HH.out.2.1.trans HKy.out, HH.out.2.2.keeps HKy.out⟩)
      clear HH HKy
      generalize hgo : E.gone = eg at *
      have HG := Lib.hid hgo
      clear hgo
      go_cut [31] (fun t wx => t = .bool (gone || !eg) ∧ wx = wy)
      case first =>
        cases gone with
        | true =>
          go_wp2_with fail
          go_meet
          exact ⟨rfl, rfl⟩
        | false =>
          go_wp2_with fail
          go_meet
          exact ⟨rfl, rfl⟩
      case rest =>
      obtain ⟨rfl, rfl⟩ := hcut
      obtain ⟨wy, rfl⟩ : ∃ wz : World, wz = wc := ⟨_, rfl⟩
      clear e6
      unfold entA at HE
      generalize (gone || !eg) = ok at *
      cases ok with
      | true =>
        rw [if_pos rfl] at HN
        have hsz := HHs.out.2.1.size
        go_wp2_with (first
          | refine wpList_ld rfl entM HE.out _ rfl rfl ?_
          | (at_builtin; go_loud (refine wpList_apps (base := w.heap.size) entok (by decide) rfl _ _ rfl (.slice p fl.length c) (.slice (some ⟨wy.heap.size, 0, none⟩) 1 1) fl.length 1 (fl.flatMap entC) (entC E) rfl rfl (Frm.ownsRow_keeps HHs.out.1 ((Keeps.refl _).alloc _)) (Frm.rowS_lit rfl rfl rfl) (by simp [entC, entA, Value.oneCell']) (by omega) (by decide) (by rw [Frm.alloc_size]; omega) ?_; intro v' w4 ho4 hg4 hf4; obtain ⟨p4, c4, rfl, -, -⟩ := Frm.ownsRow_form ho4)))
        go_roundw
        case rel =>
          refine ⟨j + 1, p4, c4, by simp, by omega, by rw [HN.out]; simp, Lib.hid ⟨?_, ?_, ?_⟩⟩
          · rw [HN.out]
            have := EntsAt.snoc ho4
            simpa using this
          · exact (HHs.out.2.1.alloc _).grown hg4 (Frm.ownsRow_base HHs.out.1)
          · exact own_grown (HHs.out.2.2.keeps ((Keeps.refl _).alloc _)) (Frm.ownsRow_keeps HHs.out.1 ((Keeps.refl _).alloc _)) (by decide) hg4
        case measure =>
          simp only [RowKit.intOf]
          omega
      | false =>
        rw [if_neg (by simp), List.append_nil] at HN
        go_wp2_with fail
        go_roundw
        case rel => exact ⟨j + 1, p, c, by simp, by omega, by rw [HN.out], Lib.hid (by rw [HN.out]; exact HHs.out)⟩
        case measure =>
          simp only [RowKit.intOf]
          omega
    · obtain rfl : j = L.length := by omega
      rw [List.take_length] at HH ⊢
      go_wp2_with fail
      go_ret
      exact ⟨_, rfl, HH.out.1, HH.out.2.1⟩
end Mbx
end Go.Proofs.Ytohchhgheeolpaa

/- ref20: Use, Find, SameEntries, List. -/
namespace Go.Proofs.Ytohchhgheeolpaa
open Go.RowKit
namespace Mbx
open Rcd Go.Maps

/-- a slice that reads as entries -/
def EntR (w : World) (v : Value) (l : List Ent) : Prop := RowS w 7 v l.length (l.flatMap entC)
theorem EntR.keeps {w w' : World} {v : Value} {l : List Ent} (h : EntR w v l) (k : Keeps w w') : EntR w' v l := RowS.keeps h k
theorem EntsAt.r {w : World} {base : Nat} {v : Value} {l : List Ent} (h : EntsAt w base v l) : EntR w v l := by
  refine ⟨by rw [flat_len entC_len], ?_⟩
  cases l with
  | nil =>
    rcases h.2 with ⟨rfl, _⟩ | ⟨g, cap, cur, rfl, _, _, h1, h2, _⟩
    · exact .inl ⟨none, 0, rfl, rfl, Nat.zero_le _, fun _ => rfl⟩
    · exact .inl ⟨some ⟨g, 0, none⟩, cap, rfl, rfl, h2, fun h => by cases h⟩
  | cons e l =>
    obtain ⟨g, cap, hv, -, h1, h2, hc⟩ := Frm.ownsRow_at h (by simp)
    exact .inr ⟨g, 0, cap, hv, h1, h2, fun i x hx => by rw [Nat.zero_add]; exact hc i x hx⟩
theorem EntR.one {w : World} {v : Value} {l : List Ent} (h : EntR w v l) {j : Nat} (hj : j < l.length) : ∃ b off cap, v = .slice (some ⟨b, off, none⟩) l.length cap ∧ w.rangeAt b (off + j * 7) (entA l[j]).toList := by
  obtain ⟨b, off, cap, hv, -, -, hc⟩ := RowS.at_ h (by omega)
  refine ⟨b, off, cap, hv, fun i x hx => ?_⟩
  have hi : i < 7 := by
    have := (List.getElem?_eq_some_iff.1 hx).1
    simpa [entA] using this
  rw [Nat.add_assoc]
  refine hc.out (j * 7 + i) x ?_
  rw [flat_get entC_len l j i _ (List.getElem?_eq_getElem hj) hi]
  exact hx
theorem ent7 {w : World} {q o : Nat} {e : Ent} (h : w.rangeAt q o (entA e).toList) : w.cell? ⟨q, o, none⟩ = some (.int .i64 e.uid) ∧ w.cell? ⟨q, o + 1, none⟩ = some (.int .i64 e.time) ∧ w.cell? ⟨q, o + 2, none⟩ = some (.int .i64 e.flags) ∧ w.cell? ⟨q, o + 3, none⟩ = some (.int .i64 e.body) ∧ w.cell? ⟨q, o + 4, none⟩ = some (.int .i64 e.size) ∧ w.cell? ⟨q, o + 5, none⟩ = some (.int .i64 e.origin) ∧ w.cell? ⟨q, o + 6, none⟩ = some (.bool e.gone) :=
  ⟨h 0 _ rfl, h 1 _ rfl, h 2 _ rfl, h 3 _ rfl, h 4 _ rfl, h 5 _ rfl, h 6 _ rfl⟩

set_option maxRecDepth 100000 in
set_option maxHeartbeats 2000000 in
theorem sameEnts_any (w : World) {va vb : Value} {L : List Ent} (ha : EntR w va L) (hb : EntR w vb L) : Calls Try.prog 61 #[va, vb] w fun e w' => e = .returned (.bool true) ∧ Keeps w w' := by
  obtain ⟨pa, ca, rfl, hc0, hc1⟩ := RowS.form ha
  obtain ⟨pb, cb, rfl, -, -⟩ := RowS.form hb
  have HA := Lib.hid ha
  have HB := Lib.hid hb
  clear ha hb
  go_enter Try.func61, Try.ntmps61
  go_wp2_with fail
  go_loopw [5] (fun i wr => ∃ j : Nat, i = .int .i64 (j : Int) ∧ j ≤ L.length ∧ Hid (Keeps w wr)) (fun i _ => L.length - (RowKit.intOf i).toNat)
  case atStart => exact ⟨0, rfl, Nat.zero_le _, Lib.hid (Keeps.refl _)⟩
  case round =>
    obtain ⟨j, rfl, hj, HK⟩ := hrel
    by_cases hlt : j < L.length
    · obtain ⟨ba, oa, cap, hv, hra⟩ := (HA.out.keeps HK.out).one hlt
      simp only [Value.slice.injEq] at hv
      obtain ⟨rfl, -, rfl⟩ := hv
      obtain ⟨bb, ob, cap, hv, hrb⟩ := (HB.out.keeps HK.out).one hlt
      simp only [Value.slice.injEq] at hv
      obtain ⟨rfl, -, rfl⟩ := hv
      generalize L[j] = E at *
      obtain ⟨a0, a1, a2, a3, a4, a5, a6⟩ := ent7 hra
      obtain ⟨b0, b1, b2, b3, b4, b5, b6⟩ := ent7 hrb
      clear hra hrb
      go_wp2_with fail
      go_quiet (fail)
      go_wp2_with fail
      go_roundw
      case rel => exact ⟨j + 1, by simp, by omega, Lib.hid (HK.out.trans (by repeat (first | exact Keeps.refl _ | refine Keeps.drewN ?_ _)))⟩
      case measure =>
        simp only [RowKit.intOf]
        omega
    · go_wp2_with fail
      go_ret
      exact ⟨rfl, HK.out⟩

set_option maxRecDepth 100000 in
set_option maxHeartbeats 2000000 in
theorem rFind_any (w : World) {v : Value} {L : List Ent} (h : EntR w v L) (nx u : Int) : Calls Try.prog 56 #[.agg #[v, .int .i64 nx], .int .i64 u] w fun e w' => e = .returned (.int .i64 (findL L u)) ∧ Keeps w w' := by
  obtain ⟨p, c, rfl, hc0, hc1⟩ := RowS.form h
  have HA := Lib.hid h
  clear h
  go_enter Try.func56, Try.ntmps56
  go_upto_region 1 with fail
  generalize hW : World.alloc w _ = w1
  have HK1 := Lib.hid (show Keeps w w1 from by rw [← hW]; exact (Keeps.refl _).alloc _)
  have HM := Lib.hid (show Blk w1 w.heap.size 92 #[.slice p L.length c, .int .i64 nx] from by rw [← hW]; exact Blk.new _ _ _ rfl)
  clear hW
  generalize w.heap.size = q at *
  have m0 : w1.cell? ⟨q, 0, none⟩ = some (.slice p L.length c) := by rw [HM.out.cell]; rfl
  go_wp2_with fail
  go_loopw [5] (fun i wr => ∃ j : Nat, i = .int .i64 (j : Int) ∧ j ≤ L.length ∧ Hid (wr = w1 ∧ findN u (L.drop j) j = findL L u)) (fun i _ => L.length - (RowKit.intOf i).toNat)
  case atStart => exact ⟨0, rfl, Nat.zero_le _, Lib.hid ⟨rfl, rfl⟩⟩
  case round =>
    obtain ⟨j, rfl, hj, HK⟩ := hrel
    obtain ⟨rfl, hf⟩ := HK.out
    have HF := Lib.hid hf
    clear HK hf
    by_cases hlt : j < L.length
    · obtain ⟨ba, oa, cap, hv, hra⟩ := (HA.out.keeps HK1.out).one hlt
      simp only [Value.slice.injEq] at hv
      obtain ⟨rfl, -, rfl⟩ := hv
      have HD := Lib.hid (show findN u (L.drop j) j = if L[j].uid = u then (j : Int) else findN u (L.drop (j + 1)) (j + 1) from by rw [List.drop_eq_getElem_cons hlt]; rfl)
      obtain ⟨a0, -⟩ := ent7 hra
      clear hra
      generalize L[j].uid = x at *
      by_cases hx : x = u
      · have HR := Lib.hid (show (j : Int) = findL L u from by rw [← HF.out, HD.out, if_pos hx])
        subst hx
        go_wp2_with fail
        go_ret
        exact ⟨congrArg (fun z => Ending.returned (Value.int .i64 z)) HR.out, HK1.out⟩
      · have HR := Lib.hid (show findN u (L.drop (j + 1)) (j + 1) = findL L u from by rw [← HF.out, HD.out, if_neg hx])
        have hx' : (x == u) = false := by simp [hx]
        clear hx
        go_wp2_with fail
        go_roundw
        case rel => exact ⟨j + 1, by simp, by omega, Lib.hid ⟨trivial, HR.out⟩⟩
        case measure =>
          simp only [RowKit.intOf]
          omega
    · obtain rfl : j = L.length := by omega
      rw [List.drop_length] at HF
      go_wp2_with fail
      go_ret
      exact ⟨congrArg (fun z => Ending.returned (Value.int .i64 z)) HF.out, HK1.out⟩
end Mbx
end Go.Proofs.Ytohchhgheeolpaa

/- mbox.Raise, Bodies; From of any origin. -/
namespace Go.Proofs.Ytohchhgheeolpaa
open Go.RowKit Go.Sort Go.Shelf
namespace Mbx
open Rcd Go.Maps

def raiseM (m : Box) (x : Int) : Box := if x ≤ 2147483649 then { m with next := max m.next x } else m
set_option maxRecDepth 100000 in
set_option maxHeartbeats 1000000 in
theorem raise_any (w : World) {g b1 b2 n : Nat} {m : Box} (h : BoxAt w g b1 b2 n m) (x : Int) : Calls Try.prog 59 #[.pointer (some ⟨g, 0, none⟩), .int .i64 x] w fun e w' => BoxAt w' g b1 b2 n (raiseM m x) ∧ Mods (BFr g b1 b2) w w' ∧ e = .returned (.tuple #[]) := by
  obtain ⟨-, -, c2, -, -⟩ := h.cells
  have HB := Lib.hid h
  have hz : w.frozen? ⟨g, 2, none⟩ = false := h.blk.frozen _
  clear h
  unfold raiseM
  by_cases hx : x ≤ 2147483649
  · have e1 : decide (x ≤ 2147483649) = true := decide_eq_true hx
    rw [if_pos hx]
    go_enter Try.func59, Try.ntmps59
    have hsn := HB.out.setNext (max m.next x)
    go_wp2_with fail
    go_end0
    exact ⟨hsn.1, hsn.2.mono (fun k hk => .inl hk), rfl⟩
  · have e1 : decide (x ≤ 2147483649) = false := decide_eq_false hx
    rw [if_neg hx]
    go_enter Try.func59, Try.ntmps59
    go_wp2_with fail
    go_end0
    exact ⟨HB.out, Mods.refl _ _, rfl⟩

/-- a map from numbers to numbers -/
def IMap (w : World) (b n : Nat) (f : Int → Option Int) : Prop := ∃ D, w.ownsMap Try.prog 3 intElem b n D ∧ Reads D f intD
theorem IMap.keeps {w w' : World} {b n : Nat} {f : Int → Option Int} (h : IMap w b n f) (k : Keeps w w') : IMap w' b n f := let ⟨D, h1, h2⟩ := h; ⟨D, map_keeps h1 k, h2⟩
theorem IMap.look {w : World} {b n : Nat} {f : Int → Option Int} (h : IMap w b n f) {x : Int} (hx : (Lit.int .i64 x).wf = true) :
    (Instr.lookup 184 (.map (some b)) (.int .i64 x) false).run Try.prog w = .ok (.int .i64 ((f x).getD 0)) w := by
  obtain ⟨D, h1, h2⟩ := h
  obtain ⟨v, ps, hrun, hv⟩ := h1.lookup intKeyed Try.underlying184 (zeroInt_run w) (zd := intD 0) (zp := []) rfl (keyOf_int_mk Try.underlying3 hx)
  rw [h2.at_] at hv
  rw [hrun, intElem_inv hv]
theorem IMap.put {w : World} {b n : Nat} {f : Int → Option Int} (h : IMap w b n f) (hn : n < 1000000) {x y : Int} (hx : (Lit.int .i64 x).wf = true) : ∃ w', (Instr.mapUpdate 184 (.map (some b)) (.int .i64 x) (.int .i64 y)).run Try.prog w = .ok () w' ∧ IMap w' b (n + 1) (upd f x y) ∧ Mods (· = b) w w' := by
  obtain ⟨D, h1, h2⟩ := h
  obtain ⟨w', hrun, ho, ht⟩ := h1.store intKeyed Try.underlying184 (by unfold maxLen; omega) (val := .int .i64 y) (d := intD y) (ps := []) (keyOf_int_mk Try.underlying3 hx) rfl
  exact ⟨w', hrun, ⟨_, ho, h2.put x y⟩, turned_mods ht⟩
theorem keysInt_any (mb : Option Nat) (W : World) : Calls Try.prog 146 #[.map mb] W fun e w' => e = .returned (.func (.func 197) #[] #[.pointer (some ⟨W.heap.size, 0, none⟩)]) ∧ w' = W.alloc (.cells #[.map mb] 184) :=
  (callsIn_wide (n := 5)).1 (AnyZI.keys_in Try.keysInt Fence.wide 5 trivial rfl mb W)
theorem sortedIntM_any (b nn : Nat) (D0 : DataW Unit) (R : Value → Option (DataW Unit × List MemPlace)) (w : World) (hown : w.ownsMap Try.prog 3 R b nn D0) (hn : nn ≤ 1000000) :
    Calls Try.prog 137 #[.func (.func 197) #[] #[.pointer (some ⟨w.heap.size, 0, none⟩)]] (w.alloc (.cells #[.map (some b)] 184)) fun e w' => ∃ (v : Value) (ss : List Int), e = .returned v ∧ ss.Perm (intKeys D0) ∧ Own w' w.heap.size 3 v ((ss.mergeSort leI).map encZ) ∧ Keeps w w' := by
  refine (callsIn_wide (n := 5)).1 ?_
  have hsz := hown.size_le
  have hbl := hown.lt
  have hseq : SeqGives Fence.wide 2 Try.prog 197 #[.pointer (some ⟨w.heap.size, 0, none⟩)] encZ (fun ss => ss.Perm (intKeys D0)) (Maps.size D0) (w.alloc (.cells #[.map (some b)] 184)) :=
    AnyZI.keys_gives (ρ := Try.keysInt_ren) { Try.keysInt with } Fence.wide _ trivial rfl (by omega) w.heap.size b nn D0 _ (by simp) (by simp) (by
      obtain ⟨es, clock, hb, Ft, hs, hD⟩ := hown
      exact ⟨es, clock, (Below.heap_alloc _ _ b hbl).trans hb, Ft, hs, hD⟩)
  have cS := AnyZI.sorted_in Try.sortedInt Fence.wide 5 trivial trivial trivial trivial rfl (by omega) (sortsInt _) (enters_of Try.func191 (by kernel_rfl) rfl) 197 #[.pointer (some ⟨w.heap.size, 0, none⟩)] trivial (enters_of Try.func197 (by kernel_rfl) rfl) _ _ (by unfold maxLen; omega) (by omega) _ hseq
  change CallsIn _ _ Try.prog 137 _ _ _ at cS
  refine cS.mono ?_
  rintro e w' ⟨v, ss, rfl, hS, hrow, hnil, hb⟩
  refine ⟨v, ss, rfl, hS, ?_, ((Below.refl _ w).alloc (Nat.le_refl _) _).trans (hb.mono (by simp))⟩
  unfold Own
  rw [show ((ss.mergeSort leI).map encZ).length = ss.length from by simp]
  exact ownsRow_base_a hrow (by simp)
theorem IMap.sorted {w : World} {b n : Nat} {f : Int → Option Int} {D : DataW Unit} (h1 : w.ownsMap Try.prog 3 intElem b n D) (h2 : Reads D f intD) {ss : List Int} (hs : ss.Perm (intKeys D)) : (ss.mergeSort leI).Pairwise (· < ·) ∧ ∀ x, x ∈ ss.mergeSort leI ↔ (f x).isSome = true := by
  have hnd : (intKeys D).Nodup ∧ ∀ x, x ∈ intKeys D ↔ (f x).isSome = true := by
    obtain ⟨es, hD, hpw, _⟩ := h1.entries intKeyed
    obtain ⟨es', hD', hko⟩ := h1.keysOf
    obtain rfl : es = es' := by rw [hD] at hD'; simpa using hD'
    subst hD
    have hk : ∀ p ∈ es, ∃ x, p.1 = .int .i64 x := fun p hp => by obtain ⟨v, hv⟩ := hko p hp; obtain ⟨x, _, hx, _⟩ := Maps.keyOf_i64 Try.underlying3 hv; exact ⟨x, hx⟩
    refine ⟨?_, fun x => ?_⟩
    · show (es.map fun p => Go.intOf p.1).Nodup
      refine List.pairwise_map.2 (hpw.imp_of_mem fun {p q} hp' hq' hne e => hne ?_)
      obtain ⟨a, ha⟩ := hk p hp'
      obtain ⟨b, hb⟩ := hk q hq'
      rw [ha, hb] at e ⊢
      exact congrArg _ e
    · rw [← (h2.2 x).1, has_eq, List.any_eq_true]
      show x ∈ es.map (fun p => Go.intOf p.1) ↔ _
      rw [List.mem_map]
      constructor
      · rintro ⟨p, hp', rfl⟩
        obtain ⟨a, ha⟩ := hk p hp'
        exact ⟨p, hp', by rw [ha]; simp [Lit.sameKey, Go.intOf]⟩
      · rintro ⟨p, hp', hs⟩
        obtain ⟨a, ha⟩ := hk p hp'
        rw [ha] at hs
        exact ⟨p, hp', by rw [ha]; simpa [Lit.sameKey, Go.intOf, eq_comm] using hs⟩
  have hp := (List.mergeSort_perm ss leI).trans hs
  have hn2 : (ss.mergeSort leI).Nodup := hp.nodup_iff.2 hnd.1
  have tr : ∀ a b c : Int, leI a b = true → leI b c = true → leI a c = true := fun a b c h1 h2 => by simp only [leI, decide_eq_true_eq] at *; exact Int.le_trans h1 h2
  have to' : ∀ a b : Int, (leI a b || leI b a) = true := fun a b => by simp only [leI, Bool.or_eq_true, decide_eq_true_eq]; exact Int.le_total a b
  have hle := List.pairwise_mergeSort tr to' ss
  refine ⟨(hle.and hn2).imp (fun {a b} h => ?_), fun x => by rw [hp.mem_iff]; exact hnd.2 x⟩
  have h1 : a ≤ b := by simpa [leI] using h.1
  have h2 : a ≠ b := h.2
  omega
/-- what Bodies answers -/
def BodiesDid (W : World) (F : List Ent) (e : Ending) (w' : World) : Prop := ∃ (v : Value) (bl : List Int), e = .returned v ∧ Own w' W.heap.size 3 v (bl.map encZ) ∧ bl.Pairwise (· < ·) ∧ (∀ x, x ∈ bl ↔ x ∈ F.map (·.body)) ∧ Keeps W w'

set_option maxRecDepth 100000 in
set_option maxHeartbeats 2000000 in
theorem bodies_any (w : World) {g b1 b2 n : Nat} {m : Box} {L : List Ent} (h : BoxAt w g b1 b2 n m) (hn : n ≤ 900000) (hR : Rel m L) (hwf : ∀ e ∈ L, (Lit.int .i64 e.uid).wf = true) (hwb : ∀ e ∈ L, (Lit.int .i64 e.body).wf = true) : Calls Try.prog 58 #[.pointer (some ⟨g, 0, none⟩)] w (BodiesDid w (filt false L)) := by
  have hlL := Rel.len_le h hR
  have HLI := Lib.hid (fun w' (k : Keeps w w') => list_any w' (h.keeps k) hn hR hwf false)
  have HWB := Lib.hid (show ∀ e ∈ filt false L, (Lit.int .i64 e.body).wf = true from fun e he => hwb e (List.mem_filter.1 he).1)
  have hlen : (filt false L).length ≤ 900000 := Nat.le_trans (filt_le _ _) (by omega)
  unfold BodiesDid
  clear h hR hwf hwb
  generalize filt false L = F at *
  have hmk : ∀ w, (Instr.makeMap 184 none).run Try.prog w = .ok (.map (some w.heap.size)) (w.alloc (.map #[] 0)) := fun w => run_makeMap _ w
  go_enter Try.func58, Try.ntmps58
  go_upto_region 2 with fail
  have HM0 : Hid (IMap (w.alloc (.map #[] 0)) w.heap.size 0 (fun _ => none)) := Lib.hid ⟨_, World.ownsMap_made w Try.prog _ _, reads_new _⟩
  have HK1 := Lib.hid (show Keeps w (w.alloc (.map #[] 0)) from (Keeps.refl _).alloc _)
  generalize w.alloc (.map #[] 0) = w1 at *
  obtain ⟨b, hb⟩ : ∃ b, b = w.heap.size := ⟨_, rfl⟩
  rw [← hb] at HM0 ⊢
  have HBW := Lib.hid hb
  clear hb hmk
  go_wp2_with fail
  refine (HLI.out w1 HK1.out).mono ?_
  rintro e w2 ⟨v, rfl, hen, hk⟩
  obtain ⟨pk, ck, rfl, -, -⟩ := Frm.ownsRow_form hen
  have HO := Lib.hid hen
  have HK := Lib.hid (HK1.out.trans hk)
  have HM := Lib.hid (HM0.out.keeps hk)
  clear hen hk HM0 HLI
  have HBE := Lib.hid (show w.heap.size ≤ b from by have := HBW.out; omega)
  go_wp2_with fail
  go_loopw [10] (fun i wr => ∃ j : Nat, i = .int .i64 (j : Int) ∧ j ≤ F.length ∧ Hid (Keeps w wr ∧ EntR wr (.slice pk F.length ck) F ∧ ∃ f, IMap wr b j f ∧ (∀ x, (f x).isSome = true ↔ x ∈ (F.take j).map (·.body)) ∧ ∀ x v, f x = some v → 0 ≤ v ∧ v ≤ j)) (fun i _ => F.length - (RowKit.intOf i).toNat)
  case atStart => exact ⟨0, rfl, Nat.zero_le _, Lib.hid ⟨HK.out, HO.out.r, _, HM.out, by simp, by simp⟩⟩
  case round =>
    obtain ⟨j, rfl, hj, HH⟩ := hrel
    clear HO HK HM
    by_cases hlt : j < F.length
    · obtain ⟨ba, oa, cap, hv, hra⟩ := HH.out.2.1.one hlt
      simp only [Value.slice.injEq] at hv
      obtain ⟨rfl, -, rfl⟩ := hv
      obtain ⟨f, hf1, hf2, hf3⟩ := HH.out.2.2
      have HR := Lib.hid (show wr.rangeAt ba (oa + j * 7) [.int .i64 F[j].uid, .int .i64 F[j].time, .int .i64 F[j].flags, .int .i64 F[j].body, .int .i64 F[j].size, .int .i64 F[j].origin, .bool F[j].gone] from hra)
      go_upto_region 5 with (refine wpList_ldR rfl entM HR.out _ rfl rfl ?_)
      generalize hW : World.alloc wr _ = wy
      have hky : Keeps wr wy := by rw [← hW]; exact (Keeps.refl _).alloc _
      have HE := Lib.hid (show Blk wy wr.heap.size 85 (entA F[j]) from by rw [← hW]; exact Blk.new _ _ _ rfl)
      have e3 : wy.cell? ⟨wr.heap.size, 3, none⟩ = some (.int .i64 F[j].body) := by rw [HE.out.cell]; rfl
      have HKy := Lib.hid hky
      have hbw := HWB.out F[j] (List.getElem_mem hlt)
      have hl := (hf1.keeps hky).look hbw
      have hv0 : 0 ≤ (f F[j].body).getD 0 ∧ (f F[j].body).getD 0 ≤ j := by
        cases hx : f F[j].body with
        | none => simp
        | some v => simpa using hf3 _ _ hx
      have hw1 : IntKind.i64.wrap ((f F[j].body).getD 0 + 1) = (f F[j].body).getD 0 + 1 := by rw [IntKind.wrap_i64]; omega
      obtain ⟨w5, hrun, hm5, hM5⟩ := (hf1.keeps hky).put (by omega) (y := (f F[j].body).getD 0 + 1) hbw
      have HF := Lib.hid (And.intro hf2 hf3)
      have HM5 := Lib.hid (And.intro hm5 hM5)
      have HV0 := Lib.hid hv0
      have HTK := Lib.hid (show ∀ x, x ∈ (F.take (j + 1)).map (·.body) ↔ x ∈ (F.take j).map (·.body) ∨ x = F[j].body from fun x => by rw [List.take_succ_eq_append_getElem hlt, List.map_append, List.mem_append]; simp only [List.map_cons, List.map_nil, List.mem_singleton])
      have hbb : b < wr.heap.size := by obtain ⟨D, h1, _⟩ := hf1; exact h1.lt
      have HRS := Lib.hid (show ∀ y, Mods (· = b) wy y → EntR y (.slice (some ⟨ba, oa, none⟩) F.length ck) F from fun y hM => by
        have h := HH.out.2.1.keeps HKy.out
        refine ⟨h.1, h.2.imp id (fun ⟨b', off, cap, hv, h1, h2, hc⟩ => ⟨b', off, cap, hv, h1, h2, fun i x hx => ?_⟩)⟩
        refine hM.cell (hc i x hx) (fun hb => ?_)
        obtain ⟨D, ⟨es, cl, hb1, _⟩, _⟩ := hf1.keeps HKy.out
        have hcx := hc i x hx
        simp only at hb
        subst hb
        simp [World.cell?, hb1] at hcx)
      clear hf1 hf2 hf3 hky hm5 hM5 hra hW HR hv0
      generalize F[j].body = bd at *
      generalize hgf : (f bd).getD 0 = fv at *
      have HGF := Lib.hid hgf
      clear hgf
      go_wp2_with fail
      go_roundw
      case rel =>
        refine ⟨j + 1, by simp, by omega, Lib.hid ⟨HM5.out.2.keeps (HH.out.1.trans HKy.out) (fun y hy => by have := HBE.out; omega), HRS.out _ HM5.out.2, _, HM5.out.1, fun x => ?_, fun x v hv => ?_⟩⟩
        · rw [HTK.out, ← HF.out.1]
          unfold upd
          by_cases hx : x = bd
          · simp [hx]
          · simp [hx]
        · unfold upd at hv
          have := HV0.out
          by_cases hx : x = bd
          · rw [if_pos hx] at hv
            cases hv
            omega
          · rw [if_neg hx] at hv
            have := HF.out.2 x v hv
            omega
      case measure =>
        simp only [RowKit.intOf]
        omega
    · obtain rfl : j = F.length := by omega
      rw [List.take_length] at HH
      obtain ⟨hk, he, f, ⟨D, h1, h2⟩, h3, -⟩ := HH.out
      have HSO := Lib.hid (sortedIntM_any b F.length D intElem wr h1 (by omega))
      have HSP := Lib.hid (fun ss hs => IMap.sorted h1 h2 (ss := ss) hs)
      have HK := Lib.hid hk
      have H3 := Lib.hid h3
      clear HH hk he h1 h2 h3
      go_wp2_with fail
      refine (keysInt_any _ _).mono ?_
      rintro e w4 ⟨rfl, rfl⟩
      go_wp2_with fail
      refine HSO.out.mono ?_
      rintro e w5 ⟨v, ss, rfl, hss, hown, hk5⟩
      have HSS := Lib.hid (HSP.out ss hss)
      have HOW := Lib.hid (hown.lower HK.out.size)
      have HKF := Lib.hid (HK.out.trans hk5)
      clear hss hown hk5 HSO HSP
      generalize ss.mergeSort leI = bl at *
      go_wp2_with fail
      go_ret
      exact ⟨_, bl, rfl, HOW.out, HSS.out.1, fun x => by rw [HSS.out.2, H3.out], HKF.out⟩
end Mbx
end Go.Proofs.Ytohchhgheeolpaa

/- ref20: Use, List. -/
namespace Go.Proofs.Ytohchhgheeolpaa
open Go.RowKit
namespace Mbx
open Rcd Go.Maps

theorem useM : Mids Try.prog 88 2 := ⟨⟨_, Try.underlying88, rfl⟩, by kernel_rfl⟩
theorem rboxM : Mids Try.prog 92 2 := ⟨⟨_, Try.underlying92, rfl⟩, by kernel_rfl⟩
structure UseAt (w wr : World) (q : Nat) (p : Option Addr) (n c : Nat) (nx s t : Int) : Prop where
  keeps : Keeps w wr
  box : Blk wr q 92 #[.slice p n c, .int .i64 nx]
  res : Blk wr (q + 1) 88 #[.int .i64 0, .int .i64 0]
  use : Blk wr (q + 2) 88 #[.int .i64 s, .int .i64 t]

set_option maxRecDepth 100000 in
set_option maxHeartbeats 2000000 in
theorem rUse_any (w : World) {v : Value} {L : List Ent} (h : EntR w v L) (nx : Int) (hs : ∀ e ∈ L, 0 ≤ e.size) (hb : sumS L ≤ 4611686018427387904) (hl : L.length ≤ 4611686018427387904) : Calls Try.prog 141 #[.agg #[v, .int .i64 nx]] w fun e w' => e = .returned (.agg #[.int .i64 (sumS L), .int .i64 (cntS L)]) ∧ Keeps w w' := by
  obtain ⟨p, c, rfl, hc0, hc1⟩ := RowS.form h
  have HA := Lib.hid h
  have HSU := Lib.hid (sumS_take_le hs)
  have HCU := Lib.hid (cntS_take_le L)
  have HCL : Hid (∀ j, cntS (L.take j) ≤ j) := Lib.hid (fun j => by
    have : ∀ l : List Ent, cntS l ≤ l.length := fun l => by
      induction l with
      | nil => exact Int.le_refl _
      | cons x l ih => simp only [cntS, List.length_cons]; split <;> omega
    have := this (L.take j)
    rw [List.length_take] at this
    omega)
  clear h hs
  go_enter Try.func141, Try.ntmps141
  go_upto_region 2 with fail
  generalize hW : World.alloc (World.alloc (World.alloc w _) _) _ = w1
  have HS := Lib.hid (show UseAt w w1 w.heap.size p L.length c nx 0 0 from by
    rw [← hW]
    exact ⟨(((Keeps.refl _).alloc _).alloc _).alloc _, ((Blk.new w _ _ rfl).alloc _).alloc _, (Blk.new _ _ _ (by simp)).alloc _, Blk.new _ _ _ (by simp)⟩)
  have HQ := Lib.hid (Nat.le_refl w.heap.size)
  clear hW
  obtain ⟨q, hq⟩ : ∃ q, q = w.heap.size := ⟨_, rfl⟩
  rw [← hq] at HS ⊢
  have HQ := Lib.hid (show w.heap.size ≤ q from by omega)
  clear hq
  go_wp2_with fail
  go_loopw [4] (fun i wr => ∃ j : Nat, i = .int .i64 (j : Int) ∧ j ≤ L.length ∧ Hid (UseAt w wr q p L.length c nx (sumS (L.take j)) (cntS (L.take j)))) (fun i _ => L.length - (RowKit.intOf i).toNat)
  case atStart => exact ⟨0, rfl, Nat.zero_le _, HS⟩
  case round =>
    obtain ⟨j, rfl, hj, HH⟩ := hrel
    have m0 : wr.cell? ⟨q, 0, none⟩ = some (.slice p L.length c) := by rw [HH.out.box.cell]; rfl
    by_cases hlt : j < L.length
    · obtain ⟨ba, oa, cap, hv, hra0⟩ := HA.out.one hlt
      simp only [Value.slice.injEq] at hv
      obtain ⟨rfl, -, rfl⟩ := hv
      have hlb := lt_of_cell (ent7 hra0).1
      have hra := range_keeps' hra0 HH.out.keeps
      have h1 := HSU.out j
      have h2 := HSU.out (j + 1)
      have h3 := HCU.out j
      have h4 := HCU.out (j + 1)
      have h5 := HCL.out j
      have HN := Lib.hid (And.intro (sumS_take hlt) (cntS_take hlt))
      rw [sumS_take hlt] at h2
      rw [cntS_take hlt] at h4
      obtain ⟨-, -, -, -, a4, -, a6⟩ := ent7 hra
      have u0 : wr.cell? ⟨q + 2, 0, none⟩ = some (.int .i64 (sumS (L.take j))) := by rw [HH.out.use.cell]; rfl
      have u1 : wr.cell? ⟨q + 2, 1, none⟩ = some (.int .i64 (cntS (L.take j))) := by rw [HH.out.use.cell]; rfl
      have z0 : wr.frozen? ⟨q + 2, 0, none⟩ = false := HH.out.use.frozen _
      have z1 : wr.frozen? ⟨q + 2, 1, none⟩ = false := HH.out.use.frozen _
      have hlu := HH.out.use.lt
      have hbq : ¬ ba = q + 2 := by have := HQ.out; omega
      clear hra hra0
      generalize sumS (L.take j) = s at *
      generalize cntS (L.take j) = t at *
      generalize L[j] = E at *
      cases hg : E.gone with
      | true =>
        rw [hg] at a6 HN
        clear hg
        go_wp2_with fail
        go_roundw
        case rel => exact ⟨j + 1, by simp, by omega, Lib.hid (by rw [HN.out.1, HN.out.2]; simpa using HH.out)⟩
        case measure =>
          simp only [RowKit.intOf]
          omega
      | false =>
        rw [hg] at a6 HN h2 h4
        simp only [Bool.false_eq_true, if_false] at HN h2 h4
        have hw1 : IntKind.i64.wrap (s + E.size) = s + E.size := by rw [IntKind.wrap_i64]; omega
        have hw2 : IntKind.i64.wrap (t + 1) = t + 1 := by rw [IntKind.wrap_i64]; omega
        clear hg
        go_upto_region 6 with fail
        go_region
        go_wp2_with fail
        go_roundw
        case rel =>
          refine ⟨j + 1, by simp, by omega, Lib.hid ?_⟩
          rw [HN.out.1, HN.out.2]
          exact ⟨((HH.out.keeps.setCell (p := ⟨q + 2, 0, none⟩) (by have := HQ.out; show _ ≤ q + 2; omega) _).setCell (p := ⟨q + 2, 1, none⟩) (by have := HQ.out; show _ ≤ q + 2; omega) _).drew, (HH.out.box.far (by show q ≠ q + 2; omega) _).far (by show q ≠ q + 2; omega) _, (HH.out.res.far (by show q + 1 ≠ q + 2; omega) _).far (by show q + 1 ≠ q + 2; omega) _, (HH.out.use.set_ 0 _).set_ 1 _⟩
        case measure =>
          simp only [RowKit.intOf]
          omega
    · obtain rfl : j = L.length := by omega
      rw [List.take_length] at HH
      clear HA HSU HCU HCL
      go_wp2_with (first
        | refine wpList_ld rfl useM HH.out.use _ rfl rfl ?_
        | refine wpList_st (ds := #[.int .i64 (sumS L), .int .i64 (cntS L)]) rfl useM HH.out.res rfl (by simp [Value.oneCell']) _ _ rfl rfl rfl rfl ?_; intro w6 hB6 hM6)
      have HLd := Lib.hid (ld_run (P := Try.prog) useM hB6)
      have HX := Lib.hid (hM6.keeps HH.out.keeps (fun y hy => by have := HQ.out; omega))
      clear hB6 hM6
      exact bodyPost_ret (v := .agg #[.int .i64 (sumS L), .int .i64 (cntS L)]) (by simp [results, Try.results141, Sem.run_bind, Sem.run_pure, Result.andThen_ok, Act.put, asAddr, HLd.out]) rfl ⟨rfl, HX.out⟩

set_option maxRecDepth 100000 in
set_option maxHeartbeats 2000000 in
theorem rList_any (w : World) {v : Value} {L : List Ent} (h : EntR w v L) (nx : Int) (gone : Bool) (hl : L.length ≤ 900000) : Calls Try.prog 143 #[.agg #[v, .int .i64 nx], .bool gone] w (ListDid w (filt gone L)) := by
  obtain ⟨p, c, rfl, hc0, hc1⟩ := RowS.form h
  have HA := Lib.hid h
  unfold ListDid
  clear h
  go_enter Try.func143, Try.ntmps143
  go_upto_region 1 with fail
  generalize hW : World.alloc w _ = w1
  have HK1 := Lib.hid (show Keeps w w1 from by rw [← hW]; exact (Keeps.refl _).alloc _)
  have HM := Lib.hid (show Blk w1 w.heap.size 92 #[.slice p L.length c, .int .i64 nx] from by rw [← hW]; exact Blk.new _ _ _ rfl)
  clear hW
  obtain ⟨q, hq⟩ : ∃ q, q = w.heap.size := ⟨_, rfl⟩
  rw [← hq] at HM ⊢
  have HQ := Lib.hid hq
  clear hq
  go_wp2_with fail
  go_loopw [5, 6] (fun vv i wr => ∃ (j : Nat) (p' : Option Addr) (c' : Nat), i = .int .i64 (j : Int) ∧ j ≤ L.length ∧ vv = .slice p' (filt gone (L.take j)).length c' ∧ Hid (EntsAt wr q (.slice p' (filt gone (L.take j)).length c') (filt gone (L.take j)) ∧ Keeps w wr ∧ Blk wr q 92 #[.slice p L.length c, .int .i64 nx])) (fun _ i _ => L.length - (RowKit.intOf i).toNat)
  case atStart => exact ⟨0, none, 0, rfl, Nat.zero_le _, rfl, Lib.hid ⟨EntsAt.nil _ _, HK1.out, HM.out⟩⟩
  case round =>
    obtain ⟨j, p', c', rfl, hj, rfl, HH⟩ := hrel
    have m0 : wr.cell? ⟨q, 0, none⟩ = some (.slice p L.length c) := by rw [HH.out.2.2.cell]; rfl
    by_cases hlt : j < L.length
    · obtain ⟨ba, oa, cap, hv, hra⟩ := (HA.out.keeps HH.out.2.1).one hlt
      simp only [Value.slice.injEq] at hv
      obtain ⟨rfl, -, rfl⟩ := hv
      have HN := Lib.hid (filt_next gone L hlt)
      have hfl : (filt gone (L.take j)).length ≤ L.length := Nat.le_trans (filt_le _ _) (by simp; omega)
      obtain ⟨-, -, -, -, -, -, a6⟩ := ent7 hra
      have HRR := Lib.hid hra
      clear hra
      generalize L[j] = E at *
      generalize filt gone (L.take j) = fl at *
      generalize E.gone = eg at *
      go_upto_region 5 with fail
      go_cut [23] (fun t wx => t = .bool (gone || !eg) ∧ wx = wr)
      case first =>
        cases gone with
        | true =>
          go_wp2_with fail
          go_meet
          exact ⟨rfl, rfl⟩
        | false =>
          go_wp2_with fail
          go_meet
          exact ⟨rfl, rfl⟩
      case rest =>
      obtain ⟨rfl, rfl⟩ := hcut
      obtain ⟨wy, rfl⟩ : ∃ wz : World, wz = wc := ⟨_, rfl⟩
      clear a6
      generalize (gone || !eg) = ok at *
      have hqs : q ≤ wy.heap.size := by have := HH.out.2.2.lt; omega
      have HQW := Lib.hid (show w.heap.size ≤ q from by have := HQ.out; omega)
      cases ok with
      | true =>
        rw [if_pos rfl] at HN
        have HBX := Lib.hid (HH.out.2.2)
        have HR := Lib.hid (show wy.rangeAt ba (oa + j * 7) [.int .i64 E.uid, .int .i64 E.time, .int .i64 E.flags, .int .i64 E.body, .int .i64 E.size, .int .i64 E.origin, .bool E.gone] from HRR.out)
        go_wp2_with (first
          | refine wpList_ldR rfl entM HR.out _ rfl rfl ?_
          | (at_builtin; refine wpList_apps (base := q) entok (by decide) rfl _ _ rfl (.slice p' fl.length c') (.slice (some ⟨wy.heap.size, 0, none⟩) 1 1) fl.length 1 (fl.flatMap entC) (entC E) rfl rfl (Frm.ownsRow_keeps HH.out.1 ((Keeps.refl _).alloc _)) (Frm.rowS_lit rfl rfl rfl) (by simp [entC, entA, Value.oneCell']) (by omega) (by decide) (by rw [Frm.alloc_size]; omega) ?_; intro v' w4 ho4 hg4 hf4; obtain ⟨p4, c4, rfl, -, -⟩ := Frm.ownsRow_form ho4))
        go_roundw
        case rel =>
          refine ⟨j + 1, p4, c4, by simp, by omega, by rw [HN.out]; simp, Lib.hid ⟨?_, ?_, ?_⟩⟩
          · rw [HN.out]
            have := EntsAt.snoc ho4
            simpa using this
          · exact (HH.out.2.1.alloc _).grown hg4 (fun k hk => Nat.le_trans HQW.out (Frm.ownsRow_base HH.out.1 k hk))
          · have hb := HBX.out.alloc (Obj.cells (entC E).toArray 85)
            exact hb.grown hg4 (Frm.ownsRow_ne (Frm.ownsRow_keeps HH.out.1 ((Keeps.refl _).alloc _)) hb (by decide))
        case measure =>
          simp only [RowKit.intOf]
          omega
      | false =>
        rw [if_neg (by simp), List.append_nil] at HN
        go_wp2_with fail
        go_roundw
        case rel => exact ⟨j + 1, p', c', by simp, by omega, by rw [HN.out], Lib.hid (by rw [HN.out]; exact HH.out)⟩
        case measure =>
          simp only [RowKit.intOf]
          omega
    · obtain rfl : j = L.length := by omega
      rw [List.take_length] at HH ⊢
      go_wp2_with fail
      go_ret
      exact ⟨_, rfl, by rw [← HQ.out]; exact HH.out.1, HH.out.2.1⟩
end Mbx
end Go.Proofs.Ytohchhgheeolpaa

/- ref20.with. -/
namespace Go.Proofs.Ytohchhgheeolpaa
open Go.RowKit
namespace Mbx
open Rcd Go.Maps

theorem sEnt : ∀ w, (sizeOf 85).run Try.prog w = .ok 7 w := fun _ => by kernel_rfl
theorem EntR.part {w : World} {p : Option Addr} {cap : Nat} {l : List Ent} (h : EntR w (.slice p l.length cap) l) {lo hi : Nat} (h1 : lo ≤ hi) (h2 : hi ≤ l.length) : RowS w 7 (cutS 7 p lo hi cap) (hi - lo) (((l.drop lo).take (hi - lo)).flatMap entC) := RowS.part entC_len h h1 h2
theorem ents_one (l : List Ent) : ∀ u ∈ l.flatMap entC, u.oneCell' = true := by
  intro u hu
  obtain ⟨e, -, he⟩ := List.mem_flatMap.1 hu
  simp [entC, entA] at he
  rcases he with rfl | rfl | rfl | rfl | rfl | rfl | rfl <;> rfl
structure WSt (w x : World) (q : Nat) (bv : Value) (nx : Int) (e : Ent) : Prop where
  keeps : Keeps w x
  box : Blk x q 92 #[bv, .int .i64 nx]
  ent : Blk x (q + 1) 85 (entA e)
  res : Blk x (q + 2) 92 #[.slice none 0 0, .int .i64 0]
theorem WSt.then {w x y : World} {q : Nat} {bv : Value} {nx : Int} {e : Ent} (h : WSt w x q bv nx e) (k : Keeps x y) : WSt w y q bv nx e := ⟨h.keeps.trans k, h.box.keeps k, h.ent.keeps k, h.res.keeps k⟩
theorem WSt.grown {w x y : World} {q C n : Nat} {bv : Value} {nx : Int} {e : Ent} {ty : TypeId} {v : Value} {xs : List Value} (h : WSt w x q bv nx e) (hq : w.heap.size ≤ q) (ho : x.ownsRow (q + 3) ty C v n xs) (hg : x.grownBy y v.ownBlock) : WSt w y q bv nx e := by
  have hb := Frm.ownsRow_base ho
  have hne : ∀ k, k < q + 3 → v.ownBlock ≠ some k := fun k hk he => by have := hb k he; omega
  exact ⟨h.keeps.grown hg (fun k hk => by have := hb k hk; omega), h.box.grown hg (hne q (by omega)), h.ent.grown hg (hne (q + 1) (by omega)), h.res.grown hg (hne (q + 2) (by omega))⟩
def WithDid (W : World) (L : List Ent) (nx : Int) (e : Ending) (w' : World) : Prop := ∃ v, e = .returned (.agg #[v, .int .i64 nx]) ∧ EntsAt w' W.heap.size v L ∧ Keeps W w'

set_option maxRecDepth 100000 in
set_option maxHeartbeats 4000000 in
theorem with_any (w : World) {v : Value} {L : List Ent} (h : EntR w v L) (nx : Int) {i : Nat} (hi : i < L.length) (hl : L.length ≤ 900000) (e : Ent) : Calls Try.prog 142 #[.agg #[v, .int .i64 nx], .int .i64 (i : Int), .agg (entA e)] w (WithDid w (L.take i ++ e :: L.drop (i + 1)) nx) := by
  obtain ⟨p, c, rfl, hc0, hc1⟩ := RowS.form h
  have HA := Lib.hid h
  unfold WithDid
  have hs1 : ∀ w', (Instr.slice 79 (.slice p L.length c) none (some (.int .i64 (i : Int))) none).run Try.prog w' = .ok (cutS 7 p 0 i c) w' := fun w' => run_cutS_h w' Try.underlying79 sEnt p L.length c i (by omega)
  have hs2 : ∀ w', (Instr.slice 79 (.slice p L.length c) (some (.int .i64 ((i : Int) + 1))) none none).run Try.prog w' = .ok (cutS 7 p (i + 1) L.length c) w' := fun w' => run_cutS_l w' Try.underlying79 sEnt p L.length c (i + 1) (by omega)
  have HP1 := Lib.hid (h.part (lo := 0) (hi := i) (Nat.zero_le _) (by omega))
  have HP2 := Lib.hid (h.part (lo := i + 1) (hi := L.length) (by omega) (Nat.le_refl _))
  have hd0 : ((L.drop 0).take (i - 0)) = L.take i := by simp
  have hd1 : ((L.drop (i + 1)).take (L.length - (i + 1))) = L.drop (i + 1) := List.take_of_length_le (by simp)
  rw [hd0] at HP1
  rw [hd1] at HP2
  obtain ⟨p1, hp1⟩ := cutS_sl 7 p 0 i c
  obtain ⟨p2, hp2⟩ := cutS_sl 7 p (i + 1) L.length c
  rw [hp1] at HP1 hs1
  rw [hp2] at HP2 hs2
  have hti : (L.take i).length = i := by simp; omega
  have htd : (L.drop (i + 1)).length = L.length - (i + 1) := by simp
  have HTL := Lib.hid (And.intro hti htd)
  clear h hd0 hd1 hp1 hp2 hti htd
  simp only [Nat.sub_zero] at HP1 hs1
  generalize L.take i = A at *
  generalize L.drop (i + 1) = B at *
  have hw1 : IntKind.i64.wrap ((i : Int) + 1) = (i : Int) + 1 := by rw [IntKind.wrap_i64]; omega
  go_enter Try.func142, Try.ntmps142
  go_upto_region 1 with fail
  generalize hW : World.alloc (World.alloc (World.alloc w _) _) _ = w1
  have HS := Lib.hid (show WSt w w1 w.heap.size (.slice p L.length c) nx e from by
    rw [← hW]
    exact ⟨(((Keeps.refl _).alloc _).alloc _).alloc _, ((Blk.new w _ _ rfl).alloc _).alloc _, (Blk.new _ _ _ (by simp)).alloc _, Blk.new _ _ _ (by simp)⟩)
  have hq1 : w.heap.size + 3 ≤ w1.heap.size := by have := HS.out.res.lt; omega
  clear hW
  obtain ⟨q, hq⟩ : ∃ q, q = w.heap.size := ⟨_, rfl⟩
  rw [← hq] at HS hq1 ⊢
  have HQ := Lib.hid hq
  clear hq
  have m0 : w1.cell? ⟨q, 0, none⟩ = some (.slice p L.length c) := by rw [HS.out.box.cell]; rfl
  go_upto_region 3 with (at_builtin; refine wpList_apps (base := q + 3) entok (by decide) rfl _ _ rfl (.slice none 0 0) (.slice p1 i c) 0 i [] (A.flatMap entC) rfl rfl (World.ownsRow_nil _ _ _ 7) (RowS.keeps HP1.out HS.out.keeps) (ents_one A) (by omega) (by decide) (by omega) ?_; intro v' w4 ho4 hg4 hf4; obtain ⟨p4, c4, rfl, -, -⟩ := Frm.ownsRow_form ho4)
  rw [Nat.zero_add, List.nil_append] at ho4
  have HWQ := Lib.hid (show w.heap.size ≤ q from by have := HQ.out; omega)
  have hq4 : q + 3 ≤ w4.heap.size := Nat.le_trans hq1 hg4.size
  have HS := Lib.hid (HS.out.grown HWQ.out (World.ownsRow_nil w1 (q + 3) 85 7) hg4)
  have HO := Lib.hid ho4
  clear ho4 hg4 hf4 m0 hq1
  have HE4 := Lib.hid (show Blk w4 (q + 1) 85 #[.int .i64 e.uid, .int .i64 e.time, .int .i64 e.flags, .int .i64 e.body, .int .i64 e.size, .int .i64 e.origin, .bool e.gone] from HS.out.ent)
  go_upto_region 4 with (first
    | refine wpList_ld rfl entM HE4.out _ rfl rfl ?_
    | (at_builtin; refine wpList_apps (base := q + 3) entok (by decide) rfl _ _ rfl (.slice p4 i c4) (.slice (some ⟨w4.heap.size, 0, none⟩) 1 1) i 1 (A.flatMap entC) (entC e) rfl rfl (Frm.ownsRow_keeps HO.out ((Keeps.refl _).alloc _)) (Frm.rowS_lit rfl rfl rfl) (by simp [entC, entA, Value.oneCell']) (by omega) (by decide) (by rw [Frm.alloc_size]; omega) ?_; intro v' w5 ho5 hg5 hf5; obtain ⟨p5, c5, rfl, -, -⟩ := Frm.ownsRow_form ho5))
  have hq5 : q + 3 ≤ w5.heap.size := by have := hg5.size; rw [Frm.alloc_size] at this; omega
  have HS := Lib.hid ((HS.out.then ((Keeps.refl _).alloc (Obj.cells (entC e).toArray 85))).grown HWQ.out (Frm.ownsRow_keeps HO.out ((Keeps.refl _).alloc _)) hg5)
  have HO := Lib.hid ho5
  clear ho5 hg5 hf5 hq4
  have m0 : w5.cell? ⟨q, 0, none⟩ = some (.slice p L.length c) := by rw [HS.out.box.cell]; rfl
  have z0 : w5.frozen? ⟨q, 0, none⟩ = false := HS.out.box.frozen _
  go_upto_region 5 with (at_builtin; refine wpList_apps (base := q + 3) entok (by decide) rfl _ _ rfl (.slice p5 (i + 1) c5) (.slice p2 (L.length - (i + 1)) (c - (i + 1))) (i + 1) (L.length - (i + 1)) (A.flatMap entC ++ entC e) (B.flatMap entC) rfl rfl HO.out (RowS.keeps HP2.out HS.out.keeps) (ents_one B) (by omega) (by decide) (by omega) ?_; intro v' w6 ho6 hg6 hf6; obtain ⟨p6, c6, rfl, -, -⟩ := Frm.ownsRow_form ho6; have HS6 := Lib.hid (HS.out.grown HWQ.out HO.out hg6); have m6 : w6.cell? ⟨q, 0, none⟩ = some (.slice p L.length c) := (by rw [HS6.out.box.cell]; rfl); have z6 : w6.frozen? ⟨q, 0, none⟩ = false := HS6.out.box.frozen _)
  have hlen : i + 1 + (L.length - (i + 1)) = L.length := by omega
  have hB : ∀ y, Blk y q 92 #[.slice p6 (i + 1 + (L.length - (i + 1))) c6, .int .i64 nx] → True := fun _ _ => trivial
  generalize hW : World.setCell w6 ⟨q, 0, none⟩ _ = w7
  have HS7 := Lib.hid (show WSt w w7 q (.slice p6 (i + 1 + (L.length - (i + 1))) c6) nx e from by
    rw [← hW]
    exact ⟨HS6.out.keeps.setCell (p := ⟨q, 0, none⟩) HWQ.out _, HS6.out.box.set_ 0 _, HS6.out.ent.far (by show q + 1 ≠ q; omega) _, HS6.out.res.far (by show q + 2 ≠ q; omega) _⟩)
  have HO7 := Lib.hid (show w7.ownsRow (q + 3) 85 7 (.slice p6 (i + 1 + (L.length - (i + 1))) c6) (i + 1 + (L.length - (i + 1))) (A.flatMap entC ++ entC e ++ B.flatMap entC) from by
    rw [← hW]
    exact Frm.ownsRow_mods ho6 ((Mods.refl (· = q) w6).setCell (p := ⟨q, 0, none⟩) (fun _ => rfl) _) (fun x hx hs => by have := Frm.ownsRow_base ho6 x hx; omega))
  clear hW HS6 ho6 hg6 hf6 m6 z6 m0 z0 hs1 hs2 HP1 HP2 hB
  rw [hlen] at *
  go_wp2_with (first
    | refine wpList_ld rfl rboxM HS7.out.box _ rfl rfl ?_
    | refine wpList_st (ds := #[.slice p6 L.length c6, .int .i64 nx]) rfl rboxM HS7.out.res rfl (by simp [Value.oneCell']) _ _ rfl rfl rfl rfl ?_; intro w8 hB8 hM8)
  have HLd := Lib.hid (ld_run (P := Try.prog) rboxM hB8)
  have HX := Lib.hid (hM8.keeps HS7.out.keeps (fun y hy => by have := HWQ.out; omega))
  have HO8 := Lib.hid (Frm.ownsRow_mods HO7.out hM8 (fun x hx hs => by have := Frm.ownsRow_base HO7.out x hx; omega))
  clear hB8 hM8
  refine bodyPost_ret (v := .agg #[.slice p6 L.length c6, .int .i64 nx]) (by simp [results, Try.results142, Sem.run_bind, Sem.run_pure, Result.andThen_ok, Act.put, asAddr, HLd.out]) rfl ⟨_, rfl, ?_, HX.out⟩
  have hle : (A ++ e :: B).length = L.length := by simp [HTL.out.1, HTL.out.2]; omega
  have hfm : (A ++ e :: B).flatMap entC = A.flatMap entC ++ entC e ++ B.flatMap entC := by simp
  unfold EntsAt
  rw [hle, hfm]
  have hb := HO8.out
  have := HWQ.out
  exact ⟨hb.1, hb.2.imp id (fun ⟨g, cap, cur, hv, hg, r⟩ => ⟨g, cap, cur, hv, by omega, r⟩)⟩
end Mbx
end Go.Proofs.Ytohchhgheeolpaa

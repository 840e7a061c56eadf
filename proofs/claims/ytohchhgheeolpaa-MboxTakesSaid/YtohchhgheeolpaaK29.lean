/- Several texts in one: MboxList, MboxRefs, MboxRefUse, MboxRecs. -/
import Derived.Test.YtohchhgheeolpaaMboxKeys
import Derived.Test.YtohchhgheeolpaaK26
import Derived.Test.YtohchhgheeolpaaK00
import Derived.Test.YtohchhgheeolpaaFrameAwake
import Derived.Test.YtohchhgheeolpaaK12
/- mbox.List. -/
namespace Go.Proofs.Ytohchhgheeolpaa
open Go.RowKit
namespace Mbx
open Rcd Go.Maps

def entC (e : Ent) : List Value := (entA e).toList
theorem entC_len (e : Ent) : (entC e).length = 7 := rfl
/-- a slice of entries, of the call's own -/
def EntsAt (w : World) (base : Nat) (v : Value) (l : List Ent) : Prop := w.ownsRow base 85 7 v l.length (l.flatMap entC)
theorem EntsAt.nil (w : World) (base : Nat) : EntsAt w base (.slice none 0 0) [] := World.ownsRow_nil w base _ 7
theorem EntsAt.keeps {w w' : World} {base : Nat} {v : Value} {l : List Ent} (h : EntsAt w base v l) (k : Keeps w w') : EntsAt w' base v l := Frm.ownsRow_keeps h k
theorem EntsAt.mods {w w' : World} {base : Nat} {v : Value} {l : List Ent} {S : Nat → Prop} (h : EntsAt w base v l) (k : Mods S w w') (hn : ∀ x, S x → x < base) : EntsAt w' base v l := Frm.ownsRow_mods h k (fun x hx hs => by have := Frm.ownsRow_base h x hx; have := hn x hs; omega)
theorem EntsAt.snoc {w : World} {base : Nat} {v : Value} {l : List Ent} {e : Ent} (h : w.ownsRow base 85 7 v (l.length + 1) (l.flatMap entC ++ entC e)) : EntsAt w base v (l ++ [e]) := by
  unfold EntsAt
  simpa using h
theorem entok : ElemOkS Try.prog 79 85 7 56 := elemOkS (z := .agg #[.int .i64 0, .int .i64 0, .int .i64 0, .int .i64 0, .int .i64 0, .int .i64 0, .bool false]) Try.underlying79 (by kernel_rfl) rfl

/-- an append to a slice of other elements leaves a slice as it was -/
theorem own_grown {w w' : World} {base base2 C2 n2 : Nat} {e e2 : TypeId} {v v2 : Value} {l xs2 : List Value} (h : Own w base e v l) (h2 : w.ownsRow base2 e2 C2 v2 n2 xs2) (hne : e2 ≠ e) (hg : w.grownBy w' v2.ownBlock) : Own w' base e v l :=
  h.mods ((Mods.refl (fun x => v2.ownBlock = some x) w).grown hg (fun k hk _ => hk)) (fun x hx hs => by
    rcases h.2 with ⟨rfl, _⟩ | ⟨g, cap, cur, rfl, _, hgg, _⟩
    · simp [Value.ownBlock] at hx
    · simp [Value.ownBlock] at hx
      subst hx
      exact Frm.ownsRow_ty h2 hne g hs _ _ hgg)
/-- the entries that are asked for -/
def filt (gone : Bool) (L : List Ent) : List Ent := L.filter fun e => gone || !e.gone
theorem filt_next (gone : Bool) (L : List Ent) {j : Nat} (hj : j < L.length) : filt gone (L.take (j + 1)) = filt gone (L.take j) ++ if gone || !L[j].gone then [L[j]] else [] := by
  rw [List.take_succ_eq_append_getElem hj]
  unfold filt
  rw [List.filter_append]
  congr 1
  simp only [List.filter_cons, List.filter_nil]
theorem filt_le (gone : Bool) (L : List Ent) : (filt gone L).length ≤ L.length := List.length_filter_le _ _
theorem filt_true (L : List Ent) : filt true L = L := by unfold filt; simp

theorem uids_nodup {L : List Ent} (h : Asc L) : (L.map (·.uid)).Nodup := by
  refine List.pairwise_map.2 (h.imp fun {a b} hab => ?_)
  show a.uid ≠ b.uid
  omega
theorem mem_uids {L : List Ent} (x : Int) : x ∈ L.map (·.uid) ↔ (at_ L x).isSome = true := by
  unfold at_
  rw [List.find?_isSome]
  simp
theorem sorted_uids {w : World} {b nn : Nat} {D : DataW Unit} {m : Box} {L : List Ent} (ho : w.ownsMap Try.prog 3 entElem b nn D) (hr : Reads D m.ent entD) (hR : Rel m L) {ss : List Int} (hs : ss.Perm (intKeys D)) : ss.mergeSort leI = L.map (·.uid) := by
  have hc : CollectedI D (fun _ => false) (L.map (·.uid)) := ⟨uids_nodup hR.asc, fun x => by rw [mem_uids, ← hR.ent, ← (hr.2 x).1]; simp⟩
  have hp := hc.perm ho intKeyed Try.underlying3 (fun _ => rfl)
  rw [mergeSort_of_perm_i (hs.trans hp.symm)]
  refine List.mergeSort_of_pairwise ?_
  refine List.pairwise_map.2 (hR.asc.imp fun {a b} hab => ?_)
  simp only [leI, decide_eq_true_eq]
  omega
theorem Rel.len_le {w : World} {g b1 b2 n : Nat} {m : Box} {L : List Ent} (h : BoxAt w g b1 b2 n m) (hR : Rel m L) : L.length ≤ n := by
  obtain ⟨D, ho, hr⟩ := h.ent
  have hc : CollectedI D (fun _ => false) (L.map (·.uid)) := ⟨uids_nodup hR.asc, fun x => by rw [mem_uids, ← hR.ent, ← (hr.2 x).1]; simp⟩
  have hp := (hc.perm ho intKeyed Try.underlying3 (fun _ => rfl)).length_eq
  have := ho.size_le
  obtain ⟨es, rfl⟩ := hr.1
  simp [intKeys, Maps.size] at hp this
  omega
def ListDid (W : World) (l : List Ent) (e : Ending) (w' : World) : Prop := ∃ v, e = .returned v ∧ EntsAt w' W.heap.size v l ∧ Keeps W w'

set_option maxRecDepth 100000 in
set_option maxHeartbeats 1000000 in
theorem list_any (w : World) {g b1 b2 n : Nat} {m : Box} {L : List Ent} (h : BoxAt w g b1 b2 n m) (hn : n ≤ 900000) (hR : Rel m L) (hwf : ∀ e ∈ L, (Lit.int .i64 e.uid).wf = true) (gone : Bool) : Calls Try.prog 49 #[.pointer (some ⟨g, 0, none⟩), .bool gone] w (ListDid w (filt gone L)) := by
  have HB := Lib.hid h
  have HWF := Lib.hid hwf
  have hlen := Rel.len_le h hR
  obtain ⟨D, ho, hr⟩ := h.ent
  have HSR := Lib.hid (fun ss hs => sorted_uids ho hr hR (ss := ss) hs)
  have HSO := Lib.hid (sortedEnt_any b1 n D entElem w ho (by omega))
  have HAT : Hid (∀ j (hj : j < L.length), m.ent L[j].uid = some L[j]) := Lib.hid (fun j hj => by rw [hR.ent]; exact at_mem hR.asc _ (List.getElem_mem hj))
  obtain ⟨c0, -⟩ := h.cells
  unfold ListDid
  clear h ho hr hR hwf
  go_enter Try.func49, Try.ntmps49
  go_wp2_with fail
  refine (keysEnt_any _ _).mono ?_
  rintro e w1 ⟨rfl, rfl⟩
  go_wp2_with fail
  refine HSO.out.mono ?_
  rintro e w1 ⟨v, ss, rfl, hss, hown, hk⟩
  rw [HSR.out ss hss] at hown
  obtain ⟨pk, ck, hv, -, -⟩ := hown.row.form
  rw [List.length_map, List.length_map] at hv
  subst hv
  have HO := Lib.hid hown
  have HK := Lib.hid hk
  clear hown hk hss c0 HSR HSO
  go_wp2_with fail
  go_loopw [5, 16] (fun vv i wr => ∃ (j : Nat) (p : Option Addr) (c : Nat), i = .int .i64 (j : Int) ∧ j ≤ L.length ∧ vv = .slice p (filt gone (L.take j)).length c ∧ Hid (EntsAt wr w.heap.size (.slice p (filt gone (L.take j)).length c) (filt gone (L.take j)) ∧ Keeps w wr ∧ Own wr w.heap.size 3 (.slice pk L.length ck) ((L.map (·.uid)).map encZ))) (fun _ i _ => L.length - (RowKit.intOf i).toNat)
  case atStart => exact ⟨0, none, 0, rfl, Nat.zero_le _, rfl, Lib.hid ⟨EntsAt.nil _ _, HK.out, HO.out⟩⟩
  case round =>
    obtain ⟨j, p, c, rfl, hj, rfl, HH⟩ := hrel
    clear HO HK
    by_cases hlt : j < L.length
    · obtain ⟨gk, ck', hv, -, -, -⟩ := Own.form HH.out.2.2 (by simp; omega)
      simp only [List.length_map, Value.slice.injEq] at hv
      obtain ⟨rfl, -, rfl⟩ := hv
      have k0 : wr.cell? ⟨gk, j, none⟩ = some (.int .i64 L[j].uid) := Own.cellAt HH.out.2.2 j _ (by simp [List.getElem?_eq_getElem hlt])
      have hl1 := (HB.out.keeps HH.out.2.1).look1 (HWF.out L[j] (List.getElem_mem hlt))
      rw [HAT.out j hlt] at hl1
      simp only [Option.getD_some] at hl1
      obtain ⟨c0, -⟩ := (HB.out.keeps HH.out.2.1).cells
      have HN := Lib.hid (filt_next gone L hlt)
      have hfl : (filt gone (L.take j)).length ≤ L.length := Nat.le_trans (filt_le _ _) (by simp; omega)
      generalize L[j] = E at *
      generalize filt gone (L.take j) = fl at *
      unfold entV at hl1
      go_upto_region 6 with fail
      generalize hW : World.alloc wr _ = wy
      have HKy := Lib.hid (show Keeps wr wy from by rw [← hW]; exact (Keeps.refl _).alloc _)
      have HE := Lib.hid (show Blk wy wr.heap.size 85 (entA E) from by rw [← hW]; exact Blk.new _ _ _ rfl)
      clear hW k0 c0 hl1
      generalize wr.heap.size = q at *
      have e6 : wy.cell? ⟨q, 6, none⟩ = some (.bool E.gone) := by rw [HE.out.cell]; rfl
      have HHs := Lib.hid (show EntsAt wy w.heap.size (.slice p fl.length c) fl ∧ Keeps w wy ∧ Own wy w.heap.size 3 (.slice (some ⟨gk, 0, none⟩) L.length ck) ((L.map (·.uid)).map encZ) from ⟨HH.out.1.keeps HKy.out, HH.out.2.1.trans HKy.out, HH.out.2.2.keeps HKy.out⟩)
      clear HH HKy
      generalize hgo : E.gone = eg at *
      have HG := Lib.hid hgo
      clear hgo
      go_cut [31] (fun t wx => t = .bool (gone || !eg) ∧ wx = wy)
      case first =>
        cases gone with
        | true =>
          go_wp2_with fail
          go_meet
          exact ⟨rfl, rfl⟩
        | false =>
          go_wp2_with fail
          go_meet
          exact ⟨rfl, rfl⟩
      case rest =>
      obtain ⟨rfl, rfl⟩ := hcut
      obtain ⟨wy, rfl⟩ : ∃ wz : World, wz = wc := ⟨_, rfl⟩
      clear e6
      unfold entA at HE
      generalize (gone || !eg) = ok at *
      cases ok with
      | true =>
        rw [if_pos rfl] at HN
        have hsz := HHs.out.2.1.size
        go_wp2_with (first
          | refine wpList_ld rfl entM HE.out _ rfl rfl ?_
          | (at_builtin; go_loud (refine wpList_apps (base := w.heap.size) entok (by decide) rfl _ _ rfl (.slice p fl.length c) (.slice (some ⟨wy.heap.size, 0, none⟩) 1 1) fl.length 1 (fl.flatMap entC) (entC E) rfl rfl (Frm.ownsRow_keeps HHs.out.1 ((Keeps.refl _).alloc _)) (Frm.rowS_lit rfl rfl rfl) (by simp [entC, entA, Value.oneCell']) (by omega) (by decide) (by rw [Frm.alloc_size]; omega) ?_; intro v' w4 ho4 hg4 hf4; obtain ⟨p4, c4, rfl, -, -⟩ := Frm.ownsRow_form ho4)))
        go_roundw
        case rel =>
          refine ⟨j + 1, p4, c4, by simp, by omega, by rw [HN.out]; simp, Lib.hid ⟨?_, ?_, ?_⟩⟩
          · rw [HN.out]
            have := EntsAt.snoc ho4
            simpa using this
          · exact (HHs.out.2.1.alloc _).grown hg4 (Frm.ownsRow_base HHs.out.1)
          · exact own_grown (HHs.out.2.2.keeps ((Keeps.refl _).alloc _)) (Frm.ownsRow_keeps HHs.out.1 ((Keeps.refl _).alloc _)) (by decide) hg4
        case measure =>
          simp only [RowKit.intOf]
          omega
      | false =>
        rw [if_neg (by simp), List.append_nil] at HN
        go_wp2_with fail
        go_roundw
        case rel => exact ⟨j + 1, p, c, by simp, by omega, by rw [HN.out], Lib.hid (by rw [HN.out]; exact HHs.out)⟩
        case measure =>
          simp only [RowKit.intOf]
          omega
    · obtain rfl : j = L.length := by omega
      rw [List.take_length] at HH ⊢
      go_wp2_with fail
      go_ret
      exact ⟨_, rfl, HH.out.1, HH.out.2.1⟩
end Mbx
end Go.Proofs.Ytohchhgheeolpaa

/- ref20: Use, Find, SameEntries, List. -/
namespace Go.Proofs.Ytohchhgheeolpaa
open Go.RowKit
namespace Mbx
open Rcd Go.Maps

/-- a slice that reads as entries -/
def EntR (w : World) (v : Value) (l : List Ent) : Prop := RowS w 7 v l.length (l.flatMap entC)
theorem EntR.keeps {w w' : World} {v : Value} {l : List Ent} (h : EntR w v l) (k : Keeps w w') : EntR w' v l := RowS.keeps h k
theorem EntsAt.r {w : World} {base : Nat} {v : Value} {l : List Ent} (h : EntsAt w base v l) : EntR w v l := by
  refine ⟨by rw [flat_len entC_len], ?_⟩
  cases l with
  | nil =>
    rcases h.2 with ⟨rfl, _⟩ | ⟨g, cap, cur, rfl, _, _, h1, h2, _⟩
    · exact .inl ⟨none, 0, rfl, rfl, Nat.zero_le _, fun _ => rfl⟩
    · exact .inl ⟨some ⟨g, 0, none⟩, cap, rfl, rfl, h2, fun h => by cases h⟩
  | cons e l =>
    obtain ⟨g, cap, hv, -, h1, h2, hc⟩ := Frm.ownsRow_at h (by simp)
    exact .inr ⟨g, 0, cap, hv, h1, h2, fun i x hx => by rw [Nat.zero_add]; exact hc i x hx⟩
theorem EntR.one {w : World} {v : Value} {l : List Ent} (h : EntR w v l) {j : Nat} (hj : j < l.length) : ∃ b off cap, v = .slice (some ⟨b, off, none⟩) l.length cap ∧ w.rangeAt b (off + j * 7) (entA l[j]).toList := by
  obtain ⟨b, off, cap, hv, -, -, hc⟩ := RowS.at_ h (by omega)
  refine ⟨b, off, cap, hv, fun i x hx => ?_⟩
  have hi : i < 7 := by
    have := (List.getElem?_eq_some_iff.1 hx).1
    simpa [entA] using this
  rw [Nat.add_assoc]
  refine hc.out (j * 7 + i) x ?_
  rw [flat_get entC_len l j i _ (List.getElem?_eq_getElem hj) hi]
  exact hx
theorem ent7 {w : World} {q o : Nat} {e : Ent} (h : w.rangeAt q o (entA e).toList) : w.cell? ⟨q, o, none⟩ = some (.int .i64 e.uid) ∧ w.cell? ⟨q, o + 1, none⟩ = some (.int .i64 e.time) ∧ w.cell? ⟨q, o + 2, none⟩ = some (.int .i64 e.flags) ∧ w.cell? ⟨q, o + 3, none⟩ = some (.int .i64 e.body) ∧ w.cell? ⟨q, o + 4, none⟩ = some (.int .i64 e.size) ∧ w.cell? ⟨q, o + 5, none⟩ = some (.int .i64 e.origin) ∧ w.cell? ⟨q, o + 6, none⟩ = some (.bool e.gone) :=
  ⟨h 0 _ rfl, h 1 _ rfl, h 2 _ rfl, h 3 _ rfl, h 4 _ rfl, h 5 _ rfl, h 6 _ rfl⟩

set_option maxRecDepth 100000 in
set_option maxHeartbeats 2000000 in
theorem sameEnts_any (w : World) {va vb : Value} {L : List Ent} (ha : EntR w va L) (hb : EntR w vb L) : Calls Try.prog 61 #[va, vb] w fun e w' => e = .returned (.bool true) ∧ Keeps w w' := by
  obtain ⟨pa, ca, rfl, hc0, hc1⟩ := RowS.form ha
  obtain ⟨pb, cb, rfl, -, -⟩ := RowS.form hb
  have HA := Lib.hid ha
  have HB := Lib.hid hb
  clear ha hb
  go_enter Try.func61, Try.ntmps61
  go_wp2_with fail
  go_loopw [5] (fun i wr => ∃ j : Nat, i = .int .i64 (j : Int) ∧ j ≤ L.length ∧ Hid (Keeps w wr)) (fun i _ => L.length - (RowKit.intOf i).toNat)
  case atStart => exact ⟨0, rfl, Nat.zero_le _, Lib.hid (Keeps.refl _)⟩
  case round =>
    obtain ⟨j, rfl, hj, HK⟩ := hrel
    by_cases hlt : j < L.length
    · obtain ⟨ba, oa, cap, hv, hra⟩ := (HA.out.keeps HK.out).one hlt
      simp only [Value.slice.injEq] at hv
      obtain ⟨rfl, -, rfl⟩ := hv
      obtain ⟨bb, ob, cap, hv, hrb⟩ := (HB.out.keeps HK.out).one hlt
      simp only [Value.slice.injEq] at hv
      obtain ⟨rfl, -, rfl⟩ := hv
      generalize L[j] = E at *
      obtain ⟨a0, a1, a2, a3, a4, a5, a6⟩ := ent7 hra
      obtain ⟨b0, b1, b2, b3, b4, b5, b6⟩ := ent7 hrb
      clear hra hrb
      go_wp2_with fail
      go_quiet (fail)
      go_wp2_with fail
      go_roundw
      case rel => exact ⟨j + 1, by simp, by omega, Lib.hid (HK.out.trans (by repeat (first | exact Keeps.refl _ | refine Keeps.drewN ?_ _)))⟩
      case measure =>
        simp only [RowKit.intOf]
        omega
    · go_wp2_with fail
      go_ret
      exact ⟨rfl, HK.out⟩

set_option maxRecDepth 100000 in
set_option maxHeartbeats 2000000 in
theorem rFind_any (w : World) {v : Value} {L : List Ent} (h : EntR w v L) (nx u : Int) : Calls Try.prog 56 #[.agg #[v, .int .i64 nx], .int .i64 u] w fun e w' => e = .returned (.int .i64 (findL L u)) ∧ Keeps w w' := by
  obtain ⟨p, c, rfl, hc0, hc1⟩ := RowS.form h
  have HA := Lib.hid h
  clear h
  go_enter Try.func56, Try.ntmps56
  go_upto_region 1 with fail
  generalize hW : World.alloc w _ = w1
  have HK1 := Lib.hid (show Keeps w w1 from by rw [← hW]; exact (Keeps.refl _).alloc _)
  have HM := Lib.hid (show Blk w1 w.heap.size 92 #[.slice p L.length c, .int .i64 nx] from by rw [← hW]; exact Blk.new _ _ _ rfl)
  clear hW
  generalize w.heap.size = q at *
  have m0 : w1.cell? ⟨q, 0, none⟩ = some (.slice p L.length c) := by rw [HM.out.cell]; rfl
  go_wp2_with fail
  go_loopw [5] (fun i wr => ∃ j : Nat, i = .int .i64 (j : Int) ∧ j ≤ L.length ∧ Hid (wr = w1 ∧ findN u (L.drop j) j = findL L u)) (fun i _ => L.length - (RowKit.intOf i).toNat)
  case atStart => exact ⟨0, rfl, Nat.zero_le _, Lib.hid ⟨rfl, rfl⟩⟩
  case round =>
    obtain ⟨j, rfl, hj, HK⟩ := hrel
    obtain ⟨rfl, hf⟩ := HK.out
    have HF := Lib.hid hf
    clear HK hf
    by_cases hlt : j < L.length
    · obtain ⟨ba, oa, cap, hv, hra⟩ := (HA.out.keeps HK1.out).one hlt
      simp only [Value.slice.injEq] at hv
      obtain ⟨rfl, -, rfl⟩ := hv
      have HD := Lib.hid (show findN u (L.drop j) j = if L[j].uid = u then (j : Int) else findN u (L.drop (j + 1)) (j + 1) from by rw [List.drop_eq_getElem_cons hlt]; rfl)
      obtain ⟨a0, -⟩ := ent7 hra
      clear hra
      generalize L[j].uid = x at *
      by_cases hx : x = u
      · have HR := Lib.hid (show (j : Int) = findL L u from by rw [← HF.out, HD.out, if_pos hx])
        subst hx
        go_wp2_with fail
        go_ret
        exact ⟨congrArg (fun z => Ending.returned (Value.int .i64 z)) HR.out, HK1.out⟩
      · have HR := Lib.hid (show findN u (L.drop (j + 1)) (j + 1) = findL L u from by rw [← HF.out, HD.out, if_neg hx])
        have hx' : (x == u) = false := by simp [hx]
        clear hx
        go_wp2_with fail
        go_roundw
        case rel => exact ⟨j + 1, by simp, by omega, Lib.hid ⟨trivial, HR.out⟩⟩
        case measure =>
          simp only [RowKit.intOf]
          omega
    · obtain rfl : j = L.length := by omega
      rw [List.drop_length] at HF
      go_wp2_with fail
      go_ret
      exact ⟨congrArg (fun z => Ending.returned (Value.int .i64 z)) HF.out, HK1.out⟩
end Mbx
end Go.Proofs.Ytohchhgheeolpaa

/- ref20: Use, List. -/
namespace Go.Proofs.Ytohchhgheeolpaa
open Go.RowKit
namespace Mbx
open Rcd Go.Maps

theorem useM : Mids Try.prog 88 2 := ⟨⟨_, Try.underlying88, rfl⟩, by kernel_rfl⟩
theorem rboxM : Mids Try.prog 92 2 := ⟨⟨_, Try.underlying92, rfl⟩, by kernel_rfl⟩
structure UseAt (w wr : World) (q : Nat) (p : Option Addr) (n c : Nat) (nx s t : Int) : Prop where
  keeps : Keeps w wr
  box : Blk wr q 92 #[.slice p n c, .int .i64 nx]
  res : Blk wr (q + 1) 88 #[.int .i64 0, .int .i64 0]
  use : Blk wr (q + 2) 88 #[.int .i64 s, .int .i64 t]

set_option maxRecDepth 100000 in
set_option maxHeartbeats 2000000 in
theorem rUse_any (w : World) {v : Value} {L : List Ent} (h : EntR w v L) (nx : Int) (hs : ∀ e ∈ L, 0 ≤ e.size) (hb : sumS L ≤ 4611686018427387904) (hl : L.length ≤ 4611686018427387904) : Calls Try.prog 141 #[.agg #[v, .int .i64 nx]] w fun e w' => e = .returned (.agg #[.int .i64 (sumS L), .int .i64 (cntS L)]) ∧ Keeps w w' := by
  obtain ⟨p, c, rfl, hc0, hc1⟩ := RowS.form h
  have HA := Lib.hid h
  have HSU := Lib.hid (sumS_take_le hs)
  have HCU := Lib.hid (cntS_take_le L)
  have HCL : Hid (∀ j, cntS (L.take j) ≤ j) := Lib.hid (fun j => by
    have : ∀ l : List Ent, cntS l ≤ l.length := fun l => by
      induction l with
      | nil => exact Int.le_refl _
      | cons x l ih => simp only [cntS, List.length_cons]; split <;> omega
    have := this (L.take j)
    rw [List.length_take] at this
    omega)
  clear h hs
  go_enter Try.func141, Try.ntmps141
  go_upto_region 2 with fail
  generalize hW : World.alloc (World.alloc (World.alloc w _) _) _ = w1
  have HS := Lib.hid (show UseAt w w1 w.heap.size p L.length c nx 0 0 from by
    rw [← hW]
    exact ⟨(((Keeps.refl _).alloc _).alloc _).alloc _, ((Blk.new w _ _ rfl).alloc _).alloc _, (Blk.new _ _ _ (by simp)).alloc _, Blk.new _ _ _ (by simp)⟩)
  have HQ := Lib.hid (Nat.le_refl w.heap.size)
  clear hW
  obtain ⟨q, hq⟩ : ∃ q, q = w.heap.size := ⟨_, rfl⟩
  rw [← hq] at HS ⊢
  have HQ := Lib.hid (show w.heap.size ≤ q from by omega)
  clear hq
  go_wp2_with fail
  go_loopw [4] (fun i wr => ∃ j : Nat, i = .int .i64 (j : Int) ∧ j ≤ L.length ∧ Hid (UseAt w wr q p L.length c nx (sumS (L.take j)) (cntS (L.take j)))) (fun i _ => L.length - (RowKit.intOf i).toNat)
  case atStart => exact ⟨0, rfl, Nat.zero_le _, HS⟩
  case round =>
    obtain ⟨j, rfl, hj, HH⟩ := hrel
    have m0 : wr.cell? ⟨q, 0, none⟩ = some (.slice p L.length c) := by rw [HH.out.box.cell]; rfl
    by_cases hlt : j < L.length
    · obtain ⟨ba, oa, cap, hv, hra0⟩ := HA.out.one hlt
      simp only [Value.slice.injEq] at hv
      obtain ⟨rfl, -, rfl⟩ := hv
      have hlb := lt_of_cell (ent7 hra0).1
      have hra := range_keeps' hra0 HH.out.keeps
      have h1 := HSU.out j
      have h2 := HSU.out (j + 1)
      have h3 := HCU.out j
      have h4 := HCU.out (j + 1)
      have h5 := HCL.out j
      have HN := Lib.hid (And.intro (sumS_take hlt) (cntS_take hlt))
      rw [sumS_take hlt] at h2
      rw [cntS_take hlt] at h4
      obtain ⟨-, -, -, -, a4, -, a6⟩ := ent7 hra
      have u0 : wr.cell? ⟨q + 2, 0, none⟩ = some (.int .i64 (sumS (L.take j))) := by rw [HH.out.use.cell]; rfl
      have u1 : wr.cell? ⟨q + 2, 1, none⟩ = some (.int .i64 (cntS (L.take j))) := by rw [HH.out.use.cell]; rfl
      have z0 : wr.frozen? ⟨q + 2, 0, none⟩ = false := HH.out.use.frozen _
      have z1 : wr.frozen? ⟨q + 2, 1, none⟩ = false := HH.out.use.frozen _
      have hlu := HH.out.use.lt
      have hbq : ¬ ba = q + 2 := by have := HQ.out; omega
      clear hra hra0
      generalize sumS (L.take j) = s at *
      generalize cntS (L.take j) = t at *
      generalize L[j] = E at *
      cases hg : E.gone with
      | true =>
        rw [hg] at a6 HN
        clear hg
        go_wp2_with fail
        go_roundw
        case rel => exact ⟨j + 1, by simp, by omega, Lib.hid (by rw [HN.out.1, HN.out.2]; simpa using HH.out)⟩
        case measure =>
          simp only [RowKit.intOf]
          omega
      | false =>
        rw [hg] at a6 HN h2 h4
        simp only [Bool.false_eq_true, if_false] at HN h2 h4
        have hw1 : IntKind.i64.wrap (s + E.size) = s + E.size := by rw [IntKind.wrap_i64]; omega
        have hw2 : IntKind.i64.wrap (t + 1) = t + 1 := by rw [IntKind.wrap_i64]; omega
        clear hg
        go_upto_region 6 with fail
        go_region
        go_wp2_with fail
        go_roundw
        case rel =>
          refine ⟨j + 1, by simp, by omega, Lib.hid ?_⟩
          rw [HN.out.1, HN.out.2]
          exact ⟨((HH.out.keeps.setCell (p := ⟨q + 2, 0, none⟩) (by have := HQ.out; show _ ≤ q + 2; omega) _).setCell (p := ⟨q + 2, 1, none⟩) (by have := HQ.out; show _ ≤ q + 2; omega) _).drew, (HH.out.box.far (by show q ≠ q + 2; omega) _).far (by show q ≠ q + 2; omega) _, (HH.out.res.far (by show q + 1 ≠ q + 2; omega) _).far (by show q + 1 ≠ q + 2; omega) _, (HH.out.use.set_ 0 _).set_ 1 _⟩
        case measure =>
          simp only [RowKit.intOf]
          omega
    · obtain rfl : j = L.length := by omega
      rw [List.take_length] at HH
      clear HA HSU HCU HCL
      go_wp2_with (first
        | refine wpList_ld rfl useM HH.out.use _ rfl rfl ?_
        | refine wpList_st (ds := #[.int .i64 (sumS L), .int .i64 (cntS L)]) rfl useM HH.out.res rfl (by simp [Value.oneCell']) _ _ rfl rfl rfl rfl ?_; intro w6 hB6 hM6)
      have HLd := Lib.hid (ld_run (P := Try.prog) useM hB6)
      have HX := Lib.hid (hM6.keeps HH.out.keeps (fun y hy => by have := HQ.out; omega))
      clear hB6 hM6
      exact bodyPost_ret (v := .agg #[.int .i64 (sumS L), .int .i64 (cntS L)]) (by simp [results, Try.results141, Sem.run_bind, Sem.run_pure, Result.andThen_ok, Act.put, asAddr, HLd.out]) rfl ⟨rfl, HX.out⟩

set_option maxRecDepth 100000 in
set_option maxHeartbeats 2000000 in
theorem rList_any (w : World) {v : Value} {L : List Ent} (h : EntR w v L) (nx : Int) (gone : Bool) (hl : L.length ≤ 900000) : Calls Try.prog 143 #[.agg #[v, .int .i64 nx], .bool gone] w (ListDid w (filt gone L)) := by
  obtain ⟨p, c, rfl, hc0, hc1⟩ := RowS.form h
  have HA := Lib.hid h
  unfold ListDid
  clear h
  go_enter Try.func143, Try.ntmps143
  go_upto_region 1 with fail
  generalize hW : World.alloc w _ = w1
  have HK1 := Lib.hid (show Keeps w w1 from by rw [← hW]; exact (Keeps.refl _).alloc _)
  have HM := Lib.hid (show Blk w1 w.heap.size 92 #[.slice p L.length c, .int .i64 nx] from by rw [← hW]; exact Blk.new _ _ _ rfl)
  clear hW
  obtain ⟨q, hq⟩ : ∃ q, q = w.heap.size := ⟨_, rfl⟩
  rw [← hq] at HM ⊢
  have HQ := Lib.hid hq
  clear hq
  go_wp2_with fail
  go_loopw [5, 6] (fun vv i wr => ∃ (j : Nat) (p' : Option Addr) (c' : Nat), i = .int .i64 (j : Int) ∧ j ≤ L.length ∧ vv = .slice p' (filt gone (L.take j)).length c' ∧ Hid (EntsAt wr q (.slice p' (filt gone (L.take j)).length c') (filt gone (L.take j)) ∧ Keeps w wr ∧ Blk wr q 92 #[.slice p L.length c, .int .i64 nx])) (fun _ i _ => L.length - (RowKit.intOf i).toNat)
  case atStart => exact ⟨0, none, 0, rfl, Nat.zero_le _, rfl, Lib.hid ⟨EntsAt.nil _ _, HK1.out, HM.out⟩⟩
  case round =>
    obtain ⟨j, p', c', rfl, hj, rfl, HH⟩ := hrel
    have m0 : wr.cell? ⟨q, 0, none⟩ = some (.slice p L.length c) := by rw [HH.out.2.2.cell]; rfl
    by_cases hlt : j < L.length
    · obtain ⟨ba, oa, cap, hv, hra⟩ := (HA.out.keeps HH.out.2.1).one hlt
      simp only [Value.slice.injEq] at hv
      obtain ⟨rfl, -, rfl⟩ := hv
      have HN := Lib.hid (filt_next gone L hlt)
      have hfl : (filt gone (L.take j)).length ≤ L.length := Nat.le_trans (filt_le _ _) (by simp; omega)
      obtain ⟨-, -, -, -, -, -, a6⟩ := ent7 hra
      have HRR := Lib.hid hra
      clear hra
      generalize L[j] = E at *
      generalize filt gone (L.take j) = fl at *
      generalize E.gone = eg at *
      go_upto_region 5 with fail
      go_cut [23] (fun t wx => t = .bool (gone || !eg) ∧ wx = wr)
      case first =>
        cases gone with
        | true =>
          go_wp2_with fail
          go_meet
          exact ⟨rfl, rfl⟩
        | false =>
          go_wp2_with fail
          go_meet
          exact ⟨rfl, rfl⟩
      case rest =>
      obtain ⟨rfl, rfl⟩ := hcut
      obtain ⟨wy, rfl⟩ : ∃ wz : World, wz = wc := ⟨_, rfl⟩
      clear a6
      generalize (gone || !eg) = ok at *
      have hqs : q ≤ wy.heap.size := by have := HH.out.2.2.lt; omega
      have HQW := Lib.hid (show w.heap.size ≤ q from by have := HQ.out; omega)
      cases ok with
      | true =>
        rw [if_pos rfl] at HN
        have HBX := Lib.hid (HH.out.2.2)
        have HR := Lib.hid (show wy.rangeAt ba (oa + j * 7) [.int .i64 E.uid, .int .i64 E.time, .int .i64 E.flags, .int .i64 E.body, .int .i64 E.size, .int .i64 E.origin, .bool E.gone] from HRR.out)
        go_wp2_with (first
          | refine wpList_ldR rfl entM HR.out _ rfl rfl ?_
          | (at_builtin; refine wpList_apps (base := q) entok (by decide) rfl _ _ rfl (.slice p' fl.length c') (.slice (some ⟨wy.heap.size, 0, none⟩) 1 1) fl.length 1 (fl.flatMap entC) (entC E) rfl rfl (Frm.ownsRow_keeps HH.out.1 ((Keeps.refl _).alloc _)) (Frm.rowS_lit rfl rfl rfl) (by simp [entC, entA, Value.oneCell']) (by omega) (by decide) (by rw [Frm.alloc_size]; omega) ?_; intro v' w4 ho4 hg4 hf4; obtain ⟨p4, c4, rfl, -, -⟩ := Frm.ownsRow_form ho4))
        go_roundw
        case rel =>
          refine ⟨j + 1, p4, c4, by simp, by omega, by rw [HN.out]; simp, Lib.hid ⟨?_, ?_, ?_⟩⟩
          · rw [HN.out]
            have := EntsAt.snoc ho4
            simpa using this
          · exact (HH.out.2.1.alloc _).grown hg4 (fun k hk => Nat.le_trans HQW.out (Frm.ownsRow_base HH.out.1 k hk))
          · have hb := HBX.out.alloc (Obj.cells (entC E).toArray 85)
            exact hb.grown hg4 (Frm.ownsRow_ne (Frm.ownsRow_keeps HH.out.1 ((Keeps.refl _).alloc _)) hb (by decide))
        case measure =>
          simp only [RowKit.intOf]
          omega
      | false =>
        rw [if_neg (by simp), List.append_nil] at HN
        go_wp2_with fail
        go_roundw
        case rel => exact ⟨j + 1, p', c', by simp, by omega, by rw [HN.out], Lib.hid (by rw [HN.out]; exact HH.out)⟩
        case measure =>
          simp only [RowKit.intOf]
          omega
    · obtain rfl : j = L.length := by omega
      rw [List.take_length] at HH ⊢
      go_wp2_with fail
      go_ret
      exact ⟨_, rfl, by rw [← HQ.out]; exact HH.out.1, HH.out.2.1⟩
end Mbx
end Go.Proofs.Ytohchhgheeolpaa

/- mbox.Records; ref20.Records, SameRecs. -/
namespace Go.Proofs.Ytohchhgheeolpaa
open Go.RowKit
namespace Mbx
open Rcd Go.Maps

def rC (r : Rec) : List Value := (recA r (.slice none 0 0)).toList
theorem rC_len (r : Rec) : (rC r).length = 12 := rfl
/-- a slice of records without data, of the call's own -/
def RecsAt (w : World) (base : Nat) (v : Value) (l : List Rec) : Prop := w.ownsRow base 82 12 v l.length (l.flatMap rC)
theorem RecsAt.nil (w : World) (base : Nat) : RecsAt w base (.slice none 0 0) [] := World.ownsRow_nil w base _ 12
theorem RecsAt.keeps {w w' : World} {base : Nat} {v : Value} {l : List Rec} (h : RecsAt w base v l) (k : Keeps w w') : RecsAt w' base v l := Frm.ownsRow_keeps h k
theorem RecsAt.snoc {w : World} {base : Nat} {v : Value} {l : List Rec} {r : Rec} (h : w.ownsRow base 82 12 v (l.length + 1) (l.flatMap rC ++ rC r)) : RecsAt w base v (l ++ [r]) := by
  unfold RecsAt
  simpa using h
theorem recok : ElemOkS Try.prog 75 82 12 112 := elemOkS (z := .agg zero12) Try.underlying75 (by kernel_rfl) rfl
def msgOf (e : Ent) : Rec := ⟨2, 0, 0, 0, 0, e.uid, e.time, e.flags, e.body, e.size, e.origin, []⟩
def goneOf (e : Ent) : Rec := ⟨3, 0, 0, 0, 0, e.uid, 0, 0, 0, 0, 0, []⟩
def recsOf (l : List Ent) : List Rec := l.flatMap fun e => msgOf e :: if e.gone then [goneOf e] else []
theorem recsOf_next (l : List Ent) {j : Nat} (hj : j < l.length) : recsOf (l.take (j + 1)) = recsOf (l.take j) ++ msgOf l[j] :: if l[j].gone then [goneOf l[j]] else [] := by
  rw [List.take_succ_eq_append_getElem hj]
  unfold recsOf
  rw [List.flatMap_append]
  simp only [List.flatMap_cons, List.flatMap_nil, List.append_nil]
theorem recsOf_le (l : List Ent) : (recsOf l).length ≤ 2 * l.length := by
  unfold recsOf
  induction l with
  | nil => exact Nat.le_refl _
  | cons e l ih => simp only [List.flatMap_cons, List.length_append, List.length_cons]; split <;> simp only [List.length_cons, List.length_nil] <;> omega
/-- an append to a slice of records leaves entries as they were -/
theorem EntsAt.grown {w w' : World} {base base2 C2 n2 : Nat} {e2 : TypeId} {v v2 : Value} {l : List Ent} {xs2 : List Value} (h : EntsAt w base v l) (h2 : w.ownsRow base2 e2 C2 v2 n2 xs2) (hne : e2 ≠ 85) (hg : w.grownBy w' v2.ownBlock) : EntsAt w' base v l :=
  Frm.ownsRow_mods h ((Mods.refl (fun x => v2.ownBlock = some x) w).grown hg (fun k hk _ => hk)) (fun x hx hs => by
    rcases h.2 with ⟨rfl, _⟩ | ⟨g, cap, cur, rfl, _, hgg, _⟩
    · simp [Value.ownBlock] at hx
    · simp [Value.ownBlock] at hx
      subst hx
      exact Frm.ownsRow_ty h2 hne g hs _ _ hgg)
def RecsDid (W : World) (l : List Rec) (e : Ending) (w' : World) : Prop := ∃ v, e = .returned v ∧ RecsAt w' W.heap.size v l ∧ Keeps W w'

set_option maxRecDepth 100000 in
set_option maxHeartbeats 4000000 in
theorem records_any (w : World) {g b1 b2 n : Nat} {m : Box} {L : List Ent} (h : BoxAt w g b1 b2 n m) (hn : n ≤ 900000) (hR : Rel m L) (hwf : ∀ e ∈ L, (Lit.int .i64 e.uid).wf = true) (gone : Bool) : Calls Try.prog 60 #[.pointer (some ⟨g, 0, none⟩), .bool gone] w (RecsDid w (recsOf (filt gone L))) := by
  have hlL := Rel.len_le h hR
  have HLI := Lib.hid (list_any w h hn hR hwf gone)
  clear h hR hwf
  unfold RecsDid
  have hlen : (filt gone L).length ≤ 900000 := Nat.le_trans (filt_le _ _) (by omega)
  generalize filt gone L = F at *
  go_enter Try.func60, Try.ntmps60
  have HKK := Lib.hid (Keeps.refl w)
  go_wp2_with fail
  refine HLI.out.mono ?_
  rintro e w2 ⟨v, rfl, hen, hk⟩
  obtain ⟨B, hB⟩ : ∃ B, B = w.heap.size := ⟨_, rfl⟩
  rw [← hB] at hen
  have hww : w.heap.size ≤ B := by omega
  obtain ⟨pk, ck, rfl, -, -⟩ := Frm.ownsRow_form hen
  have HK := Lib.hid (HKK.out.trans hk)
  have hBs : B ≤ w2.heap.size := by have := hk.size; omega
  have HO := Lib.hid hen
  clear hen hk HKK HLI
  go_wp2_with fail
  go_loopw [5, 12] (fun vv i wr => ∃ (j : Nat) (p : Option Addr) (c : Nat), i = .int .i64 (j : Int) ∧ j ≤ F.length ∧ vv = .slice p (recsOf (F.take j)).length c ∧ Hid (RecsAt wr B (.slice p (recsOf (F.take j)).length c) (recsOf (F.take j)) ∧ Keeps w wr ∧ EntsAt wr B (.slice pk F.length ck) F ∧ B ≤ wr.heap.size)) (fun _ i _ => F.length - (RowKit.intOf i).toNat)
  case atStart => exact ⟨0, none, 0, rfl, Nat.zero_le _, rfl, Lib.hid ⟨RecsAt.nil _ _, HK.out, HO.out, hBs⟩⟩
  case round =>
    obtain ⟨j, p, c, rfl, hj, rfl, HH⟩ := hrel
    clear HO HK
    by_cases hlt : j < F.length
    · obtain ⟨bk, ok', cap, hv, hra⟩ := (EntsAt.r HH.out.2.2.1).one hlt
      simp only [Value.slice.injEq] at hv
      obtain ⟨rfl, -, rfl⟩ := hv
      have HRR := Lib.hid hra
      have HN := Lib.hid (recsOf_next F hlt)
      have hfl := recsOf_le (F.take j)
      rw [List.length_take] at hfl
      generalize hfe : recsOf (F.take j) = fl at *
      clear hra hfe
      generalize F[j] = E at *
      have HR := Lib.hid (show wr.rangeAt bk (ok' + j * 7) [.int .i64 E.uid, .int .i64 E.time, .int .i64 E.flags, .int .i64 E.body, .int .i64 E.size, .int .i64 E.origin, .bool E.gone] from HRR.out)
      go_upto_region 5 with (refine wpList_ldR rfl entM HR.out _ rfl rfl ?_)
      generalize hW : World.alloc wr _ = wy
      have HKy := Lib.hid (show Keeps wr wy from by rw [← hW]; exact (Keeps.refl _).alloc _)
      have HE := Lib.hid (show Blk wy wr.heap.size 85 (entA E) from by rw [← hW]; exact Blk.new _ _ _ rfl)
      clear hW HR HRR
      have hsy : B ≤ wy.heap.size := Nat.le_trans HH.out.2.2.2 HKy.out.size
      generalize wr.heap.size = q at *
      have e0 : wy.cell? ⟨q, 0, none⟩ = some (.int .i64 E.uid) := by rw [HE.out.cell]; rfl
      have e1 : wy.cell? ⟨q, 1, none⟩ = some (.int .i64 E.time) := by rw [HE.out.cell]; rfl
      have e2 : wy.cell? ⟨q, 2, none⟩ = some (.int .i64 E.flags) := by rw [HE.out.cell]; rfl
      have e3 : wy.cell? ⟨q, 3, none⟩ = some (.int .i64 E.body) := by rw [HE.out.cell]; rfl
      have e4 : wy.cell? ⟨q, 4, none⟩ = some (.int .i64 E.size) := by rw [HE.out.cell]; rfl
      have e5 : wy.cell? ⟨q, 5, none⟩ = some (.int .i64 E.origin) := by rw [HE.out.cell]; rfl
      have HX := Lib.hid (show RecsAt wy B (.slice p fl.length c) fl ∧ Keeps w wy ∧ EntsAt wy B (.slice (some ⟨bk, ok', none⟩) F.length ck) F from ⟨HH.out.1.keeps HKy.out, HH.out.2.1.trans HKy.out, HH.out.2.2.1.keeps HKy.out⟩)
      have hsz := HX.out.2.1.size
      clear HH HKy
      go_upto_region 6 with (at_builtin; refine wpList_apps (base := B) recok (by decide) rfl _ _ rfl (.slice p fl.length c) (.slice (some ⟨wy.heap.size, 0, none⟩) 1 1) fl.length 1 (fl.flatMap rC) (rC (msgOf E)) rfl rfl (Frm.ownsRow_keeps HX.out.1 ((Keeps.refl _).alloc _)) (Frm.rowS_lit rfl rfl rfl) (by simp [rC, recA, Value.oneCell']) (by omega) (by decide) (by rw [Frm.alloc_size]; omega) ?_; intro v' w4 ho4 hg4 hf4; obtain ⟨p4, c4, rfl, -, -⟩ := Frm.ownsRow_form ho4)
      have hk4 : Keeps w w4 := (HX.out.2.1.alloc _).grown hg4 (fun k hk => Nat.le_trans hww (Frm.ownsRow_base HX.out.1 k hk))
      have hq4 : Blk w4 q 85 (entA E) := by
        have hb := HE.out.alloc (Obj.cells (rC (msgOf E)).toArray 82)
        exact hb.grown hg4 (Frm.ownsRow_ne (Frm.ownsRow_keeps HX.out.1 ((Keeps.refl _).alloc _)) hb (by decide))
      have he4 : EntsAt w4 B (.slice (some ⟨bk, ok', none⟩) F.length ck) F := EntsAt.grown (HX.out.2.2.keeps ((Keeps.refl _).alloc (Obj.cells (rC (msgOf E)).toArray 82))) (Frm.ownsRow_keeps HX.out.1 ((Keeps.refl _).alloc _)) (by decide) hg4
      have hs4 : B ≤ w4.heap.size := by have := hg4.size; rw [Frm.alloc_size] at this; omega
      have HX4 := Lib.hid (show RecsAt w4 B (.slice p4 (fl.length + 1) c4) (fl ++ [msgOf E]) ∧ Keeps w w4 ∧ EntsAt w4 B (.slice (some ⟨bk, ok', none⟩) F.length ck) F from ⟨RecsAt.snoc ho4, hk4, he4⟩)
      have HB4 := Lib.hid hq4
      clear HX HE e0 e1 e2 e3 e4 e5 ho4 hg4 hf4 hk4 hq4 he4 hsz hsy
      have e0 : w4.cell? ⟨q, 0, none⟩ = some (.int .i64 E.uid) := by rw [HB4.out.cell]; rfl
      have e6 : w4.cell? ⟨q, 6, none⟩ = some (.bool E.gone) := by rw [HB4.out.cell]; rfl
      obtain ⟨fl4, hfl4⟩ : ∃ x, x = fl ++ [msgOf E] := ⟨_, rfl⟩
      have hl4 : fl.length + 1 = fl4.length := by rw [hfl4]; simp
      have HF4 := Lib.hid hfl4
      rw [← hfl4] at HX4
      rw [hl4] at HX4 ⊢
      rw [show fl ++ msgOf E :: (if E.gone = true then [goneOf E] else []) = fl4 ++ (if E.gone = true then [goneOf E] else []) from by rw [hfl4]; simp] at HN
      clear hfl4
      cases hg : E.gone with
      | true =>
        rw [hg] at e6 HN
        rw [if_pos rfl] at HN
        clear hg
        go_wp2_with (at_builtin; refine wpList_apps (base := B) recok (by decide) rfl _ _ rfl (.slice p4 fl4.length c4) (.slice (some ⟨w4.heap.size, 0, none⟩) 1 1) fl4.length 1 (fl4.flatMap rC) (rC (goneOf E)) rfl rfl (Frm.ownsRow_keeps HX4.out.1 ((Keeps.refl _).alloc _)) (Frm.rowS_lit rfl rfl rfl) (by simp [rC, recA, Value.oneCell']) (by omega) (by decide) (by rw [Frm.alloc_size]; omega) ?_; intro v' w5 ho5 hg5 hf5; obtain ⟨p5, c5, rfl, -, -⟩ := Frm.ownsRow_form ho5)
        go_roundw
        case rel =>
          refine ⟨j + 1, p5, c5, by simp, by omega, by rw [HN.out]; simp, Lib.hid ⟨?_, ?_, ?_, by have := hg5.size; rw [Frm.alloc_size] at this; omega⟩⟩
          · rw [HN.out]
            have := RecsAt.snoc ho5
            simpa using this
          · exact (HX4.out.2.1.alloc _).grown hg5 (fun k hk => Nat.le_trans hww (Frm.ownsRow_base HX4.out.1 k hk))
          · exact EntsAt.grown (HX4.out.2.2.keeps ((Keeps.refl _).alloc (Obj.cells (rC (goneOf E)).toArray 82))) (Frm.ownsRow_keeps HX4.out.1 ((Keeps.refl _).alloc _)) (by decide) hg5
        case measure =>
          simp only [RowKit.intOf]
          omega
      | false =>
        rw [hg] at e6 HN
        rw [if_neg (by simp), List.append_nil] at HN
        clear hg
        go_wp2_with fail
        go_roundw
        case rel => exact ⟨j + 1, p4, c4, by simp, by omega, by rw [HN.out], Lib.hid (by rw [HN.out]; exact ⟨HX4.out.1, HX4.out.2.1, HX4.out.2.2, hs4⟩)⟩
        case measure =>
          simp only [RowKit.intOf]
          omega
    · obtain rfl : j = F.length := by omega
      rw [List.take_length] at HH ⊢
      go_wp2_with fail
      go_ret
      exact ⟨_, rfl, ⟨HH.out.1.1, HH.out.1.2.imp id (fun ⟨g, cap, cur, hv, hg, r⟩ => ⟨g, cap, cur, hv, Nat.le_trans hww hg, r⟩)⟩, HH.out.2.1⟩

set_option maxRecDepth 100000 in
set_option maxHeartbeats 4000000 in
theorem rRecords_any (w : World) {v0 : Value} {L : List Ent} (h : EntR w v0 L) (nx : Int) (gone : Bool) (hl : L.length ≤ 900000) : Calls Try.prog 145 #[.agg #[v0, .int .i64 nx], .bool gone] w (RecsDid w (recsOf (filt gone L))) := by
  obtain ⟨p0, c0, rfl, hc0, hc1⟩ := RowS.form h
  have HLI := Lib.hid (fun w1 (k : Keeps w w1) => rList_any w1 (h.keeps k) nx gone hl)
  have hlL := Nat.le_refl L.length
  clear h
  unfold RecsDid
  have hlen : (filt gone L).length ≤ 900000 := Nat.le_trans (filt_le _ _) (by omega)
  generalize filt gone L = F at *
  go_enter Try.func145, Try.ntmps145
  go_upto_region 1 with fail
  generalize hW : World.alloc w _ = w1
  have HKK := Lib.hid (show Keeps w w1 from by rw [← hW]; exact (Keeps.refl _).alloc _)
  have HM := Lib.hid (show Blk w1 w.heap.size 92 #[.slice p0 L.length c0, .int .i64 nx] from by rw [← hW]; exact Blk.new _ _ _ rfl)
  clear hW
  generalize w.heap.size = q0 at *
  go_wp2_with (refine wpList_ld rfl rboxM HM.out _ rfl rfl ?_)
  refine (HLI.out w1 HKK.out).mono ?_
  rintro e w2 ⟨v, rfl, hen, hk⟩
  clear HM
  obtain ⟨B, hB⟩ : ∃ B, B = w1.heap.size := ⟨_, rfl⟩
  rw [← hB] at hen
  have hww : w.heap.size ≤ B := by have := HKK.out.size; omega
  obtain ⟨pk, ck, rfl, -, -⟩ := Frm.ownsRow_form hen
  have HK := Lib.hid (HKK.out.trans hk)
  have hBs : B ≤ w2.heap.size := by have := hk.size; omega
  have HO := Lib.hid hen
  clear hen hk HKK HLI
  go_wp2_with fail
  go_loopw [5, 7] (fun vv i wr => ∃ (j : Nat) (p : Option Addr) (c : Nat), i = .int .i64 (j : Int) ∧ j ≤ F.length ∧ vv = .slice p (recsOf (F.take j)).length c ∧ Hid (RecsAt wr B (.slice p (recsOf (F.take j)).length c) (recsOf (F.take j)) ∧ Keeps w wr ∧ EntsAt wr B (.slice pk F.length ck) F ∧ B ≤ wr.heap.size)) (fun _ i _ => F.length - (RowKit.intOf i).toNat)
  case atStart => exact ⟨0, none, 0, rfl, Nat.zero_le _, rfl, Lib.hid ⟨RecsAt.nil _ _, HK.out, HO.out, hBs⟩⟩
  case round =>
    obtain ⟨j, p, c, rfl, hj, rfl, HH⟩ := hrel
    clear HO HK
    by_cases hlt : j < F.length
    · obtain ⟨bk, ok', cap, hv, hra⟩ := (EntsAt.r HH.out.2.2.1).one hlt
      simp only [Value.slice.injEq] at hv
      obtain ⟨rfl, -, rfl⟩ := hv
      have HRR := Lib.hid hra
      have HN := Lib.hid (recsOf_next F hlt)
      have hfl := recsOf_le (F.take j)
      rw [List.length_take] at hfl
      generalize hfe : recsOf (F.take j) = fl at *
      clear hra hfe
      generalize F[j] = E at *
      have HR := Lib.hid (show wr.rangeAt bk (ok' + j * 7) [.int .i64 E.uid, .int .i64 E.time, .int .i64 E.flags, .int .i64 E.body, .int .i64 E.size, .int .i64 E.origin, .bool E.gone] from HRR.out)
      go_upto_region 7 with (refine wpList_ldR rfl entM HR.out _ rfl rfl ?_)
      generalize hW : World.alloc wr _ = wy
      have HKy := Lib.hid (show Keeps wr wy from by rw [← hW]; exact (Keeps.refl _).alloc _)
      have HE := Lib.hid (show Blk wy wr.heap.size 85 (entA E) from by rw [← hW]; exact Blk.new _ _ _ rfl)
      clear hW HR HRR
      have hsy : B ≤ wy.heap.size := Nat.le_trans HH.out.2.2.2 HKy.out.size
      generalize wr.heap.size = q at *
      have e0 : wy.cell? ⟨q, 0, none⟩ = some (.int .i64 E.uid) := by rw [HE.out.cell]; rfl
      have e1 : wy.cell? ⟨q, 1, none⟩ = some (.int .i64 E.time) := by rw [HE.out.cell]; rfl
      have e2 : wy.cell? ⟨q, 2, none⟩ = some (.int .i64 E.flags) := by rw [HE.out.cell]; rfl
      have e3 : wy.cell? ⟨q, 3, none⟩ = some (.int .i64 E.body) := by rw [HE.out.cell]; rfl
      have e4 : wy.cell? ⟨q, 4, none⟩ = some (.int .i64 E.size) := by rw [HE.out.cell]; rfl
      have e5 : wy.cell? ⟨q, 5, none⟩ = some (.int .i64 E.origin) := by rw [HE.out.cell]; rfl
      have HX := Lib.hid (show RecsAt wy B (.slice p fl.length c) fl ∧ Keeps w wy ∧ EntsAt wy B (.slice (some ⟨bk, ok', none⟩) F.length ck) F from ⟨HH.out.1.keeps HKy.out, HH.out.2.1.trans HKy.out, HH.out.2.2.1.keeps HKy.out⟩)
      have hsz := HX.out.2.1.size
      clear HH HKy
      go_upto_region 8 with (at_builtin; refine wpList_apps (base := B) recok (by decide) rfl _ _ rfl (.slice p fl.length c) (.slice (some ⟨wy.heap.size, 0, none⟩) 1 1) fl.length 1 (fl.flatMap rC) (rC (msgOf E)) rfl rfl (Frm.ownsRow_keeps HX.out.1 ((Keeps.refl _).alloc _)) (Frm.rowS_lit rfl rfl rfl) (by simp [rC, recA, Value.oneCell']) (by omega) (by decide) (by rw [Frm.alloc_size]; omega) ?_; intro v' w4 ho4 hg4 hf4; obtain ⟨p4, c4, rfl, -, -⟩ := Frm.ownsRow_form ho4)
      have hk4 : Keeps w w4 := (HX.out.2.1.alloc _).grown hg4 (fun k hk => Nat.le_trans hww (Frm.ownsRow_base HX.out.1 k hk))
      have hq4 : Blk w4 q 85 (entA E) := by
        have hb := HE.out.alloc (Obj.cells (rC (msgOf E)).toArray 82)
        exact hb.grown hg4 (Frm.ownsRow_ne (Frm.ownsRow_keeps HX.out.1 ((Keeps.refl _).alloc _)) hb (by decide))
      have he4 : EntsAt w4 B (.slice (some ⟨bk, ok', none⟩) F.length ck) F := EntsAt.grown (HX.out.2.2.keeps ((Keeps.refl _).alloc (Obj.cells (rC (msgOf E)).toArray 82))) (Frm.ownsRow_keeps HX.out.1 ((Keeps.refl _).alloc _)) (by decide) hg4
      have hs4 : B ≤ w4.heap.size := by have := hg4.size; rw [Frm.alloc_size] at this; omega
      have HX4 := Lib.hid (show RecsAt w4 B (.slice p4 (fl.length + 1) c4) (fl ++ [msgOf E]) ∧ Keeps w w4 ∧ EntsAt w4 B (.slice (some ⟨bk, ok', none⟩) F.length ck) F from ⟨RecsAt.snoc ho4, hk4, he4⟩)
      have HB4 := Lib.hid hq4
      clear HX HE e0 e1 e2 e3 e4 e5 ho4 hg4 hf4 hk4 hq4 he4 hsz hsy
      have e0 : w4.cell? ⟨q, 0, none⟩ = some (.int .i64 E.uid) := by rw [HB4.out.cell]; rfl
      have e6 : w4.cell? ⟨q, 6, none⟩ = some (.bool E.gone) := by rw [HB4.out.cell]; rfl
      obtain ⟨fl4, hfl4⟩ : ∃ x, x = fl ++ [msgOf E] := ⟨_, rfl⟩
      have hl4 : fl.length + 1 = fl4.length := by rw [hfl4]; simp
      have HF4 := Lib.hid hfl4
      rw [← hfl4] at HX4
      rw [hl4] at HX4 ⊢
      rw [show fl ++ msgOf E :: (if E.gone = true then [goneOf E] else []) = fl4 ++ (if E.gone = true then [goneOf E] else []) from by rw [hfl4]; simp] at HN
      clear hfl4
      cases hg : E.gone with
      | true =>
        rw [hg] at e6 HN
        rw [if_pos rfl] at HN
        clear hg
        go_wp2_with (at_builtin; refine wpList_apps (base := B) recok (by decide) rfl _ _ rfl (.slice p4 fl4.length c4) (.slice (some ⟨w4.heap.size, 0, none⟩) 1 1) fl4.length 1 (fl4.flatMap rC) (rC (goneOf E)) rfl rfl (Frm.ownsRow_keeps HX4.out.1 ((Keeps.refl _).alloc _)) (Frm.rowS_lit rfl rfl rfl) (by simp [rC, recA, Value.oneCell']) (by omega) (by decide) (by rw [Frm.alloc_size]; omega) ?_; intro v' w5 ho5 hg5 hf5; obtain ⟨p5, c5, rfl, -, -⟩ := Frm.ownsRow_form ho5)
        go_roundw
        case rel =>
          refine ⟨j + 1, p5, c5, by simp, by omega, by rw [HN.out]; simp, Lib.hid ⟨?_, ?_, ?_, by have := hg5.size; rw [Frm.alloc_size] at this; omega⟩⟩
          · rw [HN.out]
            have := RecsAt.snoc ho5
            simpa using this
          · exact (HX4.out.2.1.alloc _).grown hg5 (fun k hk => Nat.le_trans hww (Frm.ownsRow_base HX4.out.1 k hk))
          · exact EntsAt.grown (HX4.out.2.2.keeps ((Keeps.refl _).alloc (Obj.cells (rC (goneOf E)).toArray 82))) (Frm.ownsRow_keeps HX4.out.1 ((Keeps.refl _).alloc _)) (by decide) hg5
        case measure =>
          simp only [RowKit.intOf]
          omega
      | false =>
        rw [hg] at e6 HN
        rw [if_neg (by simp), List.append_nil] at HN
        clear hg
        go_wp2_with fail
        go_roundw
        case rel => exact ⟨j + 1, p4, c4, by simp, by omega, by rw [HN.out], Lib.hid (by rw [HN.out]; exact ⟨HX4.out.1, HX4.out.2.1, HX4.out.2.2, hs4⟩)⟩
        case measure =>
          simp only [RowKit.intOf]
          omega
    · obtain rfl : j = F.length := by omega
      rw [List.take_length] at HH ⊢
      go_wp2_with fail
      go_ret
      exact ⟨_, rfl, ⟨HH.out.1.1, HH.out.1.2.imp id (fun ⟨g, cap, cur, hv, hg, r⟩ => ⟨g, cap, cur, hv, Nat.le_trans hww hg, r⟩)⟩, HH.out.2.1⟩

theorem rec_oneR {w : World} {base : Nat} {v : Value} {l : List Rec} (h : RecsAt w base v l) {j : Nat} (hj : j < l.length) : ∃ q cap, v = .slice (some ⟨q, 0, none⟩) l.length cap ∧ w.rangeAt q (j * 12) (recA l[j] (.slice none 0 0)).toList := by
  obtain ⟨q, cap, hv, -, -, -, hc⟩ := Frm.ownsRow_at h (by omega)
  refine ⟨q, cap, hv, fun i x hx => ?_⟩
  have hi : i < 12 := by
    have := (List.getElem?_eq_some_iff.1 hx).1
    simpa [recA] using this
  refine hc (j * 12 + i) x ?_
  rw [flat_get rC_len l j i _ (List.getElem?_eq_getElem hj) hi]
  exact hx
set_option maxRecDepth 100000 in
set_option maxHeartbeats 2000000 in
theorem sameRecs_any (w : World) {ba bb : Nat} {va vb : Value} {L : List Rec} (ha : RecsAt w ba va L) (hb : RecsAt w bb vb L) (hd : ∀ r ∈ L, r.data = []) : Calls Try.prog 144 #[va, vb] w fun e w' => e = .returned (.bool true) ∧ Keeps w w' := by
  obtain ⟨pa, ca, rfl, hc0, hc1⟩ := Frm.ownsRow_form ha
  obtain ⟨pb, cb, rfl, hc2, hc3⟩ := Frm.ownsRow_form hb
  have HA := Lib.hid ha
  have HB := Lib.hid hb
  have HSA : Hid (∀ w, ∀ r ∈ L, Calls Try.prog 194 #[.agg (recA r (.slice none 0 0)), .agg (recA r (.slice none 0 0))] w fun e w' => e = .returned (.bool true) ∧ Keeps w w') := Lib.hid (fun w r hr => by
    have hr0 : Row w (.slice none 0 0) (r.data.map u8v) := by rw [hd r hr]; exact row_nil w
    refine (rSame_any _ _ _ _ w hr0 hr0).mono ?_
    rintro e w' ⟨rfl, hk⟩
    exact ⟨by rw [decide_eq_true rfl], hk⟩)
  clear ha hb hd
  go_enter Try.func144, Try.ntmps144
  go_wp2_with fail
  go_loopw [5] (fun i wr => ∃ j : Nat, i = .int .i64 (j : Int) ∧ j ≤ L.length ∧ Hid (Keeps w wr)) (fun i _ => L.length - (RowKit.intOf i).toNat)
  case atStart => exact ⟨0, rfl, Nat.zero_le _, Lib.hid (Keeps.refl _)⟩
  case round =>
    obtain ⟨j, rfl, hj, HK⟩ := hrel
    by_cases hlt : j < L.length
    · obtain ⟨qa, cap, hv, hra⟩ := rec_oneR (HA.out.keeps HK.out) hlt
      simp only [Value.slice.injEq] at hv
      obtain ⟨rfl, -, rfl⟩ := hv
      obtain ⟨qb, cap, hv, hrb⟩ := rec_oneR (HB.out.keeps HK.out) hlt
      simp only [Value.slice.injEq] at hv
      obtain ⟨rfl, -, rfl⟩ := hv
      have HS := Lib.hid (fun w => HSA.out w L[j] (List.getElem_mem hlt))
      have HRA := Lib.hid hra
      have HRB := Lib.hid hrb
      generalize L[j] = E at *
      clear hra hrb
      go_upto_region 6 with fail
      go_cut [26] (fun t wx => t = .bool false ∧ Keeps wr wx)
      case first =>
        refine wp_region_noPanic ?_
        refine wp_region_held_drew (S := fun w' => Keeps wr w') (by kernel_rfl) ((Keeps.refl wr).drew) (fun _ => ?_)
        have hHeld : Keeps wr (wr).drew := (Keeps.refl wr).drew
        generalize World.drew wr = xs at *
        refine wpAnyH_take (i := 0) (v := ?vv1) (by rfl) (by kernel_rfl) (by kernel_rfl) (by kernel_rfl) (by intro _ _ _ h; exact h) (Or.inl ⟨by kernel_rfl, ?hy1⟩) (by assumption) ?rest1
        case hy1 =>
          intro w' hSw
          have hSw : Keeps wr w' := hSw
          clear hSw
          go_simp
          try with_reducible rfl
        change wpAnyH _ _ _ _ _ _ _ (Act.put _ (some 17) _) _
        try simp only [Act.put, List.setIfInBounds_toArray, List.set_cons_zero, List.set_cons_succ]
        refine wpAnyH_take (i := 1) (v := ?vv2) (by rfl) (by kernel_rfl) (by kernel_rfl) (by kernel_rfl) (by intro _ _ _ h; exact h) (Or.inl ⟨by kernel_rfl, ?hy2⟩) (by assumption) ?rest2
        case hy2 =>
          intro w' hSw
          have hSw : Keeps wr w' := hSw
          clear hSw
          go_simp
          try with_reducible rfl
        change wpAnyH _ _ _ _ _ _ _ (Act.put _ (some 18) _) _
        try simp only [Act.put, List.setIfInBounds_toArray, List.set_cons_zero, List.set_cons_succ]
        refine wpAnyH_take (i := 2) (v := ?vv3) (by rfl) (by kernel_rfl) (by kernel_rfl) (by kernel_rfl) (by intro _ _ _ h; exact h) (Or.inl ⟨by kernel_rfl, ?hy3⟩) (by assumption) ?rest3
        case hy3 =>
          intro w' hSw
          have hSw : Keeps wr w' := hSw
          clear hSw
          go_simp
          try with_reducible rfl
        change wpAnyH _ _ _ _ _ _ _ (Act.put _ (some 19) _) _
        try simp only [Act.put, List.setIfInBounds_toArray, List.set_cons_zero, List.set_cons_succ]
        refine wpAnyH_take (i := 3) (by rfl) (by kernel_rfl) (by kernel_rfl) (by kernel_rfl) (by intro _ _ _ h; exact h) (yieldsIf_ldR (by kernel_rfl) recM (fun w' hS => range_keeps' HRA.out hS) _ rfl rfl) (by assumption) ?rest4
        change wpAnyH _ _ _ _ _ _ _ (Act.put _ (some 20) _) _
        try simp only [Act.put, List.setIfInBounds_toArray, List.set_cons_zero, List.set_cons_succ]
        refine wpAnyH_take (i := 4) (v := ?vv5) (by rfl) (by kernel_rfl) (by kernel_rfl) (by kernel_rfl) (by intro _ _ _ h; exact h) (Or.inl ⟨by kernel_rfl, ?hy5⟩) (by assumption) ?rest5
        case hy5 =>
          intro w' hSw
          have hSw : Keeps wr w' := hSw
          clear hSw
          go_simp
          try with_reducible rfl
        change wpAnyH _ _ _ _ _ _ _ (Act.put _ (some 21) _) _
        try simp only [Act.put, List.setIfInBounds_toArray, List.set_cons_zero, List.set_cons_succ]
        refine wpAnyH_take (i := 5) (v := ?vv6) (by rfl) (by kernel_rfl) (by kernel_rfl) (by kernel_rfl) (by intro _ _ _ h; exact h) (Or.inl ⟨by kernel_rfl, ?hy6⟩) (by assumption) ?rest6
        case hy6 =>
          intro w' hSw
          have hSw : Keeps wr w' := hSw
          clear hSw
          go_simp
          try with_reducible rfl
        change wpAnyH _ _ _ _ _ _ _ (Act.put _ (some 22) _) _
        try simp only [Act.put, List.setIfInBounds_toArray, List.set_cons_zero, List.set_cons_succ]
        refine wpAnyH_take (i := 6) (v := ?vv7) (by rfl) (by kernel_rfl) (by kernel_rfl) (by kernel_rfl) (by intro _ _ _ h; exact h) (Or.inl ⟨by kernel_rfl, ?hy7⟩) (by assumption) ?rest7
        case hy7 =>
          intro w' hSw
          have hSw : Keeps wr w' := hSw
          clear hSw
          go_simp
          try with_reducible rfl
        change wpAnyH _ _ _ _ _ _ _ (Act.put _ (some 23) _) _
        try simp only [Act.put, List.setIfInBounds_toArray, List.set_cons_zero, List.set_cons_succ]
        refine wpAnyH_take (i := 7) (by rfl) (by kernel_rfl) (by kernel_rfl) (by kernel_rfl) (by intro _ _ _ h; exact h) (yieldsIf_ldR (by kernel_rfl) recM (fun w' hS => range_keeps' HRB.out hS) _ rfl rfl) (by assumption) ?rest8
        change wpAnyH _ _ _ _ _ _ _ (Act.put _ (some 24) _) _
        try simp only [Act.put, List.setIfInBounds_toArray, List.set_cons_zero, List.set_cons_succ]
        refine wpAnyH_ready (rs := [8]) (by kernel_rfl) (by simp) ?_
        refine AllReadyH.cons (o := _) rfl (fun K hK => ?_) ?_
        · go_simp
          refine (HS.out _).mono ?_
          rintro e z ⟨rfl, hk⟩
          have hb := hHeld.trans hk
          clear hk
          go_wp2_with fail
          refine hK.out _ _ hb (fun _ => ?_)
          clear hK K hHeld
          have hHeld : Keeps wr z := hb
          clear hb
          try simp only [Act.put, List.setIfInBounds_toArray, List.set_cons_zero, List.set_cons_succ]
          refine wpAnyH_take (i := 9) (v := ?vv9) (by rfl) (by kernel_rfl) (by kernel_rfl) (by kernel_rfl) (by intro _ _ _ h; exact h) (Or.inl ⟨by kernel_rfl, ?hy9⟩) (by assumption) ?rest9
          case hy9 =>
            intro w' hSw
            have hSw : Keeps wr w' := hSw
            clear hSw
            go_simp
            try with_reducible rfl
          change wpAnyH _ _ _ _ _ _ _ (Act.put _ (some 26) _) _
          try simp only [Act.put, List.setIfInBounds_toArray, List.set_cons_zero, List.set_cons_succ]
          refine wpAnyH_done (by kernel_rfl) ?_ _
          refine NoPanic.normal ?_
          go_wp2_with fail
          go_meet
          exact ⟨rfl, hHeld⟩
        exact AllReadyH.nil
      case rest =>
      obtain ⟨rfl, hkc⟩ := hcut
      go_wp2_with fail
      go_roundw
      case rel => exact ⟨j + 1, by simp, by omega, Lib.hid (HK.out.trans hkc)⟩
      case measure =>
        simp only [RowKit.intOf]
        omega
    · go_wp2_with fail
      go_ret
      exact ⟨rfl, HK.out⟩
end Mbx
end Go.Proofs.Ytohchhgheeolpaa

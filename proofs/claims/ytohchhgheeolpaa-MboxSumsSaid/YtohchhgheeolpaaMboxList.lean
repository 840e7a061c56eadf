/- mbox.List. -/
import Derived.Test.YtohchhgheeolpaaMboxKeys
import Derived.Test.YtohchhgheeolpaaMboxAwake
import Derived.Test.YtohchhgheeolpaaMboxListPlain
import Derived.Test.YtohchhgheeolpaaFrameAwake
namespace Go.Proofs.Ytohchhgheeolpaa
open Go.RowKit
namespace Mbx
open Rcd Go.Maps

def entC (e : Ent) : List Value := (entA e).toList
theorem entC_len (e : Ent) : (entC e).length = 7 := rfl
/-- a slice of entries, of the call's own -/
def EntsAt (w : World) (base : Nat) (v : Value) (l : List Ent) : Prop := w.ownsRow base 85 7 v l.length (l.flatMap entC)
theorem EntsAt.nil (w : World) (base : Nat) : EntsAt w base (.slice none 0 0) [] := World.ownsRow_nil w base _ 7
theorem EntsAt.keeps {w w' : World} {base : Nat} {v : Value} {l : List Ent} (h : EntsAt w base v l) (k : Keeps w w') : EntsAt w' base v l := Frm.ownsRow_keeps h k
theorem EntsAt.mods {w w' : World} {base : Nat} {v : Value} {l : List Ent} {S : Nat → Prop} (h : EntsAt w base v l) (k : Mods S w w') (hn : ∀ x, S x → x < base) : EntsAt w' base v l := Frm.ownsRow_mods h k (fun x hx hs => by have := Frm.ownsRow_base h x hx; have := hn x hs; omega)
theorem EntsAt.snoc {w : World} {base : Nat} {v : Value} {l : List Ent} {e : Ent} (h : w.ownsRow base 85 7 v (l.length + 1) (l.flatMap entC ++ entC e)) : EntsAt w base v (l ++ [e]) := by
  unfold EntsAt
  simpa using h
theorem entok : ElemOkS Try.prog 79 85 7 56 := elemOkS (z := .agg #[.int .i64 0, .int .i64 0, .int .i64 0, .int .i64 0, .int .i64 0, .int .i64 0, .bool false]) Try.underlying79 (by kernel_rfl) rfl

/-- an append to a slice of other elements leaves a slice as it was -/
theorem own_grown {w w' : World} {base base2 C2 n2 : Nat} {e e2 : TypeId} {v v2 : Value} {l xs2 : List Value} (h : Own w base e v l) (h2 : w.ownsRow base2 e2 C2 v2 n2 xs2) (hne : e2 ≠ e) (hg : w.grownBy w' v2.ownBlock) : Own w' base e v l :=
  h.mods ((Mods.refl (fun x => v2.ownBlock = some x) w).grown hg (fun k hk _ => hk)) (fun x hx hs => by
    rcases h.2 with ⟨rfl, _⟩ | ⟨g, cap, cur, rfl, _, hgg, _⟩
    · simp [Value.ownBlock] at hx
    · simp [Value.ownBlock] at hx
      subst hx
      exact Frm.ownsRow_ty h2 hne g hs _ _ hgg)
/-- the entries that are asked for -/
def filt (gone : Bool) (L : List Ent) : List Ent := L.filter fun e => gone || !e.gone
theorem filt_next (gone : Bool) (L : List Ent) {j : Nat} (hj : j < L.length) : filt gone (L.take (j + 1)) = filt gone (L.take j) ++ if gone || !L[j].gone then [L[j]] else [] := by
  rw [List.take_succ_eq_append_getElem hj]
  unfold filt
  rw [List.filter_append]
  congr 1
  simp only [List.filter_cons, List.filter_nil]
theorem filt_le (gone : Bool) (L : List Ent) : (filt gone L).length ≤ L.length := List.length_filter_le _ _
theorem filt_true (L : List Ent) : filt true L = L := by unfold filt; simp

theorem uids_nodup {L : List Ent} (h : Asc L) : (L.map (·.uid)).Nodup := by
  refine List.pairwise_map.2 (h.imp fun {a b} hab => ?_)
  show a.uid ≠ b.uid
  omega
theorem mem_uids {L : List Ent} (x : Int) : x ∈ L.map (·.uid) ↔ (at_ L x).isSome = true := by
  unfold at_
  rw [List.find?_isSome]
  simp
theorem sorted_uids {w : World} {b nn : Nat} {D : DataW Unit} {m : Box} {L : List Ent} (ho : w.ownsMap Try.prog 3 entElem b nn D) (hr : Reads D m.ent entD) (hR : Rel m L) {ss : List Int} (hs : ss.Perm (intKeys D)) : ss.mergeSort leI = L.map (·.uid) := by
  have hc : CollectedI D (fun _ => false) (L.map (·.uid)) := ⟨uids_nodup hR.asc, fun x => by rw [mem_uids, ← hR.ent, ← (hr.2 x).1]; simp⟩
  have hp := hc.perm ho intKeyed Try.underlying3 (fun _ => rfl)
  rw [mergeSort_of_perm_i (hs.trans hp.symm)]
  refine List.mergeSort_of_pairwise ?_
  refine List.pairwise_map.2 (hR.asc.imp fun {a b} hab => ?_)
  simp only [leI, decide_eq_true_eq]
  omega
theorem Rel.len_le {w : World} {g b1 b2 n : Nat} {m : Box} {L : List Ent} (h : BoxAt w g b1 b2 n m) (hR : Rel m L) : L.length ≤ n := by
  obtain ⟨D, ho, hr⟩ := h.ent
  have hc : CollectedI D (fun _ => false) (L.map (·.uid)) := ⟨uids_nodup hR.asc, fun x => by rw [mem_uids, ← hR.ent, ← (hr.2 x).1]; simp⟩
  have hp := (hc.perm ho intKeyed Try.underlying3 (fun _ => rfl)).length_eq
  have := ho.size_le
  obtain ⟨es, rfl⟩ := hr.1
  simp [intKeys, Maps.size] at hp this
  omega
def ListDid (W : World) (l : List Ent) (e : Ending) (w' : World) : Prop := ∃ v, e = .returned v ∧ EntsAt w' W.heap.size v l ∧ Keeps W w'

set_option maxRecDepth 100000 in
set_option maxHeartbeats 1000000 in
theorem list_any (w : World) {g b1 b2 n : Nat} {m : Box} {L : List Ent} (h : BoxAt w g b1 b2 n m) (hn : n ≤ 900000) (hR : Rel m L) (hwf : ∀ e ∈ L, (Lit.int .i64 e.uid).wf = true) (gone : Bool) : Calls Try.prog 49 #[.pointer (some ⟨g, 0, none⟩), .bool gone] w (ListDid w (filt gone L)) := by
  have HB := Lib.hid h
  have HWF := Lib.hid hwf
  have hlen := Rel.len_le h hR
  obtain ⟨D, ho, hr⟩ := h.ent
  have HSR := Lib.hid (fun ss hs => sorted_uids ho hr hR (ss := ss) hs)
  have HSO := Lib.hid (sortedEnt_any b1 n D entElem w ho (by omega))
  have HAT : Hid (∀ j (hj : j < L.length), m.ent L[j].uid = some L[j]) := Lib.hid (fun j hj => by rw [hR.ent]; exact at_mem hR.asc _ (List.getElem_mem hj))
  obtain ⟨c0, -⟩ := h.cells
  unfold ListDid
  clear h ho hr hR hwf
  go_enter Try.func49, Try.ntmps49
  go_wp2_with fail
  refine (keysEnt_any _ _).mono ?_
  rintro e w1 ⟨rfl, rfl⟩
  go_wp2_with fail
  refine HSO.out.mono ?_
  rintro e w1 ⟨v, ss, rfl, hss, hown, hk⟩
  rw [HSR.out ss hss] at hown
  obtain ⟨pk, ck, hv, -, -⟩ := hown.row.form
  rw [List.length_map, List.length_map] at hv
  subst hv
  have HO := Lib.hid hown
  have HK := Lib.hid hk
  clear hown hk hss c0 HSR HSO
  go_wp2_with fail
  go_loopw [5, 16] (fun vv i wr => ∃ (j : Nat) (p : Option Addr) (c : Nat), i = .int .i64 (j : Int) ∧ j ≤ L.length ∧ vv = .slice p (filt gone (L.take j)).length c ∧ Hid (EntsAt wr w.heap.size (.slice p (filt gone (L.take j)).length c) (filt gone (L.take j)) ∧ Keeps w wr ∧ Own wr w.heap.size 3 (.slice pk L.length ck) ((L.map (·.uid)).map encZ))) (fun _ i _ => L.length - (RowKit.intOf i).toNat)
  case atStart => exact ⟨0, none, 0, rfl, Nat.zero_le _, rfl, Lib.hid ⟨EntsAt.nil _ _, HK.out, HO.out⟩⟩
  case round =>
    obtain ⟨j, p, c, rfl, hj, rfl, HH⟩ := hrel
    clear HO HK
    by_cases hlt : j < L.length
    · obtain ⟨gk, ck', hv, -, -, -⟩ := Own.form HH.out.2.2 (by simp; omega)
      simp only [List.length_map, Value.slice.injEq] at hv
      obtain ⟨rfl, -, rfl⟩ := hv
      have k0 : wr.cell? ⟨gk, j, none⟩ = some (.int .i64 L[j].uid) := Own.cellAt HH.out.2.2 j _ (by simp [List.getElem?_eq_getElem hlt])
      have hl1 := (HB.out.keeps HH.out.2.1).look1 (HWF.out L[j] (List.getElem_mem hlt))
      rw [HAT.out j hlt] at hl1
      simp only [Option.getD_some] at hl1
      obtain ⟨c0, -⟩ := (HB.out.keeps HH.out.2.1).cells
      have HN := Lib.hid (filt_next gone L hlt)
      have hfl : (filt gone (L.take j)).length ≤ L.length := Nat.le_trans (filt_le _ _) (by simp; omega)
      generalize L[j] = E at *
      generalize filt gone (L.take j) = fl at *
      unfold entV at hl1
      go_upto_region 6 with fail
      generalize hW : World.alloc wr _ = wy
      have HKy := Lib.hid (show Keeps wr wy from by rw [← hW]; exact (Keeps.refl _).alloc _)
      have HE := Lib.hid (show Blk wy wr.heap.size 85 (entA E) from by rw [← hW]; exact Blk.new _ _ _ rfl)
      clear hW k0 c0 hl1
      generalize wr.heap.size = q at *
      have e6 : wy.cell? ⟨q, 6, none⟩ = some (.bool E.gone) := by rw [HE.out.cell]; rfl
      have HHs := Lib.hid (show EntsAt wy w.heap.size (.slice p fl.length c) fl ∧ Keeps w wy ∧ Own wy w.heap.size 3 (.slice (some ⟨gk, 0, none⟩) L.length ck) ((L.map (·.uid)).map encZ) from ⟨HH.out.1.keeps HKy.out, HH.out.2.1.trans HKy.out, HH.out.2.2.keeps HKy.out⟩)
      clear HH HKy
      generalize hgo : E.gone = eg at *
      have HG := Lib.hid hgo
      clear hgo
      go_cut [31] (fun t wx => t = .bool (gone || !eg) ∧ wx = wy)
      case first =>
        cases gone with
        | true =>
          go_wp2_with fail
          go_meet
          exact ⟨rfl, rfl⟩
        | false =>
          go_wp2_with fail
          go_meet
          exact ⟨rfl, rfl⟩
      case rest =>
      obtain ⟨rfl, rfl⟩ := hcut
      obtain ⟨wy, rfl⟩ : ∃ wz : World, wz = wc := ⟨_, rfl⟩
      clear e6
      unfold entA at HE
      generalize (gone || !eg) = ok at *
      cases ok with
      | true =>
        rw [if_pos rfl] at HN
        have hsz := HHs.out.2.1.size
        go_wp2_with (first
          | refine wpList_ld rfl entM HE.out _ rfl rfl ?_
          | (at_builtin; go_loud (refine wpList_apps (base := w.heap.size) entok (by decide) rfl _ _ rfl (.slice p fl.length c) (.slice (some ⟨wy.heap.size, 0, none⟩) 1 1) fl.length 1 (fl.flatMap entC) (entC E) rfl rfl (Frm.ownsRow_keeps HHs.out.1 ((Keeps.refl _).alloc _)) (Frm.rowS_lit rfl rfl rfl) (by simp [entC, entA, Value.oneCell']) (by omega) (by decide) (by rw [Frm.alloc_size]; omega) ?_; intro v' w4 ho4 hg4 hf4; obtain ⟨p4, c4, rfl, -, -⟩ := Frm.ownsRow_form ho4)))
        go_roundw
        case rel =>
          refine ⟨j + 1, p4, c4, by simp, by omega, by rw [HN.out]; simp, Lib.hid ⟨?_, ?_, ?_⟩⟩
          · rw [HN.out]
            have := EntsAt.snoc ho4
            simpa using this
          · exact (HHs.out.2.1.alloc _).grown hg4 (Frm.ownsRow_base HHs.out.1)
          · exact own_grown (HHs.out.2.2.keeps ((Keeps.refl _).alloc _)) (Frm.ownsRow_keeps HHs.out.1 ((Keeps.refl _).alloc _)) (by decide) hg4
        case measure =>
          simp only [RowKit.intOf]
          omega
      | false =>
        rw [if_neg (by simp), List.append_nil] at HN
        go_wp2_with fail
        go_roundw
        case rel => exact ⟨j + 1, p, c, by simp, by omega, by rw [HN.out], Lib.hid (by rw [HN.out]; exact HHs.out)⟩
        case measure =>
          simp only [RowKit.intOf]
          omega
    · obtain rfl : j = L.length := by omega
      rw [List.take_length] at HH ⊢
      go_wp2_with fail
      go_ret
      exact ⟨_, rfl, HH.out.1, HH.out.2.1⟩
end Mbx
end Go.Proofs.Ytohchhgheeolpaa

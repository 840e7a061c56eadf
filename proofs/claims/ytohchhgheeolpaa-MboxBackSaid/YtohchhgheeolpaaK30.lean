/- Several texts in one: MboxRecs, MboxBkPlain. -/
import Derived.Test.YtohchhgheeolpaaK29
import Derived.Test.YtohchhgheeolpaaK26
import Derived.Test.YtohchhgheeolpaaK12
/- mbox.Records; ref20.Records, SameRecs. -/
namespace Go.Proofs.Ytohchhgheeolpaa
open Go.RowKit
namespace Mbx
open Rcd Go.Maps

def rC (r : Rec) : List Value := (recA r (.slice none 0 0)).toList
theorem rC_len (r : Rec) : (rC r).length = 12 := rfl
/-- a slice of records without data, of the call's own -/
def RecsAt (w : World) (base : Nat) (v : Value) (l : List Rec) : Prop := w.ownsRow base 82 12 v l.length (l.flatMap rC)
theorem RecsAt.nil (w : World) (base : Nat) : RecsAt w base (.slice none 0 0) [] := World.ownsRow_nil w base _ 12
theorem RecsAt.keeps {w w' : World} {base : Nat} {v : Value} {l : List Rec} (h : RecsAt w base v l) (k : Keeps w w') : RecsAt w' base v l := Frm.ownsRow_keeps h k
theorem RecsAt.snoc {w : World} {base : Nat} {v : Value} {l : List Rec} {r : Rec} (h : w.ownsRow base 82 12 v (l.length + 1) (l.flatMap rC ++ rC r)) : RecsAt w base v (l ++ [r]) := by
  unfold RecsAt
  simpa using h
theorem recok : ElemOkS Try.prog 75 82 12 112 := elemOkS (z := .agg zero12) Try.underlying75 (by kernel_rfl) rfl
def msgOf (e : Ent) : Rec := ⟨2, 0, 0, 0, 0, e.uid, e.time, e.flags, e.body, e.size, e.origin, []⟩
def goneOf (e : Ent) : Rec := ⟨3, 0, 0, 0, 0, e.uid, 0, 0, 0, 0, 0, []⟩
def recsOf (l : List Ent) : List Rec := l.flatMap fun e => msgOf e :: if e.gone then [goneOf e] else []
theorem recsOf_next (l : List Ent) {j : Nat} (hj : j < l.length) : recsOf (l.take (j + 1)) = recsOf (l.take j) ++ msgOf l[j] :: if l[j].gone then [goneOf l[j]] else [] := by
  rw [List.take_succ_eq_append_getElem hj]
  unfold recsOf
  rw [List.flatMap_append]
  simp only [List.flatMap_cons, List.flatMap_nil, List.append_nil]
theorem recsOf_le (l : List Ent) : (recsOf l).length ≤ 2 * l.length := by
  unfold recsOf
  induction l with
  | nil => exact Nat.le_refl _
  | cons e l ih => simp only [List.flatMap_cons, List.length_append, List.length_cons]; split <;> simp only [List.length_cons, List.length_nil] <;> omega
/-- an append to a slice of records leaves entries as they were -/
theorem EntsAt.grown {w w' : World} {base base2 C2 n2 : Nat} {e2 : TypeId} {v v2 : Value} {l : List Ent} {xs2 : List Value} (h : EntsAt w base v l) (h2 : w.ownsRow base2 e2 C2 v2 n2 xs2) (hne : e2 ≠ 85) (hg : w.grownBy w' v2.ownBlock) : EntsAt w' base v l :=
  Frm.ownsRow_mods h ((Mods.refl (fun x => v2.ownBlock = some x) w).grown hg (fun k hk _ => hk)) (fun x hx hs => by
    rcases h.2 with ⟨rfl, _⟩ | ⟨g, cap, cur, rfl, _, hgg, _⟩
    · simp [Value.ownBlock] at hx
    · simp [Value.ownBlock] at hx
      subst hx
      exact Frm.ownsRow_ty h2 hne g hs _ _ hgg)
def RecsDid (W : World) (l : List Rec) (e : Ending) (w' : World) : Prop := ∃ v, e = .returned v ∧ RecsAt w' W.heap.size v l ∧ Keeps W w'

set_option maxRecDepth 100000 in
set_option maxHeartbeats 4000000 in
theorem records_any (w : World) {g b1 b2 n : Nat} {m : Box} {L : List Ent} (h : BoxAt w g b1 b2 n m) (hn : n ≤ 900000) (hR : Rel m L) (hwf : ∀ e ∈ L, (Lit.int .i64 e.uid).wf = true) (gone : Bool) : Calls Try.prog 60 #[.pointer (some ⟨g, 0, none⟩), .bool gone] w (RecsDid w (recsOf (filt gone L))) := by
  have hlL := Rel.len_le h hR
  have HLI := Lib.hid (list_any w h hn hR hwf gone)
  clear h hR hwf
  unfold RecsDid
  have hlen : (filt gone L).length ≤ 900000 := Nat.le_trans (filt_le _ _) (by omega)
  generalize filt gone L = F at *
  go_enter Try.func60, Try.ntmps60
  have HKK := Lib.hid (Keeps.refl w)
  go_wp2_with fail
  refine HLI.out.mono ?_
  rintro e w2 ⟨v, rfl, hen, hk⟩
  obtain ⟨B, hB⟩ : ∃ B, B = w.heap.size := ⟨_, rfl⟩
  rw [← hB] at hen
  have hww : w.heap.size ≤ B := by omega
  obtain ⟨pk, ck, rfl, -, -⟩ := Frm.ownsRow_form hen
  have HK := Lib.hid (HKK.out.trans hk)
  have hBs : B ≤ w2.heap.size := by have := hk.size; omega
  have HO := Lib.hid hen
  clear hen hk HKK HLI
  go_wp2_with fail
  go_loopw [5, 12] (fun vv i wr => ∃ (j : Nat) (p : Option Addr) (c : Nat), i = .int .i64 (j : Int) ∧ j ≤ F.length ∧ vv = .slice p (recsOf (F.take j)).length c ∧ Hid (RecsAt wr B (.slice p (recsOf (F.take j)).length c) (recsOf (F.take j)) ∧ Keeps w wr ∧ EntsAt wr B (.slice pk F.length ck) F ∧ B ≤ wr.heap.size)) (fun _ i _ => F.length - (RowKit.intOf i).toNat)
  case atStart => exact ⟨0, none, 0, rfl, Nat.zero_le _, rfl, Lib.hid ⟨RecsAt.nil _ _, HK.out, HO.out, hBs⟩⟩
  case round =>
    obtain ⟨j, p, c, rfl, hj, rfl, HH⟩ := hrel
    clear HO HK
    by_cases hlt : j < F.length
    · obtain ⟨bk, ok', cap, hv, hra⟩ := (EntsAt.r HH.out.2.2.1).one hlt
      simp only [Value.slice.injEq] at hv
      obtain ⟨rfl, -, rfl⟩ := hv
      have HRR := Lib.hid hra
      have HN := Lib.hid (recsOf_next F hlt)
      have hfl := recsOf_le (F.take j)
      rw [List.length_take] at hfl
      generalize hfe : recsOf (F.take j) = fl at *
      clear hra hfe
      generalize F[j] = E at *
      have HR := Lib.hid (show wr.rangeAt bk (ok' + j * 7) [.int .i64 E.uid, .int .i64 E.time, .int .i64 E.flags, .int .i64 E.body, .int .i64 E.size, .int .i64 E.origin, .bool E.gone] from HRR.out)
      go_upto_region 5 with (refine wpList_ldR rfl entM HR.out _ rfl rfl ?_)
      generalize hW : World.alloc wr _ = wy
      have HKy := Lib.hid (show Keeps wr wy from by rw [← hW]; exact (Keeps.refl _).alloc _)
      have HE := Lib.hid (show Blk wy wr.heap.size 85 (entA E) from by rw [← hW]; exact Blk.new _ _ _ rfl)
      clear hW HR HRR
      have hsy : B ≤ wy.heap.size := Nat.le_trans HH.out.2.2.2 HKy.out.size
      generalize wr.heap.size = q at *
      have e0 : wy.cell? ⟨q, 0, none⟩ = some (.int .i64 E.uid) := by rw [HE.out.cell]; rfl
      have e1 : wy.cell? ⟨q, 1, none⟩ = some (.int .i64 E.time) := by rw [HE.out.cell]; rfl
      have e2 : wy.cell? ⟨q, 2, none⟩ = some (.int .i64 E.flags) := by rw [HE.out.cell]; rfl
      have e3 : wy.cell? ⟨q, 3, none⟩ = some (.int .i64 E.body) := by rw [HE.out.cell]; rfl
      have e4 : wy.cell? ⟨q, 4, none⟩ = some (.int .i64 E.size) := by rw [HE.out.cell]; rfl
      have e5 : wy.cell? ⟨q, 5, none⟩ = some (.int .i64 E.origin) := by rw [HE.out.cell]; rfl
      have HX := Lib.hid (show RecsAt wy B (.slice p fl.length c) fl ∧ Keeps w wy ∧ EntsAt wy B (.slice (some ⟨bk, ok', none⟩) F.length ck) F from ⟨HH.out.1.keeps HKy.out, HH.out.2.1.trans HKy.out, HH.out.2.2.1.keeps HKy.out⟩)
      have hsz := HX.out.2.1.size
      clear HH HKy
      go_upto_region 6 with (at_builtin; refine wpList_apps (base := B) recok (by decide) rfl _ _ rfl (.slice p fl.length c) (.slice (some ⟨wy.heap.size, 0, none⟩) 1 1) fl.length 1 (fl.flatMap rC) (rC (msgOf E)) rfl rfl (Frm.ownsRow_keeps HX.out.1 ((Keeps.refl _).alloc _)) (Frm.rowS_lit rfl rfl rfl) (by simp [rC, recA, Value.oneCell']) (by omega) (by decide) (by rw [Frm.alloc_size]; omega) ?_; intro v' w4 ho4 hg4 hf4; obtain ⟨p4, c4, rfl, -, -⟩ := Frm.ownsRow_form ho4)
      have hk4 : Keeps w w4 := (HX.out.2.1.alloc _).grown hg4 (fun k hk => Nat.le_trans hww (Frm.ownsRow_base HX.out.1 k hk))
      have hq4 : Blk w4 q 85 (entA E) := by
        have hb := HE.out.alloc (Obj.cells (rC (msgOf E)).toArray 82)
        exact hb.grown hg4 (Frm.ownsRow_ne (Frm.ownsRow_keeps HX.out.1 ((Keeps.refl _).alloc _)) hb (by decide))
      have he4 : EntsAt w4 B (.slice (some ⟨bk, ok', none⟩) F.length ck) F := EntsAt.grown (HX.out.2.2.keeps ((Keeps.refl _).alloc (Obj.cells (rC (msgOf E)).toArray 82))) (Frm.ownsRow_keeps HX.out.1 ((Keeps.refl _).alloc _)) (by decide) hg4
      have hs4 : B ≤ w4.heap.size := by have := hg4.size; rw [Frm.alloc_size] at this; omega
      have HX4 := Lib.hid (show RecsAt w4 B (.slice p4 (fl.length + 1) c4) (fl ++ [msgOf E]) ∧ Keeps w w4 ∧ EntsAt w4 B (.slice (some ⟨bk, ok', none⟩) F.length ck) F from ⟨RecsAt.snoc ho4, hk4, he4⟩)
      have HB4 := Lib.hid hq4
      clear HX HE e0 e1 e2 e3 e4 e5 ho4 hg4 hf4 hk4 hq4 he4 hsz hsy
      have e0 : w4.cell? ⟨q, 0, none⟩ = some (.int .i64 E.uid) := by rw [HB4.out.cell]; rfl
      have e6 : w4.cell? ⟨q, 6, none⟩ = some (.bool E.gone) := by rw [HB4.out.cell]; rfl
      obtain ⟨fl4, hfl4⟩ : ∃ x, x = fl ++ [msgOf E] := ⟨_, rfl⟩
      have hl4 : fl.length + 1 = fl4.length := by rw [hfl4]; simp
      have HF4 := Lib.hid hfl4
      rw [← hfl4] at HX4
      rw [hl4] at HX4 ⊢
      rw [show fl ++ msgOf E :: (if E.gone = true then [goneOf E] else []) = fl4 ++ (if E.gone = true then [goneOf E] else []) from by rw [hfl4]; simp] at HN
      clear hfl4
      cases hg : E.gone with
      | true =>
        rw [hg] at e6 HN
        rw [if_pos rfl] at HN
        clear hg
        go_wp2_with (at_builtin; refine wpList_apps (base := B) recok (by decide) rfl _ _ rfl (.slice p4 fl4.length c4) (.slice (some ⟨w4.heap.size, 0, none⟩) 1 1) fl4.length 1 (fl4.flatMap rC) (rC (goneOf E)) rfl rfl (Frm.ownsRow_keeps HX4.out.1 ((Keeps.refl _).alloc _)) (Frm.rowS_lit rfl rfl rfl) (by simp [rC, recA, Value.oneCell']) (by omega) (by decide) (by rw [Frm.alloc_size]; omega) ?_; intro v' w5 ho5 hg5 hf5; obtain ⟨p5, c5, rfl, -, -⟩ := Frm.ownsRow_form ho5)
        go_roundw
        case rel =>
          refine ⟨j + 1, p5, c5, by simp, by omega, by rw [HN.out]; simp, Lib.hid ⟨?_, ?_, ?_, by have := hg5.size; rw [Frm.alloc_size] at this; omega⟩⟩
          · rw [HN.out]
            have := RecsAt.snoc ho5
            simpa using this
          · exact (HX4.out.2.1.alloc _).grown hg5 (fun k hk => Nat.le_trans hww (Frm.ownsRow_base HX4.out.1 k hk))
          · exact EntsAt.grown (HX4.out.2.2.keeps ((Keeps.refl _).alloc (Obj.cells (rC (goneOf E)).toArray 82))) (Frm.ownsRow_keeps HX4.out.1 ((Keeps.refl _).alloc _)) (by decide) hg5
        case measure =>
          simp only [RowKit.intOf]
          omega
      | false =>
        rw [hg] at e6 HN
        rw [if_neg (by simp), List.append_nil] at HN
        clear hg
        go_wp2_with fail
        go_roundw
        case rel => exact ⟨j + 1, p4, c4, by simp, by omega, by rw [HN.out], Lib.hid (by rw [HN.out]; exact ⟨HX4.out.1, HX4.out.2.1, HX4.out.2.2, hs4⟩)⟩
        case measure =>
          simp only [RowKit.intOf]
          omega
    · obtain rfl : j = F.length := by omega
      rw [List.take_length] at HH ⊢
      go_wp2_with fail
      go_ret
      exact ⟨_, rfl, ⟨HH.out.1.1, HH.out.1.2.imp id (fun ⟨g, cap, cur, hv, hg, r⟩ => ⟨g, cap, cur, hv, Nat.le_trans hww hg, r⟩)⟩, HH.out.2.1⟩

set_option maxRecDepth 100000 in
set_option maxHeartbeats 4000000 in
theorem rRecords_any (w : World) {v0 : Value} {L : List Ent} (h : EntR w v0 L) (nx : Int) (gone : Bool) (hl : L.length ≤ 900000) : Calls Try.prog 145 #[.agg #[v0, .int .i64 nx], .bool gone] w (RecsDid w (recsOf (filt gone L))) := by
  obtain ⟨p0, c0, rfl, hc0, hc1⟩ := RowS.form h
  have HLI := Lib.hid (fun w1 (k : Keeps w w1) => rList_any w1 (h.keeps k) nx gone hl)
  have hlL := Nat.le_refl L.length
  clear h
  unfold RecsDid
  have hlen : (filt gone L).length ≤ 900000 := Nat.le_trans (filt_le _ _) (by omega)
  generalize filt gone L = F at *
  go_enter Try.func145, Try.ntmps145
  go_upto_region 1 with fail
  generalize hW : World.alloc w _ = w1
  have HKK := Lib.hid (show Keeps w w1 from by rw [← hW]; exact (Keeps.refl _).alloc _)
  have HM := Lib.hid (show Blk w1 w.heap.size 92 #[.slice p0 L.length c0, .int .i64 nx] from by rw [← hW]; exact Blk.new _ _ _ rfl)
  clear hW
  generalize w.heap.size = q0 at *
  go_wp2_with (refine wpList_ld rfl rboxM HM.out _ rfl rfl ?_)
  refine (HLI.out w1 HKK.out).mono ?_
  rintro e w2 ⟨v, rfl, hen, hk⟩
  clear HM
  obtain ⟨B, hB⟩ : ∃ B, B = w1.heap.size := ⟨_, rfl⟩
  rw [← hB] at hen
  have hww : w.heap.size ≤ B := by have := HKK.out.size; omega
  obtain ⟨pk, ck, rfl, -, -⟩ := Frm.ownsRow_form hen
  have HK := Lib.hid (HKK.out.trans hk)
  have hBs : B ≤ w2.heap.size := by have := hk.size; omega
  have HO := Lib.hid hen
  clear hen hk HKK HLI
  go_wp2_with fail
  go_loopw [5, 7] (fun vv i wr => ∃ (j : Nat) (p : Option Addr) (c : Nat), i = .int .i64 (j : Int) ∧ j ≤ F.length ∧ vv = .slice p (recsOf (F.take j)).length c ∧ Hid (RecsAt wr B (.slice p (recsOf (F.take j)).length c) (recsOf (F.take j)) ∧ Keeps w wr ∧ EntsAt wr B (.slice pk F.length ck) F ∧ B ≤ wr.heap.size)) (fun _ i _ => F.length - (RowKit.intOf i).toNat)
  case atStart => exact ⟨0, none, 0, rfl, Nat.zero_le _, rfl, Lib.hid ⟨RecsAt.nil _ _, HK.out, HO.out, hBs⟩⟩
  case round =>
    obtain ⟨j, p, c, rfl, hj, rfl, HH⟩ := hrel
    clear HO HK
    by_cases hlt : j < F.length
    · obtain ⟨bk, ok', cap, hv, hra⟩ := (EntsAt.r HH.out.2.2.1).one hlt
      simp only [Value.slice.injEq] at hv
      obtain ⟨rfl, -, rfl⟩ := hv
      have HRR := Lib.hid hra
      have HN := Lib.hid (recsOf_next F hlt)
      have hfl := recsOf_le (F.take j)
      rw [List.length_take] at hfl
      generalize hfe : recsOf (F.take j) = fl at *
      clear hra hfe
      generalize F[j] = E at *
      have HR := Lib.hid (show wr.rangeAt bk (ok' + j * 7) [.int .i64 E.uid, .int .i64 E.time, .int .i64 E.flags, .int .i64 E.body, .int .i64 E.size, .int .i64 E.origin, .bool E.gone] from HRR.out)
      go_upto_region 7 with (refine wpList_ldR rfl entM HR.out _ rfl rfl ?_)
      generalize hW : World.alloc wr _ = wy
      have HKy := Lib.hid (show Keeps wr wy from by rw [← hW]; exact (Keeps.refl _).alloc _)
      have HE := Lib.hid (show Blk wy wr.heap.size 85 (entA E) from by rw [← hW]; exact Blk.new _ _ _ rfl)
      clear hW HR HRR
      have hsy : B ≤ wy.heap.size := Nat.le_trans HH.out.2.2.2 HKy.out.size
      generalize wr.heap.size = q at *
      have e0 : wy.cell? ⟨q, 0, none⟩ = some (.int .i64 E.uid) := by rw [HE.out.cell]; rfl
      have e1 : wy.cell? ⟨q, 1, none⟩ = some (.int .i64 E.time) := by rw [HE.out.cell]; rfl
      have e2 : wy.cell? ⟨q, 2, none⟩ = some (.int .i64 E.flags) := by rw [HE.out.cell]; rfl
      have e3 : wy.cell? ⟨q, 3, none⟩ = some (.int .i64 E.body) := by rw [HE.out.cell]; rfl
      have e4 : wy.cell? ⟨q, 4, none⟩ = some (.int .i64 E.size) := by rw [HE.out.cell]; rfl
      have e5 : wy.cell? ⟨q, 5, none⟩ = some (.int .i64 E.origin) := by rw [HE.out.cell]; rfl
      have HX := Lib.hid (show RecsAt wy B (.slice p fl.length c) fl ∧ Keeps w wy ∧ EntsAt wy B (.slice (some ⟨bk, ok', none⟩) F.length ck) F from ⟨HH.out.1.keeps HKy.out, HH.out.2.1.trans HKy.out, HH.out.2.2.1.keeps HKy.out⟩)
      have hsz := HX.out.2.1.size
      clear HH HKy
      go_upto_region 8 with (at_builtin; refine wpList_apps (base := B) recok (by decide) rfl _ _ rfl (.slice p fl.length c) (.slice (some ⟨wy.heap.size, 0, none⟩) 1 1) fl.length 1 (fl.flatMap rC) (rC (msgOf E)) rfl rfl (Frm.ownsRow_keeps HX.out.1 ((Keeps.refl _).alloc _)) (Frm.rowS_lit rfl rfl rfl) (by simp [rC, recA, Value.oneCell']) (by omega) (by decide) (by rw [Frm.alloc_size]; omega) ?_; intro v' w4 ho4 hg4 hf4; obtain ⟨p4, c4, rfl, -, -⟩ := Frm.ownsRow_form ho4)
      have hk4 : Keeps w w4 := (HX.out.2.1.alloc _).grown hg4 (fun k hk => Nat.le_trans hww (Frm.ownsRow_base HX.out.1 k hk))
      have hq4 : Blk w4 q 85 (entA E) := by
        have hb := HE.out.alloc (Obj.cells (rC (msgOf E)).toArray 82)
        exact hb.grown hg4 (Frm.ownsRow_ne (Frm.ownsRow_keeps HX.out.1 ((Keeps.refl _).alloc _)) hb (by decide))
      have he4 : EntsAt w4 B (.slice (some ⟨bk, ok', none⟩) F.length ck) F := EntsAt.grown (HX.out.2.2.keeps ((Keeps.refl _).alloc (Obj.cells (rC (msgOf E)).toArray 82))) (Frm.ownsRow_keeps HX.out.1 ((Keeps.refl _).alloc _)) (by decide) hg4
      have hs4 : B ≤ w4.heap.size := by have := hg4.size; rw [Frm.alloc_size] at this; omega
      have HX4 := Lib.hid (show RecsAt w4 B (.slice p4 (fl.length + 1) c4) (fl ++ [msgOf E]) ∧ Keeps w w4 ∧ EntsAt w4 B (.slice (some ⟨bk, ok', none⟩) F.length ck) F from ⟨RecsAt.snoc ho4, hk4, he4⟩)
      have HB4 := Lib.hid hq4
      clear HX HE e0 e1 e2 e3 e4 e5 ho4 hg4 hf4 hk4 hq4 he4 hsz hsy
      have e0 : w4.cell? ⟨q, 0, none⟩ = some (.int .i64 E.uid) := by rw [HB4.out.cell]; rfl
      have e6 : w4.cell? ⟨q, 6, none⟩ = some (.bool E.gone) := by rw [HB4.out.cell]; rfl
      obtain ⟨fl4, hfl4⟩ : ∃ x, x = fl ++ [msgOf E] := ⟨_, rfl⟩
      have hl4 : fl.length + 1 = fl4.length := by rw [hfl4]; simp
      have HF4 := Lib.hid hfl4
      rw [← hfl4] at HX4
      rw [hl4] at HX4 ⊢
      rw [show fl ++ msgOf E :: (if E.gone = true then [goneOf E] else []) = fl4 ++ (if E.gone = true then [goneOf E] else []) from by rw [hfl4]; simp] at HN
      clear hfl4
      cases hg : E.gone with
      | true =>
        rw [hg] at e6 HN
        rw [if_pos rfl] at HN
        clear hg
        go_wp2_with (at_builtin; refine wpList_apps (base := B) recok (by decide) rfl _ _ rfl (.slice p4 fl4.length c4) (.slice (some ⟨w4.heap.size, 0, none⟩) 1 1) fl4.length 1 (fl4.flatMap rC) (rC (goneOf E)) rfl rfl (Frm.ownsRow_keeps HX4.out.1 ((Keeps.refl _).alloc _)) (Frm.rowS_lit rfl rfl rfl) (by simp [rC, recA, Value.oneCell']) (by omega) (by decide) (by rw [Frm.alloc_size]; omega) ?_; intro v' w5 ho5 hg5 hf5; obtain ⟨p5, c5, rfl, -, -⟩ := Frm.ownsRow_form ho5)
        go_roundw
        case rel =>
          refine ⟨j + 1, p5, c5, by simp, by omega, by rw [HN.out]; simp, Lib.hid ⟨?_, ?_, ?_, by have := hg5.size; rw [Frm.alloc_size] at this; omega⟩⟩
          · rw [HN.out]
            have := RecsAt.snoc ho5
            simpa using this
          · exact (HX4.out.2.1.alloc _).grown hg5 (fun k hk => Nat.le_trans hww (Frm.ownsRow_base HX4.out.1 k hk))
          · exact EntsAt.grown (HX4.out.2.2.keeps ((Keeps.refl _).alloc (Obj.cells (rC (goneOf E)).toArray 82))) (Frm.ownsRow_keeps HX4.out.1 ((Keeps.refl _).alloc _)) (by decide) hg5
        case measure =>
          simp only [RowKit.intOf]
          omega
      | false =>
        rw [hg] at e6 HN
        rw [if_neg (by simp), List.append_nil] at HN
        clear hg
        go_wp2_with fail
        go_roundw
        case rel => exact ⟨j + 1, p4, c4, by simp, by omega, by rw [HN.out], Lib.hid (by rw [HN.out]; exact ⟨HX4.out.1, HX4.out.2.1, HX4.out.2.2, hs4⟩)⟩
        case measure =>
          simp only [RowKit.intOf]
          omega
    · obtain rfl : j = F.length := by omega
      rw [List.take_length] at HH ⊢
      go_wp2_with fail
      go_ret
      exact ⟨_, rfl, ⟨HH.out.1.1, HH.out.1.2.imp id (fun ⟨g, cap, cur, hv, hg, r⟩ => ⟨g, cap, cur, hv, Nat.le_trans hww hg, r⟩)⟩, HH.out.2.1⟩

theorem rec_oneR {w : World} {base : Nat} {v : Value} {l : List Rec} (h : RecsAt w base v l) {j : Nat} (hj : j < l.length) : ∃ q cap, v = .slice (some ⟨q, 0, none⟩) l.length cap ∧ w.rangeAt q (j * 12) (recA l[j] (.slice none 0 0)).toList := by
  obtain ⟨q, cap, hv, -, -, -, hc⟩ := Frm.ownsRow_at h (by omega)
  refine ⟨q, cap, hv, fun i x hx => ?_⟩
  have hi : i < 12 := by
    have := (List.getElem?_eq_some_iff.1 hx).1
    simpa [recA] using this
  refine hc (j * 12 + i) x ?_
  rw [flat_get rC_len l j i _ (List.getElem?_eq_getElem hj) hi]
  exact hx
set_option maxRecDepth 100000 in
set_option maxHeartbeats 2000000 in
theorem sameRecs_any (w : World) {ba bb : Nat} {va vb : Value} {L : List Rec} (ha : RecsAt w ba va L) (hb : RecsAt w bb vb L) (hd : ∀ r ∈ L, r.data = []) : Calls Try.prog 144 #[va, vb] w fun e w' => e = .returned (.bool true) ∧ Keeps w w' := by
  obtain ⟨pa, ca, rfl, hc0, hc1⟩ := Frm.ownsRow_form ha
  obtain ⟨pb, cb, rfl, hc2, hc3⟩ := Frm.ownsRow_form hb
  have HA := Lib.hid ha
  have HB := Lib.hid hb
  have HSA : Hid (∀ w, ∀ r ∈ L, Calls Try.prog 194 #[.agg (recA r (.slice none 0 0)), .agg (recA r (.slice none 0 0))] w fun e w' => e = .returned (.bool true) ∧ Keeps w w') := Lib.hid (fun w r hr => by
    have hr0 : Row w (.slice none 0 0) (r.data.map u8v) := by rw [hd r hr]; exact row_nil w
    refine (rSame_any _ _ _ _ w hr0 hr0).mono ?_
    rintro e w' ⟨rfl, hk⟩
    exact ⟨by rw [decide_eq_true rfl], hk⟩)
  clear ha hb hd
  go_enter Try.func144, Try.ntmps144
  go_wp2_with fail
  go_loopw [5] (fun i wr => ∃ j : Nat, i = .int .i64 (j : Int) ∧ j ≤ L.length ∧ Hid (Keeps w wr)) (fun i _ => L.length - (RowKit.intOf i).toNat)
  case atStart => exact ⟨0, rfl, Nat.zero_le _, Lib.hid (Keeps.refl _)⟩
  case round =>
    obtain ⟨j, rfl, hj, HK⟩ := hrel
    by_cases hlt : j < L.length
    · obtain ⟨qa, cap, hv, hra⟩ := rec_oneR (HA.out.keeps HK.out) hlt
      simp only [Value.slice.injEq] at hv
      obtain ⟨rfl, -, rfl⟩ := hv
      obtain ⟨qb, cap, hv, hrb⟩ := rec_oneR (HB.out.keeps HK.out) hlt
      simp only [Value.slice.injEq] at hv
      obtain ⟨rfl, -, rfl⟩ := hv
      have HS := Lib.hid (fun w => HSA.out w L[j] (List.getElem_mem hlt))
      have HRA := Lib.hid hra
      have HRB := Lib.hid hrb
      generalize L[j] = E at *
      clear hra hrb
      go_upto_region 6 with fail
      go_cut [26] (fun t wx => t = .bool false ∧ Keeps wr wx)
      case first =>
        refine wp_region_noPanic ?_
        refine wp_region_held_drew (S := fun w' => Keeps wr w') (by kernel_rfl) ((Keeps.refl wr).drew) (fun _ => ?_)
        have hHeld : Keeps wr (wr).drew := (Keeps.refl wr).drew
        generalize World.drew wr = xs at *
        refine wpAnyH_take (i := 0) (v := ?vv1) (by rfl) (by kernel_rfl) (by kernel_rfl) (by kernel_rfl) (by intro _ _ _ h; exact h) (Or.inl ⟨by kernel_rfl, ?hy1⟩) (by assumption) ?rest1
        case hy1 =>
          intro w' hSw
          have hSw : Keeps wr w' := hSw
          clear hSw
          go_simp
          try with_reducible rfl
        change wpAnyH _ _ _ _ _ _ _ (Act.put _ (some 17) _) _
        try simp only [Act.put, List.setIfInBounds_toArray, List.set_cons_zero, List.set_cons_succ]
        refine wpAnyH_take (i := 1) (v := ?vv2) (by rfl) (by kernel_rfl) (by kernel_rfl) (by kernel_rfl) (by intro _ _ _ h; exact h) (Or.inl ⟨by kernel_rfl, ?hy2⟩) (by assumption) ?rest2
        case hy2 =>
          intro w' hSw
          have hSw : Keeps wr w' := hSw
          clear hSw
          go_simp
          try with_reducible rfl
        change wpAnyH _ _ _ _ _ _ _ (Act.put _ (some 18) _) _
        try simp only [Act.put, List.setIfInBounds_toArray, List.set_cons_zero, List.set_cons_succ]
        refine wpAnyH_take (i := 2) (v := ?vv3) (by rfl) (by kernel_rfl) (by kernel_rfl) (by kernel_rfl) (by intro _ _ _ h; exact h) (Or.inl ⟨by kernel_rfl, ?hy3⟩) (by assumption) ?rest3
        case hy3 =>
          intro w' hSw
          have hSw : Keeps wr w' := hSw
          clear hSw
          go_simp
          try with_reducible rfl
        change wpAnyH _ _ _ _ _ _ _ (Act.put _ (some 19) _) _
        try simp only [Act.put, List.setIfInBounds_toArray, List.set_cons_zero, List.set_cons_succ]
        refine wpAnyH_take (i := 3) (by rfl) (by kernel_rfl) (by kernel_rfl) (by kernel_rfl) (by intro _ _ _ h; exact h) (yieldsIf_ldR (by kernel_rfl) recM (fun w' hS => range_keeps' HRA.out hS) _ rfl rfl) (by assumption) ?rest4
        change wpAnyH _ _ _ _ _ _ _ (Act.put _ (some 20) _) _
        try simp only [Act.put, List.setIfInBounds_toArray, List.set_cons_zero, List.set_cons_succ]
        refine wpAnyH_take (i := 4) (v := ?vv5) (by rfl) (by kernel_rfl) (by kernel_rfl) (by kernel_rfl) (by intro _ _ _ h; exact h) (Or.inl ⟨by kernel_rfl, ?hy5⟩) (by assumption) ?rest5
        case hy5 =>
          intro w' hSw
          have hSw : Keeps wr w' := hSw
          clear hSw
          go_simp
          try with_reducible rfl
        change wpAnyH _ _ _ _ _ _ _ (Act.put _ (some 21) _) _
        try simp only [Act.put, List.setIfInBounds_toArray, List.set_cons_zero, List.set_cons_succ]
        refine wpAnyH_take (i := 5) (v := ?vv6) (by rfl) (by kernel_rfl) (by kernel_rfl) (by kernel_rfl) (by intro _ _ _ h; exact h) (Or.inl ⟨by kernel_rfl, ?hy6⟩) (by assumption) ?rest6
        case hy6 =>
          intro w' hSw
          have hSw : Keeps wr w' := hSw
          clear hSw
          go_simp
          try with_reducible rfl
        change wpAnyH _ _ _ _ _ _ _ (Act.put _ (some 22) _) _
        try simp only [Act.put, List.setIfInBounds_toArray, List.set_cons_zero, List.set_cons_succ]
        refine wpAnyH_take (i := 6) (v := ?vv7) (by rfl) (by kernel_rfl) (by kernel_rfl) (by kernel_rfl) (by intro _ _ _ h; exact h) (Or.inl ⟨by kernel_rfl, ?hy7⟩) (by assumption) ?rest7
        case hy7 =>
          intro w' hSw
          have hSw : Keeps wr w' := hSw
          clear hSw
          go_simp
          try with_reducible rfl
        change wpAnyH _ _ _ _ _ _ _ (Act.put _ (some 23) _) _
        try simp only [Act.put, List.setIfInBounds_toArray, List.set_cons_zero, List.set_cons_succ]
        refine wpAnyH_take (i := 7) (by rfl) (by kernel_rfl) (by kernel_rfl) (by kernel_rfl) (by intro _ _ _ h; exact h) (yieldsIf_ldR (by kernel_rfl) recM (fun w' hS => range_keeps' HRB.out hS) _ rfl rfl) (by assumption) ?rest8
        change wpAnyH _ _ _ _ _ _ _ (Act.put _ (some 24) _) _
        try simp only [Act.put, List.setIfInBounds_toArray, List.set_cons_zero, List.set_cons_succ]
        refine wpAnyH_ready (rs := [8]) (by kernel_rfl) (by simp) ?_
        refine AllReadyH.cons (o := _) rfl (fun K hK => ?_) ?_
        · go_simp
          refine (HS.out _).mono ?_
          rintro e z ⟨rfl, hk⟩
          have hb := hHeld.trans hk
          clear hk
          go_wp2_with fail
          refine hK.out _ _ hb (fun _ => ?_)
          clear hK K hHeld
          have hHeld : Keeps wr z := hb
          clear hb
          try simp only [Act.put, List.setIfInBounds_toArray, List.set_cons_zero, List.set_cons_succ]
          refine wpAnyH_take (i := 9) (v := ?vv9) (by rfl) (by kernel_rfl) (by kernel_rfl) (by kernel_rfl) (by intro _ _ _ h; exact h) (Or.inl ⟨by kernel_rfl, ?hy9⟩) (by assumption) ?rest9
          case hy9 =>
            intro w' hSw
            have hSw : Keeps wr w' := hSw
            clear hSw
            go_simp
            try with_reducible rfl
          change wpAnyH _ _ _ _ _ _ _ (Act.put _ (some 26) _) _
          try simp only [Act.put, List.setIfInBounds_toArray, List.set_cons_zero, List.set_cons_succ]
          refine wpAnyH_done (by kernel_rfl) ?_ _
          refine NoPanic.normal ?_
          go_wp2_with fail
          go_meet
          exact ⟨rfl, hHeld⟩
        exact AllReadyH.nil
      case rest =>
      obtain ⟨rfl, hkc⟩ := hcut
      go_wp2_with fail
      go_roundw
      case rel => exact ⟨j + 1, by simp, by omega, Lib.hid (HK.out.trans hkc)⟩
      case measure =>
        simp only [RowKit.intOf]
        omega
    · go_wp2_with fail
      go_ret
      exact ⟨rfl, HK.out⟩
end Mbx
end Go.Proofs.Ytohchhgheeolpaa

/- The records that a mailbox tells make it again. Plain. -/
namespace Go.Proofs.Ytohchhgheeolpaa.Mbx
open Rcd

theorem chk_msg0 {e : Ent} (h : Good e) : chk (msgOf e) = 0 := by
  have h1 := h.u1; have h2 := h.u2; have h3 := h.t1; have h4 := h.t2; have h5 := h.f1; have h6 := h.f2; have h7 := h.b1; have h8 := h.b2; have h9 := h.s1; have h10 := h.s2; have h11 := h.o1; have h12 := h.o2
  have hw : within (msgOf e) = true := by
    unfold within partsL
    rw [if_neg (by show ¬ (2 : Int) = 1; decide), if_pos (show (msgOf e).kind = 2 from rfl)]
    simp [msgOf, okP, fld, pUid, pFlags, pBody]
    omega
  unfold chk
  rw [if_neg (by show ¬ ((2 : Int) < 1 ∨ 6 < (2 : Int)); decide), hw, if_neg (by simp), if_neg (by show ¬ ((2 : Int) = 6 ∧ _); exact fun h => absurd h.1 (by decide)), if_pos (show msgOf e = bare (msgOf e) from rfl)]
theorem chk_gone0 {e : Ent} (h : Good e) : chk (goneOf e) = 0 := by
  have h1 := h.u1; have h2 := h.u2
  have hw : within (goneOf e) = true := by
    unfold within partsL
    rw [if_neg (by show ¬ (3 : Int) = 1; decide), if_neg (by show ¬ (3 : Int) = 2; decide), if_pos (show (goneOf e).kind = 3 from rfl)]
    simp [goneOf, okP, fld, pUid]
    omega
  unfold chk
  rw [if_neg (by show ¬ ((3 : Int) < 1 ∨ 6 < (3 : Int)); decide), hw, if_neg (by simp), if_neg (by show ¬ ((3 : Int) = 6 ∧ _); exact fun h => absurd h.1 (by decide)), if_pos (show goneOf e = bare (goneOf e) from rfl)]
theorem sums_le {L : List Ent} (h : ∀ e ∈ L, Good e) : 0 ≤ sumS L ∧ sumS L ≤ 32768 * L.length ∧ 0 ≤ cntS L ∧ cntS L ≤ L.length := by
  induction L with
  | nil => simp [sumS, cntS]
  | cons e l ih =>
    have := ih (fun x hx => h x (List.mem_cons_of_mem _ hx))
    have hg := h e (List.mem_cons_self ..)
    have h9 := hg.s1; have h10 := hg.s2
    simp only [sumS, cntS, List.length_cons]
    split <;> omega
theorem dropWhile_none {L : List Ent} {u : Int} (h : ∀ a ∈ L, a.uid < u) : L.takeWhile (fun a => decide (a.uid < u)) = L ∧ L.dropWhile (fun a => decide (a.uid < u)) = [] := by
  induction L with
  | nil => exact ⟨rfl, rfl⟩
  | cons x l ih =>
    have hx := h x (List.mem_cons_self ..)
    obtain ⟨h1, h2⟩ := ih (fun a ha => h a (List.mem_cons_of_mem _ ha))
    rw [List.takeWhile_cons, List.dropWhile_cons, if_pos (by simpa using hx), if_pos (by simpa using hx), h1, h2]
    exact ⟨rfl, rfl⟩
theorem take_msg {A : List Ent} {e : Ent} (hA : ∀ x ∈ A, Good x) (hl : A.length ≤ 1000) (hlt : ∀ a ∈ A, a.uid < e.uid) (he : Good e) : takeL A (msgOf e) = (A ++ [{ e with gone := false }], true) := by
  have hs := sums_le hA
  have hn : at_ A e.uid = none := List.find?_eq_none.2 (fun a ha => by have := hlt a ha; simp; omega)
  have hp : putB (sumS A) (cntS A) e.size = true := by
    have h9 := he.s1; have h10 := he.s2
    simp [putB, addB, sumB]
    omega
  unfold takeL
  rw [if_neg (by rw [chk_msg0 he]; exact fun h => h rfl), if_pos (show (msgOf e).kind = 2 from rfl)]
  rw [show (msgOf e).uid = e.uid from rfl, show (msgOf e).size = e.size from rfl, hn, hp, if_neg (by simp)]
  unfold insL
  rw [show (entOf (msgOf e)).uid = e.uid from rfl, (dropWhile_none hlt).1, (dropWhile_none hlt).2]
  rfl
theorem take_gone {A : List Ent} {e : Ent} (hlt : ∀ a ∈ A, a.uid < e.uid) (he : Good e) (hg : e.gone = true) : takeL (A ++ [{ e with gone := false }]) (goneOf e) = (A ++ [e], true) := by
  have hf : (at_ (A ++ [{ e with gone := false }]) e.uid).filter (fun e => !e.gone) = some { e with gone := false } := by
    unfold at_
    rw [List.find?_append, List.find?_eq_none.2 (fun a ha => by have := hlt a ha; simp; omega)]
    simp
  unfold takeL
  rw [if_neg (by rw [chk_gone0 he]; exact fun h => h rfl), if_neg (by show ¬ (3 : Int) = 2; decide), if_pos (show (goneOf e).kind = 3 from rfl), show (goneOf e).uid = e.uid from rfl, hf]
  simp only
  have := setL_split (p := A) (s := []) (e := { e with gone := false }) (e' := { e with gone := true, flags := 0 }) hlt (by simp)
  rw [this]
  have h0 := he.g hg
  congr 2
  cases e
  simp at h0 hg
  simp [h0, hg]
/-- all are taken -/
def taken (A : List Ent) : List Rec → Prop
  | [] => True
  | r :: l => (takeL A r).2 = true ∧ taken (takeL A r).1 l
theorem taken_get {l : List Rec} : ∀ {A : List Ent}, taken A l → ∀ {j : Nat} (h : j < l.length), (takeL (allL A (l.take j)) l[j]).2 = true := by
  induction l with
  | nil => intro A _ j h; simp at h
  | cons r l ih =>
    intro A ht j h
    cases j with
    | zero => exact ht.1
    | succ j => exact ih ht.2 (by simpa using h)
theorem again : ∀ (l A : List Ent), Asc (A ++ l) → (∀ e ∈ A ++ l, Good e) → (A ++ l).length ≤ 1000 → allL A (recsOf l) = A ++ l ∧ taken A (recsOf l)
  | [], A, _, _, _ => ⟨by simp [recsOf, allL], trivial⟩
  | e :: l, A, ha, hg, hl => by
    obtain ⟨h1, -⟩ := asc_split ha
    have heg := hg e (by simp)
    have hA : ∀ x ∈ A, Good x := fun x hx => hg x (List.mem_append_left _ hx)
    have hlA : A.length ≤ 1000 := by simp at hl; omega
    have ht := take_msg hA hlA h1 heg
    have happ : A ++ e :: l = (A ++ [e]) ++ l := by simp
    obtain ⟨i1, i2⟩ := again l (A ++ [e]) (by rw [← happ]; exact ha) (by rw [← happ]; exact hg) (by rw [← happ]; exact hl)
    have hr : recsOf (e :: l) = msgOf e :: ((if e.gone then [goneOf e] else []) ++ recsOf l) := by simp [recsOf]
    rw [hr, happ]
    cases hgo : e.gone with
    | true =>
      have hg2 := take_gone h1 heg hgo
      simp only [if_true, List.singleton_append, allL, taken, ht, hg2]
      refine ⟨i1, ?_⟩
      simpa using i2
    | false =>
      have he : ({ e with gone := false } : Ent) = e := by cases e; simp at hgo; simp [hgo]
      rw [he] at ht
      simp only [Bool.false_eq_true, if_false, List.nil_append, allL, taken, ht]
      refine ⟨i1, ?_⟩
      simpa using i2
def nx : List Ent → Int
  | [] => 1
  | e :: l => max (e.uid + 1) (nx l)
theorem nx_ge (l : List Ent) : 1 ≤ nx l := by
  induction l with
  | nil => exact Int.le_refl _
  | cons e l ih => simp only [nx]; omega
theorem nx_app (a b : List Ent) : nx (a ++ b) = max (nx a) (nx b) := by
  induction a with
  | nil => have := nx_ge b; simp only [List.nil_append, nx]; omega
  | cons e a ih => simp only [List.cons_append, nx, ih]; omega
theorem nx_map : ∀ {a b : List Ent}, a.map (·.uid) = b.map (·.uid) → nx a = nx b
  | [], [], _ => rfl
  | [], _ :: _, h => by simp at h
  | _ :: _, [], h => by simp at h
  | x :: a, y :: b, h => by
    simp only [List.map_cons, List.cons.injEq] at h
    simp only [nx, h.1, nx_map h.2]
theorem setL_uids {L : List Ent} {u : Int} {e' : Ent} (h : e'.uid = u) : (setL L u e').map (·.uid) = L.map (·.uid) := by
  unfold setL
  rw [List.map_map]
  refine List.map_congr_left fun a _ => ?_
  simp only [Function.comp]
  split
  · rename_i h2; rw [h, h2]
  · rfl
theorem nx_ins (L : List Ent) (e : Ent) : nx (insL L e) = max (nx L) (e.uid + 1) := by
  unfold insL
  have h : nx L = max (nx (L.takeWhile (fun a => decide (a.uid < e.uid)))) (nx (L.dropWhile (fun a => decide (a.uid < e.uid)))) := by rw [← nx_app, List.takeWhile_append_dropWhile]
  rw [nx_app, h]
  simp only [nx]
  omega
theorem nx_take {m : Box} {L : List Ent} (h : Rel m L) (hn : m.next = nx L) (r : Rec) : (take m r).1.next = nx (takeL L r).1 := by
  unfold take takeL
  by_cases hc : chk r ≠ 0
  · rw [if_pos hc, if_pos hc]; exact hn
  rw [if_neg hc, if_neg hc]
  by_cases h2 : r.kind = 2
  · rw [if_pos h2, if_pos h2]
    unfold add
    rw [h.ent, h.ub, h.uc]
    split
    · exact hn
    · rw [nx_ins, ← hn]
      show (if m.next < r.uid + 1 then r.uid + 1 else m.next) = max m.next (r.uid + 1)
      split <;> omega
  rw [if_neg h2, if_neg h2]
  have hlv : ∀ u e, (at_ L u).filter (fun e => !e.gone) = some e → e.uid = u := fun u e hx => by
    rw [Option.filter_eq_some_iff] at hx
    have := List.find?_some hx.1
    simpa using this
  by_cases h3 : r.kind = 3
  · rw [if_pos h3, if_pos h3]
    unfold gone live
    rw [h.ent]
    cases hx : (at_ L r.uid).filter (fun e => !e.gone) with
    | none => exact hn
    | some e =>
      show m.next = nx (setL L r.uid _)
      rw [hn]
      refine (nx_map (setL_uids ?_)).symm
      exact hlv _ e hx
  rw [if_neg h3, if_neg h3]
  by_cases h4 : r.kind = 4
  · rw [if_pos h4, if_pos h4]
    unfold flag live
    rw [h.ent]
    cases hx : (at_ L r.uid).filter (fun e => !e.gone) with
    | none => exact hn
    | some e =>
      show m.next = nx (setL L r.uid _)
      rw [hn]
      refine (nx_map (setL_uids ?_)).symm
      exact hlv _ e hx
  · rw [if_neg h4, if_neg h4]; exact hn
theorem nx_all (l : List Rec) : ∀ (m : Box) (L : List Ent) (n : Nat), St m L n → n + l.length ≤ 1000 → m.next = nx L → (all m l).next = nx (allL L l) := by
  induction l with
  | nil => intro m L n _ _ h; exact h
  | cons r l ih =>
    intro m L n h hn hx
    simp only [List.length_cons] at hn
    exact ih _ _ _ (st_take h (by omega) r).1 (by omega) (nx_take h.rel hx r)
theorem sumS_filt (L : List Ent) : sumS (filt false L) = sumS L ∧ cntS (filt false L) = cntS L := by
  unfold filt
  induction L with
  | nil => exact ⟨rfl, rfl⟩
  | cons e l ih =>
    rw [List.filter_cons]
    cases hg : e.gone with
    | true =>
      rw [if_neg (by simp), ih.1, ih.2]
      simp [sumS, cntS, hg]
    | false =>
      rw [if_pos (by simp)]
      simp only [sumS, cntS, ih.1, ih.2]
      exact ⟨trivial, trivial⟩
end Go.Proofs.Ytohchhgheeolpaa.Mbx

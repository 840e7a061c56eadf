/- The law MboxSums, walked. -/
import Derived.Test.YtohchhgheeolpaaMboxList
import Derived.Test.YtohchhgheeolpaaMboxStPlain
import Derived.Test.YtohchhgheeolpaaMboxMakes
namespace Go.Proofs.Ytohchhgheeolpaa
open Go.RowKit
namespace Mbx
open Rcd Go.Maps

theorem EntsAt.box {w w' : World} {base g b1 b2 n : Nat} {v : Value} {l : List Ent} {m : Box} (h : EntsAt w base v l) (hb : BoxAt w g b1 b2 n m) (k : Mods (BFr g b1 b2) w w') : EntsAt w' base v l := by
  refine Frm.ownsRow_mods h k (fun x hx hs => ?_)
  rcases h.2 with ⟨rfl, _⟩ | ⟨q, cap, cur, rfl, _, hgg, _⟩
  · simp [Value.ownBlock] at hx
  · simp [Value.ownBlock] at hx
    subst hx
    rcases hs with rfl | rfl | rfl
    · have := hb.blk
      unfold Blk at this
      rw [hgg] at this
      simp at this
    · obtain ⟨D, ⟨es, cl, h1, _⟩, _⟩ := hb.ent
      rw [hgg] at h1
      simp at h1
    · obtain ⟨D, ⟨es, cl, h1, _⟩, _⟩ := hb.org
      rw [hgg] at h1
      simp at h1
theorem EntsAt.one {w : World} {base : Nat} {v : Value} {l : List Ent} (h : EntsAt w base v l) {j : Nat} (hj : j < l.length) : ∃ q cap, v = .slice (some ⟨q, 0, none⟩) l.length cap ∧ w.rangeAt q (j * 7) (entA l[j]).toList := by
  obtain ⟨q, cap, hv, -, -, -, hc⟩ := Frm.ownsRow_at h (by omega)
  refine ⟨q, cap, hv, fun i x hx => ?_⟩
  have hi : i < 7 := by
    have := (List.getElem?_eq_some_iff.1 hx).1
    simpa [entA] using this
  refine hc (j * 7 + i) x ?_
  rw [flat_get entC_len l j i _ (List.getElem?_eq_getElem hj) hi]
  exact hx
theorem ent7 {w : World} {q o : Nat} {e : Ent} (h : w.rangeAt q o (entA e).toList) : w.cell? ⟨q, o, none⟩ = some (.int .i64 e.uid) ∧ w.cell? ⟨q, o + 1, none⟩ = some (.int .i64 e.time) ∧ w.cell? ⟨q, o + 2, none⟩ = some (.int .i64 e.flags) ∧ w.cell? ⟨q, o + 3, none⟩ = some (.int .i64 e.body) ∧ w.cell? ⟨q, o + 4, none⟩ = some (.int .i64 e.size) ∧ w.cell? ⟨q, o + 5, none⟩ = some (.int .i64 e.origin) ∧ w.cell? ⟨q, o + 6, none⟩ = some (.bool e.gone) :=
  ⟨h 0 _ rfl, h 1 _ rfl, h 2 _ rfl, h 3 _ rfl, h 4 _ rfl, h 5 _ rfl, h 6 _ rfl⟩

theorem next_k (w : World) {g b1 b2 n : Nat} {m : Box} (h : BoxAt w g b1 b2 n m) : Calls Try.prog 50 #[.pointer (some ⟨g, 0, none⟩)] w fun e w' => e = .returned (.int .i64 m.next) ∧ Keeps w w' :=
  (next_any w h).mono (fun e w' h => ⟨h.1, by rw [← h.2]; exact Keeps.refl _⟩)
/-- where the law stands behind i records -/
structure SumsAt (W wr : World) (g b1 b2 : Nat) (l : List RecX) (i : Nat) (p : Option Addr) (c : Nat) (m : Box) (L : List Ent) : Prop where
  box : BoxAt wr g b1 b2 (2 * i) m
  st : St m L i
  was : EntsAt wr W.heap.size (.slice p L.length c) L
  keeps : Keeps W wr
  ge : ∀ x, BFr g b1 b2 x → W.heap.size ≤ x

set_option maxRecDepth 100000 in
set_option maxHeartbeats 4000000 in
theorem mboxSums_walk (W : World) (v0 : Value) (l : List RecX) (r0 : RowS W 12 v0 l.length (l.flatMap recC)) (w0 : ∀ y ∈ l, RecOk W y) :
    Calls Try.prog 11 #[v0] W fun e w' => e = .returned (.bool true) ∧ Keeps W w' := by
  obtain ⟨p0, c0, rfl, hc0, hc1⟩ := r0.form
  have HR0 := Lib.hid r0
  have HW0 := Lib.hid (fun y hy => (w0 y hy).row)
  clear r0 w0
  go_enter Try.func11, Try.ntmps11
  go_wp2_with fail
  refine (awake20_any W).mono ?_
  rintro e w1 ⟨rfl, hk1⟩
  have HK := Lib.hid hk1
  have HFW := Lib.hid (few_any w1 (.slice p0 l.length c0) l 40 (by decide) (RowS.keeps HR0.out hk1) (fun y hy => (HW0.out y hy).keeps hk1))
  clear hk1
  go_wp2_with fail
  refine HFW.out.mono ?_
  rintro e w2 ⟨bb, rfl, hl40, hk2⟩
  have HK := Lib.hid (HK.out.trans hk2)
  clear hk2 HFW
  cases bb with
  | false =>
    go_wp2_with fail
    go_ret
    exact ⟨rfl, HK.out⟩
  | true =>
  have hle := hl40 rfl
  clear hl40
  go_wp2_with fail
  refine (new_any w2).mono ?_
  rintro e w3 ⟨g, b1, b2, rfl, hg, h1, h2, hb, hk⟩
  have HS := Lib.hid (show SumsAt W w3 g b1 b2 l 0 none 0 new [] from ⟨hb, st_new, EntsAt.nil _ _, HK.out.trans hk, bfr_ge (Nat.le_trans HK.out.size hg) (Nat.le_trans HK.out.size h1) (Nat.le_trans HK.out.size h2)⟩)
  have hn1 : new.next = 1 := rfl
  clear hb hk hg h1 h2 HK
  go_wp2_with fail
  go_loopw [4, 5, 6] (fun vv nx i wr => ∃ (j : Nat) (p : Option Addr) (c : Nat) (m : Box) (L : List Ent), i = .int .i64 (j : Int) ∧ j ≤ l.length ∧ vv = .slice p L.length c ∧ nx = .int .i64 m.next ∧ Hid (SumsAt W wr g b1 b2 l j p c m L)) (fun _ _ i _ => l.length - (RowKit.intOf i).toNat)
  case atStart => exact ⟨0, none, 0, new, [], rfl, Nat.zero_le _, rfl, rfl, HS⟩
  case round =>
    obtain ⟨j, p, c, m, L, rfl, hj, rfl, rfl, HH⟩ := hrel
    clear HS hn1
    by_cases hlt : j < l.length
    · obtain ⟨bb, off, cap, hv, hrg⟩ := rowS_rec' (RowS.keeps HR0.out HH.out.keeps) hlt
      simp only [Value.slice.injEq] at hv
      obtain ⟨rfl, -, rfl⟩ := hv
      have HG := Lib.hid hrg
      have HT := Lib.hid (take_any wr HH.out.box (by omega) l[j].1 l[j].2 ((HW0.out l[j] (List.getElem_mem hlt)).keeps HH.out.keeps))
      have HST := Lib.hid (st_take HH.out.st (by omega) l[j].1)
      have hnx := take_next_ge m l[j].1
      clear hrg
      generalize take m l[j].1 = tk at *
      obtain ⟨m', ok⟩ := tk
      generalize (takeL L l[j].1).1 = L' at *
      go_wp2_with (refine wpList_ldR rfl recM HG.out _ rfl rfl ?_)
      refine HT.out.mono ?_
      rintro e y1 ⟨rfl, hb, hm⟩
      have HB := Lib.hid hb
      have HK := Lib.hid (hm.keeps HH.out.keeps HH.out.ge)
      have HWA := Lib.hid (HH.out.was.box HH.out.box hm)
      have HGE := Lib.hid HH.out.ge
      have hLw : L.length ≤ 900000 := Nat.le_trans (Rel.len_le HH.out.box HH.out.st.rel) (by omega)
      clear hb hm HT HH HG
      have HLI := Lib.hid (list_any y1 HB.out (by omega) HST.out.1.rel (fun e he => i64wf (by have := HST.out.1.uid e he; omega)) true)
      rw [filt_true] at HLI
      go_wp2_with fail
      refine HLI.out.mono ?_
      rintro e y2 ⟨v7, rfl, hen, hk⟩
      obtain ⟨p7, c7, rfl, -, -⟩ := Frm.ownsRow_form hen
      have HB := Lib.hid (HB.out.keeps hk)
      have HEN := Lib.hid (show EntsAt y2 W.heap.size (.slice p7 L'.length c7) L' from ⟨hen.1, hen.2.imp id (fun ⟨g, cap, cur, hv, hg, r⟩ => ⟨g, cap, cur, hv, Nat.le_trans HK.out.size hg, r⟩)⟩)
      have HK := Lib.hid (HK.out.trans hk)
      have HWA := Lib.hid (HWA.out.keeps hk)
      clear hk hen HLI
      obtain ⟨kf, hkf⟩ := along_step HST.out.2.2
      have HKF := Lib.hid hkf
      have HST := Lib.hid HST.out.1
      have HK0 := Lib.hid hkf.1
      clear hkf
      have hub := HST.out.rel.ub
      have huc := HST.out.rel.uc
      have hb1 := HST.out.inv.b1
      have hc1' := HST.out.inv.c1
      have hmx := HST.out.inv.n2
      have HSU := Lib.hid (sumS_take_le HST.out.size)
      have HCU := Lib.hid (cntS_take_le L')
      have hLl : L'.length ≤ 900000 := Nat.le_trans (Rel.len_le HB.out HST.out.rel) (by omega)
      go_wp2_with fail
      go_loopw [8, 9, 10, 11] (fun by' ct kk nn wr => ∃ n : Nat, nn = .int .i64 (n : Int) ∧ n ≤ L'.length ∧ by' = .int .i64 (sumS (L'.take n)) ∧ ct = .int .i64 (cntS (L'.take n)) ∧ kk = .int .i64 (kf n : Int) ∧ Hid (Keeps y2 wr)) (fun _ _ _ nn _ => L'.length - (RowKit.intOf nn).toNat)
      case atStart => exact ⟨0, rfl, Nat.zero_le _, rfl, rfl, by rw [HK0.out]; rfl, Lib.hid (Keeps.refl _)⟩
      case round =>
        obtain ⟨n, rfl, hn, rfl, rfl, rfl, HY⟩ := hrel
        by_cases hnl : n < L'.length
        · obtain ⟨q7, cap7, hv, hr7⟩ := (HEN.out.keeps HY.out).one hnl
          simp only [Value.slice.injEq] at hv
          obtain ⟨rfl, -, rfl⟩ := hv
          have HR7 := Lib.hid hr7
          have HPR : Hid (∀ hp : 0 < n, wr.cell? ⟨q7, (n - 1) * 7, none⟩ = some (.int .i64 L'[n - 1].uid) ∧ L'[n - 1].uid < L'[n].uid) := Lib.hid (fun hp => by
            obtain ⟨q, cap, hv, hr⟩ := (HEN.out.keeps HY.out).one (j := n - 1) (by omega)
            simp only [Value.slice.injEq, Option.some.injEq, Addr.mk.injEq] at hv
            obtain ⟨⟨rfl, -, -⟩, -, -⟩ := hv
            refine ⟨(ent7 hr).1, ?_⟩
            have := asc_get HST.out.rel.asc (i := n - 1) (by omega)
            simpa [show n - 1 + 1 = n from by omega] using this)
          have HAL := Lib.hid (HKF.out.2.2.2 n L'[n] (List.getElem?_eq_getElem hnl))
          have hlow := HST.out.low L'[n] (List.getElem_mem hnl)
          have hs0 := HSU.out n
          have hs1 := HSU.out (n + 1)
          have hc0' := HCU.out n
          have hc1'' := HCU.out (n + 1)
          have hkn := HKF.out.2.2.1 n (by omega)
          rw [sumS_take hnl] at hs1
          rw [cntS_take hnl] at hc1''
          have HSN := Lib.hid (sumS_take hnl)
          have HCN := Lib.hid (cntS_take hnl)
          generalize sumS (L'.take n) = s0 at *
          generalize cntS (L'.take n) = t0 at *
          generalize L'[n] = A at *
          obtain ⟨a0, a1, a2, a3, a4, a5, a6⟩ := ent7 hr7
          clear hr7
          obtain ⟨y3, rfl⟩ : ∃ z : World, z = wr := ⟨_, rfl⟩
          generalize hag : A.gone = ag at *
          clear hag
          go_upto_if 44 with fail
          go_cut [8, 9] (fun x y wx => x = .int .i64 (s0 + if ag = true then 0 else A.size) ∧ y = .int .i64 (t0 + if ag = true then 0 else 1) ∧ wx = y3)
          case first =>
            cases ag with
            | true =>
              go_wp2_with fail
              go_meet
              exact ⟨by simp, by simp, rfl⟩
            | false =>
              simp only [Bool.false_eq_true, if_false] at hs1 hc1''
              have hw1 : IntKind.i64.wrap (s0 + A.size) = s0 + A.size := by rw [IntKind.wrap_i64]; omega
              have hw2 : IntKind.i64.wrap (t0 + 1) = t0 + 1 := by rw [IntKind.wrap_i64]; omega
              go_wp2_with fail
              go_meet
              exact ⟨by simp, by simp, rfl⟩
          case rest =>
          obtain ⟨rfl, rfl, rfl⟩ := hcut
          obtain ⟨y3, rfl⟩ : ∃ z : World, z = wc := ⟨_, rfl⟩
          rw [← HSN.out, ← HCN.out]
          clear HSN HCN hs0 hs1 hc0' hc1''
          generalize hsx : sumS (L'.take (n + 1)) = s1 at *
          generalize htx : cntS (L'.take (n + 1)) = t1 at *
          have HX := Lib.hid (And.intro hsx htx)
          clear hsx htx
          have hlo : decide (m'.next ≤ A.uid) = false := decide_eq_false (by omega)
          go_upto_region 21 with fail
          go_cut [79] (fun t wx => t = .bool false ∧ Keeps y3 wx)
          case first =>
            by_cases hn0 : n = 0
            · have e0 : decide ((0 : Int) < (n : Int)) = false := decide_eq_false (by omega)
              have e0' : decide (0 < n) = false := decide_eq_false (by omega)
              clear hn0
              refine wp_region_noPanic ?_
              refine wp_region_held_drew (S := fun w' => Keeps (y3) w') (by kernel_rfl) ((Keeps.refl _).drew) (fun _ => ?_)
              have hHeld : Keeps (y3) (y3).drew := (Keeps.refl _).drew
              refine wpAnyH_take (i := 0) (v := ?vv1) (by rfl) (by kernel_rfl) (by kernel_rfl) (by kernel_rfl) (by intro _ _ _ h; exact h) (Or.inl ⟨by kernel_rfl, ?hy1⟩) (by assumption) ?rest1
              case hy1 =>
                intro w' hSw
                have hSw : Keeps _ w' := hSw
                clear hSw
                go_simp
                try with_reducible rfl
              change wpAnyH _ _ _ _ _ _ _ (Act.put _ (some 54) _) _
              try simp only [Act.put, List.setIfInBounds_toArray, List.set_cons_zero, List.set_cons_succ]
              refine wpAnyH_take (i := 1) (v := ?vv2) (by rfl) (by kernel_rfl) (by kernel_rfl) (by kernel_rfl) (by intro _ _ _ h; exact h) (Or.inl ⟨by kernel_rfl, ?hy2⟩) (by assumption) ?rest2
              case hy2 =>
                intro w' hSw
                have hSw : Keeps _ w' := hSw
                clear hSw
                go_simp
                try with_reducible rfl
              change wpAnyH _ _ _ _ _ _ _ (Act.put _ (some 55) _) _
              try simp only [Act.put, List.setIfInBounds_toArray, List.set_cons_zero, List.set_cons_succ]
              refine wpAnyH_take (i := 2) (v := ?vv3) (by rfl) (by kernel_rfl) (by kernel_rfl) (by kernel_rfl) (by intro _ _ _ h; exact h) (Or.inl ⟨by kernel_rfl, ?hy3⟩) (by assumption) ?rest3
              case hy3 =>
                intro w' hSw
                have hSw : Keeps _ w' := hSw
                clear hSw
                go_simp
                try with_reducible rfl
              change wpAnyH _ _ _ _ _ _ _ (Act.put _ (some 56) _) _
              try simp only [Act.put, List.setIfInBounds_toArray, List.set_cons_zero, List.set_cons_succ]
              refine wpAnyH_take (i := 3) (v := ?vv4) (by rfl) (by kernel_rfl) (by kernel_rfl) (by kernel_rfl) (by intro _ _ _ h; exact h) (Or.inl ⟨by kernel_rfl, ?hy4⟩) (by assumption) ?rest4
              case hy4 =>
                intro w' hSw
                have hSw : Keeps _ w' := hSw
                clear hSw
                go_simp
                try with_reducible rfl
              change wpAnyH _ _ _ _ _ _ _ (Act.put _ (some 57) _) _
              try simp only [Act.put, List.setIfInBounds_toArray, List.set_cons_zero, List.set_cons_succ]
              refine wpAnyH_take (i := 4) (v := ?vv5) (by rfl) (by kernel_rfl) (by kernel_rfl) (by kernel_rfl) (by intro _ _ _ h; exact h) (Or.inl ⟨by kernel_rfl, ?hy5⟩) (by assumption) ?rest5
              case hy5 =>
                intro w' hSw
                have hSw : Keeps _ w' := hSw
                have h0 := keep1 hSw a0
                clear hSw
                go_simp
                try with_reducible rfl
              change wpAnyH _ _ _ _ _ _ _ (Act.put _ (some 58) _) _
              try simp only [Act.put, List.setIfInBounds_toArray, List.set_cons_zero, List.set_cons_succ]
              refine wpAnyH_take (i := 5) (v := ?vv6) (by rfl) (by kernel_rfl) (by kernel_rfl) (by kernel_rfl) (by intro _ _ _ h; exact h) (Or.inl ⟨by kernel_rfl, ?hy6⟩) (by assumption) ?rest6
              case hy6 =>
                intro w' hSw
                have hSw : Keeps _ w' := hSw
                clear hSw
                go_simp
                try with_reducible rfl
              change wpAnyH _ _ _ _ _ _ _ (Act.put _ (some 59) _) _
              try simp only [Act.put, List.setIfInBounds_toArray, List.set_cons_zero, List.set_cons_succ]
              refine wpAnyH_ready (rs := [6]) (by kernel_rfl) (by simp) ?_
              refine AllReadyH.cons (o := _) rfl (fun K hK => ?_) AllReadyH.nil
              go_simp
              refine (next_k _ (HB.out.keeps (HY.out.trans (Keeps.refl y3).drew))).mono ?_
              rintro e z ⟨rfl, hk⟩
              have hb : Keeps _ z := hHeld.trans hk
              have HZ := Lib.hid hb
              go_wp2_with fail
              refine hK.out _ _ hb (fun _ => ?_)
              clear hK K
              try simp only [Act.put, List.setIfInBounds_toArray, List.set_cons_zero, List.set_cons_succ]
              refine wpAnyH_more (S' := fun w' => Keeps z w') (fun _ h => hb.trans h) ?_
              clear hHeld hb hk
              have hHeld : Keeps z z := Keeps.refl _
              refine wpAnyH_take (i := 7) (v := ?vv7) (by rfl) (by kernel_rfl) (by kernel_rfl) (by kernel_rfl) (by intro _ _ _ h; exact h) (Or.inl ⟨by kernel_rfl, ?hy7⟩) (by assumption) ?rest7
              case hy7 =>
                intro w' hSw
                have hSw : Keeps _ w' := hSw
                clear hSw
                go_simp
                try with_reducible rfl
              change wpAnyH _ _ _ _ _ _ _ (Act.put _ (some 61) _) _
              try simp only [Act.put, List.setIfInBounds_toArray, List.set_cons_zero, List.set_cons_succ]
              refine wpAnyH_take (i := 8) (v := ?vv8) (by rfl) (by kernel_rfl) (by kernel_rfl) (by kernel_rfl) (by intro _ _ _ h; exact h) (Or.inl ⟨by kernel_rfl, ?hy8⟩) (by assumption) ?rest8
              case hy8 =>
                intro w' hSw
                have hSw : Keeps _ w' := hSw
                clear hSw
                go_simp
                try with_reducible rfl
              change wpAnyH _ _ _ _ _ _ _ (Act.put _ (some 62) _) _
              try simp only [Act.put, List.setIfInBounds_toArray, List.set_cons_zero, List.set_cons_succ]
              refine wpAnyH_take (i := 9) (v := ?vv9) (by rfl) (by kernel_rfl) (by kernel_rfl) (by kernel_rfl) (by intro _ _ _ h; exact h) (Or.inl ⟨by kernel_rfl, ?hy9⟩) (by assumption) ?rest9
              case hy9 =>
                intro w' hSw
                have hSw : Keeps _ w' := hSw
                clear hSw
                go_simp
                try with_reducible rfl
              change wpAnyH _ _ _ _ _ _ _ (Act.put _ (some 63) _) _
              try simp only [Act.put, List.setIfInBounds_toArray, List.set_cons_zero, List.set_cons_succ]
              refine wpAnyH_take (i := 10) (v := ?vv10) (by rfl) (by kernel_rfl) (by kernel_rfl) (by kernel_rfl) (by intro _ _ _ h; exact h) (Or.inl ⟨by kernel_rfl, ?hy10⟩) (by assumption) ?rest10
              case hy10 =>
                intro w' hSw
                have hSw : Keeps _ w' := hSw
                clear hSw
                go_simp
                try with_reducible rfl
              change wpAnyH _ _ _ _ _ _ _ (Act.put _ (some 64) _) _
              try simp only [Act.put, List.setIfInBounds_toArray, List.set_cons_zero, List.set_cons_succ]
              refine wpAnyH_take (i := 11) (v := ?vv11) (by rfl) (by kernel_rfl) (by kernel_rfl) (by kernel_rfl) (by intro _ _ _ h; exact h) (Or.inl ⟨by kernel_rfl, ?hy11⟩) (by assumption) ?rest11
              case hy11 =>
                intro w' hSw
                have hSw : Keeps _ w' := hSw
                clear hSw
                go_simp
                try with_reducible rfl
              change wpAnyH _ _ _ _ _ _ _ (Act.put _ (some 65) _) _
              try simp only [Act.put, List.setIfInBounds_toArray, List.set_cons_zero, List.set_cons_succ]
              refine wpAnyH_take (i := 12) (v := undef) (by rfl) (by kernel_rfl) (by kernel_rfl) (by kernel_rfl) (by intro _ _ _ h; exact h) (Or.inr ⟨by kernel_rfl, rfl⟩) (by assumption) ?rest12
              change wpAnyH _ _ _ _ _ _ _ (Act.put _ (some 66) _) _
              try simp only [Act.put, List.setIfInBounds_toArray, List.set_cons_zero, List.set_cons_succ]
              refine wpAnyH_take (i := 13) (v := undef) (by rfl) (by kernel_rfl) (by kernel_rfl) (by kernel_rfl) (by intro _ _ _ h; exact h) (Or.inr ⟨by kernel_rfl, rfl⟩) (by assumption) ?rest13
              change wpAnyH _ _ _ _ _ _ _ (Act.put _ (some 67) _) _
              try simp only [Act.put, List.setIfInBounds_toArray, List.set_cons_zero, List.set_cons_succ]
              refine wpAnyH_take (i := 14) (v := undef) (by rfl) (by kernel_rfl) (by kernel_rfl) (by kernel_rfl) (by intro _ _ _ h; exact h) (Or.inr ⟨by kernel_rfl, rfl⟩) (by assumption) ?rest14
              change wpAnyH _ _ _ _ _ _ _ (Act.put _ (some 68) _) _
              try simp only [Act.put, List.setIfInBounds_toArray, List.set_cons_zero, List.set_cons_succ]
              refine wpAnyH_take (i := 15) (v := undef) (by rfl) (by kernel_rfl) (by kernel_rfl) (by kernel_rfl) (by intro _ _ _ h; exact h) (Or.inr ⟨by kernel_rfl, rfl⟩) (by assumption) ?rest15
              change wpAnyH _ _ _ _ _ _ _ (Act.put _ (some 69) _) _
              try simp only [Act.put, List.setIfInBounds_toArray, List.set_cons_zero, List.set_cons_succ]
              refine wpAnyH_take (i := 16) (v := undef) (by rfl) (by kernel_rfl) (by kernel_rfl) (by kernel_rfl) (by intro _ _ _ h; exact h) (Or.inr ⟨by kernel_rfl, rfl⟩) (by assumption) ?rest16
              change wpAnyH _ _ _ _ _ _ _ (Act.put _ (some 70) _) _
              try simp only [Act.put, List.setIfInBounds_toArray, List.set_cons_zero, List.set_cons_succ]
              refine wpAnyH_take (i := 17) (v := undef) (by rfl) (by kernel_rfl) (by kernel_rfl) (by kernel_rfl) (by intro _ _ _ h; exact h) (Or.inr ⟨by kernel_rfl, rfl⟩) (by assumption) ?rest17
              change wpAnyH _ _ _ _ _ _ _ (Act.put _ (some 71) _) _
              try simp only [Act.put, List.setIfInBounds_toArray, List.set_cons_zero, List.set_cons_succ]
              refine wpAnyH_take (i := 18) (v := undef) (by rfl) (by kernel_rfl) (by kernel_rfl) (by kernel_rfl) (by intro _ _ _ h; exact h) (Or.inr ⟨by kernel_rfl, rfl⟩) (by assumption) ?rest18
              change wpAnyH _ _ _ _ _ _ _ (Act.put _ (some 72) _) _
              try simp only [Act.put, List.setIfInBounds_toArray, List.set_cons_zero, List.set_cons_succ]
              refine wpAnyH_take (i := 19) (v := undef) (by rfl) (by kernel_rfl) (by kernel_rfl) (by kernel_rfl) (by intro _ _ _ h; exact h) (Or.inr ⟨by kernel_rfl, rfl⟩) (by assumption) ?rest19
              change wpAnyH _ _ _ _ _ _ _ (Act.put _ (some 73) _) _
              try simp only [Act.put, List.setIfInBounds_toArray, List.set_cons_zero, List.set_cons_succ]
              refine wpAnyH_take (i := 20) (v := undef) (by rfl) (by kernel_rfl) (by kernel_rfl) (by kernel_rfl) (by intro _ _ _ h; exact h) (Or.inr ⟨by kernel_rfl, rfl⟩) (by assumption) ?rest20
              change wpAnyH _ _ _ _ _ _ _ (Act.put _ (some 74) _) _
              try simp only [Act.put, List.setIfInBounds_toArray, List.set_cons_zero, List.set_cons_succ]
              refine wpAnyH_take (i := 21) (v := undef) (by rfl) (by kernel_rfl) (by kernel_rfl) (by kernel_rfl) (by intro _ _ _ h; exact h) (Or.inr ⟨by kernel_rfl, rfl⟩) (by assumption) ?rest21
              change wpAnyH _ _ _ _ _ _ _ (Act.put _ (some 75) _) _
              try simp only [Act.put, List.setIfInBounds_toArray, List.set_cons_zero, List.set_cons_succ]
              refine wpAnyH_take (i := 22) (v := undef) (by rfl) (by kernel_rfl) (by kernel_rfl) (by kernel_rfl) (by intro _ _ _ h; exact h) (Or.inr ⟨by kernel_rfl, rfl⟩) (by assumption) ?rest22
              change wpAnyH _ _ _ _ _ _ _ (Act.put _ (some 76) _) _
              try simp only [Act.put, List.setIfInBounds_toArray, List.set_cons_zero, List.set_cons_succ]
              refine wpAnyH_take (i := 23) (v := undef) (by rfl) (by kernel_rfl) (by kernel_rfl) (by kernel_rfl) (by intro _ _ _ h; exact h) (Or.inr ⟨by kernel_rfl, rfl⟩) (by assumption) ?rest23
              change wpAnyH _ _ _ _ _ _ _ (Act.put _ (some 77) _) _
              try simp only [Act.put, List.setIfInBounds_toArray, List.set_cons_zero, List.set_cons_succ]
              refine wpAnyH_take (i := 24) (v := ?vv24) (by rfl) (by kernel_rfl) (by kernel_rfl) (by kernel_rfl) (by intro _ _ _ h; exact h) (Or.inl ⟨by kernel_rfl, ?hy24⟩) (by assumption) ?rest24
              case hy24 =>
                intro w' hSw
                have hSw : Keeps _ w' := hSw
                clear hSw
                go_simp
                try with_reducible rfl
              change wpAnyH _ _ _ _ _ _ _ (Act.put _ (some 78) _) _
              try simp only [Act.put, List.setIfInBounds_toArray, List.set_cons_zero, List.set_cons_succ]
              refine wpAnyH_take (i := 25) (v := ?vv25) (by rfl) (by kernel_rfl) (by kernel_rfl) (by kernel_rfl) (by intro _ _ _ h; exact h) (Or.inl ⟨by kernel_rfl, ?hy25⟩) (by assumption) ?rest25
              case hy25 =>
                intro w' hSw
                have hSw : Keeps _ w' := hSw
                clear hSw
                go_simp
                try with_reducible rfl
              change wpAnyH _ _ _ _ _ _ _ (Act.put _ (some 79) _) _
              try simp only [Act.put, List.setIfInBounds_toArray, List.set_cons_zero, List.set_cons_succ]
              refine wpAnyH_done (by kernel_rfl) ?_ _
              refine NoPanic.normal ?_
              go_wp2_with fail
              go_meet
              exact ⟨rfl, HZ.out.trans hHeld⟩
            · have hp := HPR.out (by omega)
              have e0 : decide ((0 : Int) < (n : Int)) = true := decide_eq_true (by omega)
              have e0' : decide (0 < n) = true := decide_eq_true (by omega)
              have e1 : decide (A.uid ≤ L'[n - 1].uid) = false := decide_eq_false (by omega)
              have hp := hp.1
              generalize L'[n - 1].uid = pu at *
              have x1 : IntKind.i64.wrap ((n : Int) - 1) = (n : Int) - 1 := by rw [IntKind.wrap_i64]; omega
              have x2 : ((n : Int) - 1).toNat = n - 1 := by omega
              have x3 : 0 ≤ (n : Int) - 1 := by omega
              have x4 : (n : Int) - 1 < (L'.length : Int) := by omega
              have x5 : n - 1 < L'.length := by omega
              have x6 : (1 : Int) ≤ (n : Int) := by omega
              have x7 : 1 ≤ n := by omega
              clear hn0
              refine wp_region_noPanic ?_
              refine wp_region_held_drew (S := fun w' => Keeps (y3) w') (by kernel_rfl) ((Keeps.refl _).drew) (fun _ => ?_)
              have hHeld : Keeps (y3) (y3).drew := (Keeps.refl _).drew
              refine wpAnyH_take (i := 0) (v := ?vv26) (by rfl) (by kernel_rfl) (by kernel_rfl) (by kernel_rfl) (by intro _ _ _ h; exact h) (Or.inl ⟨by kernel_rfl, ?hy26⟩) (by assumption) ?rest26
              case hy26 =>
                intro w' hSw
                have hSw : Keeps _ w' := hSw
                clear hSw
                go_simp
                try with_reducible rfl
              change wpAnyH _ _ _ _ _ _ _ (Act.put _ (some 54) _) _
              try simp only [Act.put, List.setIfInBounds_toArray, List.set_cons_zero, List.set_cons_succ]
              refine wpAnyH_take (i := 1) (v := ?vv27) (by rfl) (by kernel_rfl) (by kernel_rfl) (by kernel_rfl) (by intro _ _ _ h; exact h) (Or.inl ⟨by kernel_rfl, ?hy27⟩) (by assumption) ?rest27
              case hy27 =>
                intro w' hSw
                have hSw : Keeps _ w' := hSw
                clear hSw
                go_simp
                try with_reducible rfl
              change wpAnyH _ _ _ _ _ _ _ (Act.put _ (some 55) _) _
              try simp only [Act.put, List.setIfInBounds_toArray, List.set_cons_zero, List.set_cons_succ]
              refine wpAnyH_take (i := 2) (v := ?vv28) (by rfl) (by kernel_rfl) (by kernel_rfl) (by kernel_rfl) (by intro _ _ _ h; exact h) (Or.inl ⟨by kernel_rfl, ?hy28⟩) (by assumption) ?rest28
              case hy28 =>
                intro w' hSw
                have hSw : Keeps _ w' := hSw
                clear hSw
                go_simp
                try with_reducible rfl
              change wpAnyH _ _ _ _ _ _ _ (Act.put _ (some 56) _) _
              try simp only [Act.put, List.setIfInBounds_toArray, List.set_cons_zero, List.set_cons_succ]
              refine wpAnyH_take (i := 3) (v := ?vv29) (by rfl) (by kernel_rfl) (by kernel_rfl) (by kernel_rfl) (by intro _ _ _ h; exact h) (Or.inl ⟨by kernel_rfl, ?hy29⟩) (by assumption) ?rest29
              case hy29 =>
                intro w' hSw
                have hSw : Keeps _ w' := hSw
                clear hSw
                go_simp
                try with_reducible rfl
              change wpAnyH _ _ _ _ _ _ _ (Act.put _ (some 57) _) _
              try simp only [Act.put, List.setIfInBounds_toArray, List.set_cons_zero, List.set_cons_succ]
              refine wpAnyH_take (i := 4) (v := ?vv30) (by rfl) (by kernel_rfl) (by kernel_rfl) (by kernel_rfl) (by intro _ _ _ h; exact h) (Or.inl ⟨by kernel_rfl, ?hy30⟩) (by assumption) ?rest30
              case hy30 =>
                intro w' hSw
                have hSw : Keeps _ w' := hSw
                have h0 := keep1 hSw a0
                clear hSw
                go_simp
                try with_reducible rfl
              change wpAnyH _ _ _ _ _ _ _ (Act.put _ (some 58) _) _
              try simp only [Act.put, List.setIfInBounds_toArray, List.set_cons_zero, List.set_cons_succ]
              refine wpAnyH_take (i := 5) (v := ?vv31) (by rfl) (by kernel_rfl) (by kernel_rfl) (by kernel_rfl) (by intro _ _ _ h; exact h) (Or.inl ⟨by kernel_rfl, ?hy31⟩) (by assumption) ?rest31
              case hy31 =>
                intro w' hSw
                have hSw : Keeps _ w' := hSw
                clear hSw
                go_simp
                try with_reducible rfl
              change wpAnyH _ _ _ _ _ _ _ (Act.put _ (some 59) _) _
              try simp only [Act.put, List.setIfInBounds_toArray, List.set_cons_zero, List.set_cons_succ]
              refine wpAnyH_ready (rs := [6]) (by kernel_rfl) (by simp) ?_
              refine AllReadyH.cons (o := _) rfl (fun K hK => ?_) AllReadyH.nil
              go_simp
              refine (next_k _ (HB.out.keeps (HY.out.trans (Keeps.refl y3).drew))).mono ?_
              rintro e z ⟨rfl, hk⟩
              have hb : Keeps _ z := hHeld.trans hk
              have HZ := Lib.hid hb
              have hp := keep1 hb hp
              have a0 := keep1 hb a0
              go_wp2_with fail
              refine hK.out _ _ hb (fun _ => ?_)
              clear hK K
              try simp only [Act.put, List.setIfInBounds_toArray, List.set_cons_zero, List.set_cons_succ]
              refine wpAnyH_more (S' := fun w' => Keeps z w') (fun _ h => hb.trans h) ?_
              clear hHeld hb hk
              have hHeld : Keeps z z := Keeps.refl _
              refine wpAnyH_take (i := 7) (v := ?vv32) (by rfl) (by kernel_rfl) (by kernel_rfl) (by kernel_rfl) (by intro _ _ _ h; exact h) (Or.inl ⟨by kernel_rfl, ?hy32⟩) (by assumption) ?rest32
              case hy32 =>
                intro w' hSw
                have hSw : Keeps _ w' := hSw
                clear hSw
                go_simp
                try with_reducible rfl
              change wpAnyH _ _ _ _ _ _ _ (Act.put _ (some 61) _) _
              try simp only [Act.put, List.setIfInBounds_toArray, List.set_cons_zero, List.set_cons_succ]
              refine wpAnyH_take (i := 8) (v := ?vv33) (by rfl) (by kernel_rfl) (by kernel_rfl) (by kernel_rfl) (by intro _ _ _ h; exact h) (Or.inl ⟨by kernel_rfl, ?hy33⟩) (by assumption) ?rest33
              case hy33 =>
                intro w' hSw
                have hSw : Keeps _ w' := hSw
                clear hSw
                go_simp
                try with_reducible rfl
              change wpAnyH _ _ _ _ _ _ _ (Act.put _ (some 62) _) _
              try simp only [Act.put, List.setIfInBounds_toArray, List.set_cons_zero, List.set_cons_succ]
              refine wpAnyH_take (i := 9) (v := ?vv34) (by rfl) (by kernel_rfl) (by kernel_rfl) (by kernel_rfl) (by intro _ _ _ h; exact h) (Or.inl ⟨by kernel_rfl, ?hy34⟩) (by assumption) ?rest34
              case hy34 =>
                intro w' hSw
                have hSw : Keeps _ w' := hSw
                clear hSw
                go_simp
                try with_reducible rfl
              change wpAnyH _ _ _ _ _ _ _ (Act.put _ (some 63) _) _
              try simp only [Act.put, List.setIfInBounds_toArray, List.set_cons_zero, List.set_cons_succ]
              refine wpAnyH_take (i := 10) (v := ?vv35) (by rfl) (by kernel_rfl) (by kernel_rfl) (by kernel_rfl) (by intro _ _ _ h; exact h) (Or.inl ⟨by kernel_rfl, ?hy35⟩) (by assumption) ?rest35
              case hy35 =>
                intro w' hSw
                have hSw : Keeps _ w' := hSw
                clear hSw
                go_simp
                try with_reducible rfl
              change wpAnyH _ _ _ _ _ _ _ (Act.put _ (some 64) _) _
              try simp only [Act.put, List.setIfInBounds_toArray, List.set_cons_zero, List.set_cons_succ]
              refine wpAnyH_take (i := 11) (v := ?vv36) (by rfl) (by kernel_rfl) (by kernel_rfl) (by kernel_rfl) (by intro _ _ _ h; exact h) (Or.inl ⟨by kernel_rfl, ?hy36⟩) (by assumption) ?rest36
              case hy36 =>
                intro w' hSw
                have hSw : Keeps _ w' := hSw
                clear hSw
                go_simp
                try with_reducible rfl
              change wpAnyH _ _ _ _ _ _ _ (Act.put _ (some 65) _) _
              try simp only [Act.put, List.setIfInBounds_toArray, List.set_cons_zero, List.set_cons_succ]
              refine wpAnyH_take (i := 12) (v := ?vv37) (by rfl) (by kernel_rfl) (by kernel_rfl) (by kernel_rfl) (by intro _ _ _ h; exact h) (Or.inl ⟨by kernel_rfl, ?hy37⟩) (by assumption) ?rest37
              case hy37 =>
                intro w' hSw
                have hSw : Keeps _ w' := hSw
                clear hSw
                go_simp
                try with_reducible rfl
              change wpAnyH _ _ _ _ _ _ _ (Act.put _ (some 66) _) _
              try simp only [Act.put, List.setIfInBounds_toArray, List.set_cons_zero, List.set_cons_succ]
              refine wpAnyH_take (i := 13) (v := ?vv38) (by rfl) (by kernel_rfl) (by kernel_rfl) (by kernel_rfl) (by intro _ _ _ h; exact h) (Or.inl ⟨by kernel_rfl, ?hy38⟩) (by assumption) ?rest38
              case hy38 =>
                intro w' hSw
                have hSw : Keeps _ w' := hSw
                clear hSw
                go_simp
                try with_reducible rfl
              change wpAnyH _ _ _ _ _ _ _ (Act.put _ (some 67) _) _
              try simp only [Act.put, List.setIfInBounds_toArray, List.set_cons_zero, List.set_cons_succ]
              refine wpAnyH_take (i := 14) (v := ?vv39) (by rfl) (by kernel_rfl) (by kernel_rfl) (by kernel_rfl) (by intro _ _ _ h; exact h) (Or.inl ⟨by kernel_rfl, ?hy39⟩) (by assumption) ?rest39
              case hy39 =>
                intro w' hSw
                have hSw : Keeps _ w' := hSw
                clear hSw
                go_simp
                try with_reducible rfl
              change wpAnyH _ _ _ _ _ _ _ (Act.put _ (some 68) _) _
              try simp only [Act.put, List.setIfInBounds_toArray, List.set_cons_zero, List.set_cons_succ]
              refine wpAnyH_take (i := 15) (v := ?vv40) (by rfl) (by kernel_rfl) (by kernel_rfl) (by kernel_rfl) (by intro _ _ _ h; exact h) (Or.inl ⟨by kernel_rfl, ?hy40⟩) (by assumption) ?rest40
              case hy40 =>
                intro w' hSw
                have hSw : Keeps _ w' := hSw
                clear hSw
                go_simp
                try with_reducible rfl
              change wpAnyH _ _ _ _ _ _ _ (Act.put _ (some 69) _) _
              try simp only [Act.put, List.setIfInBounds_toArray, List.set_cons_zero, List.set_cons_succ]
              refine wpAnyH_take (i := 16) (v := ?vv41) (by rfl) (by kernel_rfl) (by kernel_rfl) (by kernel_rfl) (by intro _ _ _ h; exact h) (Or.inl ⟨by kernel_rfl, ?hy41⟩) (by assumption) ?rest41
              case hy41 =>
                intro w' hSw
                have hSw : Keeps _ w' := hSw
                clear hSw
                go_simp
                try with_reducible rfl
              change wpAnyH _ _ _ _ _ _ _ (Act.put _ (some 70) _) _
              try simp only [Act.put, List.setIfInBounds_toArray, List.set_cons_zero, List.set_cons_succ]
              refine wpAnyH_take (i := 17) (v := ?vv42) (by rfl) (by kernel_rfl) (by kernel_rfl) (by kernel_rfl) (by intro _ _ _ h; exact h) (Or.inl ⟨by kernel_rfl, ?hy42⟩) (by assumption) ?rest42
              case hy42 =>
                intro w' hSw
                have hSw : Keeps _ w' := hSw
                have h0 := keep1 hSw hp
                clear hSw
                go_simp
                try with_reducible rfl
              change wpAnyH _ _ _ _ _ _ _ (Act.put _ (some 71) _) _
              try simp only [Act.put, List.setIfInBounds_toArray, List.set_cons_zero, List.set_cons_succ]
              refine wpAnyH_take (i := 18) (v := ?vv43) (by rfl) (by kernel_rfl) (by kernel_rfl) (by kernel_rfl) (by intro _ _ _ h; exact h) (Or.inl ⟨by kernel_rfl, ?hy43⟩) (by assumption) ?rest43
              case hy43 =>
                intro w' hSw
                have hSw : Keeps _ w' := hSw
                clear hSw
                go_simp
                try with_reducible rfl
              change wpAnyH _ _ _ _ _ _ _ (Act.put _ (some 72) _) _
              try simp only [Act.put, List.setIfInBounds_toArray, List.set_cons_zero, List.set_cons_succ]
              refine wpAnyH_take (i := 19) (v := ?vv44) (by rfl) (by kernel_rfl) (by kernel_rfl) (by kernel_rfl) (by intro _ _ _ h; exact h) (Or.inl ⟨by kernel_rfl, ?hy44⟩) (by assumption) ?rest44
              case hy44 =>
                intro w' hSw
                have hSw : Keeps _ w' := hSw
                clear hSw
                go_simp
                try with_reducible rfl
              change wpAnyH _ _ _ _ _ _ _ (Act.put _ (some 73) _) _
              try simp only [Act.put, List.setIfInBounds_toArray, List.set_cons_zero, List.set_cons_succ]
              refine wpAnyH_take (i := 20) (v := ?vv45) (by rfl) (by kernel_rfl) (by kernel_rfl) (by kernel_rfl) (by intro _ _ _ h; exact h) (Or.inl ⟨by kernel_rfl, ?hy45⟩) (by assumption) ?rest45
              case hy45 =>
                intro w' hSw
                have hSw : Keeps _ w' := hSw
                clear hSw
                go_simp
                try with_reducible rfl
              change wpAnyH _ _ _ _ _ _ _ (Act.put _ (some 74) _) _
              try simp only [Act.put, List.setIfInBounds_toArray, List.set_cons_zero, List.set_cons_succ]
              refine wpAnyH_take (i := 21) (v := ?vv46) (by rfl) (by kernel_rfl) (by kernel_rfl) (by kernel_rfl) (by intro _ _ _ h; exact h) (Or.inl ⟨by kernel_rfl, ?hy46⟩) (by assumption) ?rest46
              case hy46 =>
                intro w' hSw
                have hSw : Keeps _ w' := hSw
                clear hSw
                go_simp
                try with_reducible rfl
              change wpAnyH _ _ _ _ _ _ _ (Act.put _ (some 75) _) _
              try simp only [Act.put, List.setIfInBounds_toArray, List.set_cons_zero, List.set_cons_succ]
              refine wpAnyH_take (i := 22) (v := ?vv47) (by rfl) (by kernel_rfl) (by kernel_rfl) (by kernel_rfl) (by intro _ _ _ h; exact h) (Or.inl ⟨by kernel_rfl, ?hy47⟩) (by assumption) ?rest47
              case hy47 =>
                intro w' hSw
                have hSw : Keeps _ w' := hSw
                have h0 := keep1 hSw a0
                clear hSw
                go_simp
                try with_reducible rfl
              change wpAnyH _ _ _ _ _ _ _ (Act.put _ (some 76) _) _
              try simp only [Act.put, List.setIfInBounds_toArray, List.set_cons_zero, List.set_cons_succ]
              refine wpAnyH_take (i := 23) (v := ?vv48) (by rfl) (by kernel_rfl) (by kernel_rfl) (by kernel_rfl) (by intro _ _ _ h; exact h) (Or.inl ⟨by kernel_rfl, ?hy48⟩) (by assumption) ?rest48
              case hy48 =>
                intro w' hSw
                have hSw : Keeps _ w' := hSw
                clear hSw
                go_simp
                try with_reducible rfl
              change wpAnyH _ _ _ _ _ _ _ (Act.put _ (some 77) _) _
              try simp only [Act.put, List.setIfInBounds_toArray, List.set_cons_zero, List.set_cons_succ]
              refine wpAnyH_take (i := 24) (v := ?vv49) (by rfl) (by kernel_rfl) (by kernel_rfl) (by kernel_rfl) (by intro _ _ _ h; exact h) (Or.inl ⟨by kernel_rfl, ?hy49⟩) (by assumption) ?rest49
              case hy49 =>
                intro w' hSw
                have hSw : Keeps _ w' := hSw
                clear hSw
                go_simp
                try with_reducible rfl
              change wpAnyH _ _ _ _ _ _ _ (Act.put _ (some 78) _) _
              try simp only [Act.put, List.setIfInBounds_toArray, List.set_cons_zero, List.set_cons_succ]
              refine wpAnyH_take (i := 25) (v := ?vv50) (by rfl) (by kernel_rfl) (by kernel_rfl) (by kernel_rfl) (by intro _ _ _ h; exact h) (Or.inl ⟨by kernel_rfl, ?hy50⟩) (by assumption) ?rest50
              case hy50 =>
                intro w' hSw
                have hSw : Keeps _ w' := hSw
                clear hSw
                go_simp
                try with_reducible rfl
              change wpAnyH _ _ _ _ _ _ _ (Act.put _ (some 79) _) _
              try simp only [Act.put, List.setIfInBounds_toArray, List.set_cons_zero, List.set_cons_succ]
              refine wpAnyH_done (by kernel_rfl) ?_ _
              refine NoPanic.normal ?_
              go_wp2_with fail
              go_meet
              exact ⟨rfl, HZ.out.trans hHeld⟩
          case rest =>
          obtain ⟨rfl, hkc⟩ := hcut
          obtain ⟨y4, rfl⟩ : ∃ z : World, z = wc := ⟨_, rfl⟩
          have HY := Lib.hid (HY.out.trans hkc)
          have hr7 : y4.rangeAt q7 (n * 7) (entA A).toList := range_keeps' HR7.out hkc
          have HR7 := Lib.hid hr7
          obtain ⟨a0, a1, a2, a3, a4, a5, a6⟩ := ent7 hr7
          clear hr7 hkc hlo HPR
          have hw3 : IntKind.i64.wrap ((kf n : Int) + 1) = (kf n : Int) + 1 := by rw [IntKind.wrap_i64]; omega
          have FIN : Hid (∀ x, Keeps y4 x → ∀ n', n' = n + 1 → n' ≤ L'.length) := Lib.hid (fun _ _ n' h => by omega)
          rcases HAL.out with ⟨wo, hw, hu, ⟨hg1, hg2, hg3, hg4⟩, hk1⟩ | ⟨hne, hk1⟩
          · have hkl : kf n < L.length := (List.getElem?_eq_some_iff.1 hw).1
            obtain ⟨q4, cap4, hv, hr4⟩ := (HWA.out.keeps HY.out).one hkl
            simp only [Value.slice.injEq] at hv
            obtain ⟨rfl, -, rfl⟩ := hv
            have hwo : L[kf n] = wo := (List.getElem?_eq_some_iff.1 hw).2
            rw [hwo] at hr4
            have HR4 := Lib.hid hr4
            have HK1 := Lib.hid hk1
            obtain ⟨b0, -⟩ := ent7 hr4
            rw [hu] at b0
            have HG := Lib.hid (show (wo.gone = true → wo = A) ∧ wo.uid = A.uid ∧ wo.body = A.body ∧ wo.size = A.size ∧ wo.origin = A.origin from ⟨hg1, hu, hg2, hg3, hg4⟩)
            have e0 : decide ((kf n : Int) < (L.length : Int)) = true := decide_eq_true (by omega)
            have e0' : decide (kf n < L.length) = true := decide_eq_true hkl
            clear hr4 hw hu hg1 hg2 hg3 hg4 hwo hk1 HAL
            go_upto_region 23 with fail
            go_cut [96] (fun t wx => t = .bool true ∧ Keeps y4 wx)
            case first =>
              go_quiet (fail)
              go_wp2_with fail
              go_meet
              exact ⟨rfl, by repeat (first | exact Keeps.refl _ | refine Keeps.drewN ?_ _)⟩
            case rest =>
            obtain ⟨rfl, hkc⟩ := hcut
            obtain ⟨y5, rfl⟩ : ∃ z : World, z = wc := ⟨_, rfl⟩
            have HY := Lib.hid (HY.out.trans hkc)
            have HR4 := Lib.hid (range_keeps' HR4.out hkc)
            have HR7 := Lib.hid (range_keeps' HR7.out hkc)
            clear hkc a0 a1 a2 a3 a4 a5 a6 b0 e0 e0'
            unfold entA at HR4
            go_upto_region 25 with (refine wpList_ldR rfl entM HR4.out _ rfl rfl ?_)
            generalize hW : World.alloc y5 _ = y6
            have hk6 : Keeps y5 y6 := by rw [← hW]; exact (Keeps.refl _).alloc _
            have HOB := Lib.hid (show Blk y6 y5.heap.size 85 (entA wo) from by rw [← hW]; exact Blk.new _ _ _ rfl)
            have HY := Lib.hid (HY.out.trans hk6)
            have HR7 := Lib.hid (range_keeps' HR7.out hk6)
            clear hW hk6 HR4
            generalize y5.heap.size = qo at *
            obtain ⟨a0, a1, a2, a3, a4, a5, a6⟩ := ent7 HR7.out
            have b0 : y6.cell? ⟨qo, 0, none⟩ = some (.int .i64 wo.uid) := by rw [HOB.out.cell]; rfl
            have b1 : y6.cell? ⟨qo, 1, none⟩ = some (.int .i64 wo.time) := by rw [HOB.out.cell]; rfl
            have b2 : y6.cell? ⟨qo, 2, none⟩ = some (.int .i64 wo.flags) := by rw [HOB.out.cell]; rfl
            have b3 : y6.cell? ⟨qo, 3, none⟩ = some (.int .i64 wo.body) := by rw [HOB.out.cell]; rfl
            have b4 : y6.cell? ⟨qo, 4, none⟩ = some (.int .i64 wo.size) := by rw [HOB.out.cell]; rfl
            have b5 : y6.cell? ⟨qo, 5, none⟩ = some (.int .i64 wo.origin) := by rw [HOB.out.cell]; rfl
            have b6 : y6.cell? ⟨qo, 6, none⟩ = some (.bool wo.gone) := by rw [HOB.out.cell]; rfl
            obtain ⟨hg1, hg0, hg2, hg3, hg4⟩ := HG.out
            go_cut [140] (fun t wx => t = .bool false ∧ Keeps y6 wx)
            case first =>
              cases hgo : wo.gone with
              | true =>
                have hwa := hg1 hgo
                rw [hwa] at b0 b1 b2 b3 b4 b5 b6 hgo
                rw [hgo] at b6 a6
                clear hg1 hg0 hg2 hg3 hg4 hwa hgo
                go_quiet (fail)
                go_wp2_with fail
                go_meet
                exact ⟨rfl, by repeat (first | exact Keeps.refl _ | refine Keeps.drewN ?_ _)⟩
              | false =>
                rw [hgo] at b6
                rw [hg2] at b3
                rw [hg3] at b4
                rw [hg4] at b5
                clear hg1 hg0 hg2 hg3 hg4 hgo b1 b2
                go_quiet (fail)
                go_wp2_with fail
                go_meet
                exact ⟨rfl, by repeat (first | exact Keeps.refl _ | refine Keeps.drewN ?_ _)⟩
            case rest =>
            obtain ⟨rfl, hkc⟩ := hcut
            clear hg1 hg0 hg2 hg3 hg4 b0 b1 b2 b3 b4 b5 b6 a0 a1 a2 a3 a4 a5 a6
            go_wp2_with fail
            go_roundw
            case rel => exact ⟨n + 1, by simp, by omega, by rw [HX.out.1], by rw [HX.out.2], by rw [HK1.out]; simp, Lib.hid (HY.out.trans hkc)⟩
            case measure =>
              simp only [RowKit.intOf]
              omega
          · have HK1 := Lib.hid hk1
            clear hk1 HAL
            go_upto_region 23 with fail
            go_cut [96] (fun t wx => t = .bool false ∧ Keeps y4 wx)
            case first =>
              by_cases hkl : kf n < L.length
              · obtain ⟨q4, cap4, hv, hr4⟩ := (HWA.out.keeps HY.out).one hkl
                simp only [Value.slice.injEq] at hv
                obtain ⟨rfl, -, rfl⟩ := hv
                have hnu := hne L[kf n] (List.getElem?_eq_getElem hkl)
                obtain ⟨b0, -⟩ := ent7 hr4
                have e0 : decide ((kf n : Int) < (L.length : Int)) = true := decide_eq_true (by omega)
                have e0' : decide (kf n < L.length) = true := decide_eq_true hkl
                have e1 : (L[kf n].uid == A.uid) = false := by rw [beq_eq_false_iff_ne]; exact hnu
                generalize L[kf n].uid = bu at *
                clear hr4 hne hnu
                go_quiet (fail)
                go_wp2_with fail
                go_meet
                exact ⟨rfl, by repeat (first | exact Keeps.refl _ | refine Keeps.drewN ?_ _)⟩
              · have e0 : decide ((kf n : Int) < (L.length : Int)) = false := decide_eq_false (by omega)
                have e0' : decide (kf n < L.length) = false := decide_eq_false hkl
                clear hne
                go_quiet (fail)
                go_wp2_with fail
                go_meet
                exact ⟨rfl, by repeat (first | exact Keeps.refl _ | refine Keeps.drewN ?_ _)⟩
            case rest =>
            obtain ⟨rfl, hkc⟩ := hcut
            clear hne a0 a1 a2 a3 a4 a5 a6
            go_wp2_with fail
            go_roundw
            case rel => exact ⟨n + 1, by simp, by omega, by rw [HX.out.1], by rw [HX.out.2], by rw [HK1.out], Lib.hid (HY.out.trans hkc)⟩
            case measure =>
              simp only [RowKit.intOf]
              omega
        · obtain rfl : n = L'.length := by omega
          rw [List.take_length, HKF.out.2.1, ← hub, ← huc]
          have HB := Lib.hid (HB.out.keeps HY.out)
          have HK := Lib.hid (HK.out.trans HY.out)
          have HEN := Lib.hid (HEN.out.keeps HY.out)
          have hlt2 : decide (m'.next < m.next) = false := decide_eq_false (by omega)
          clear hub huc HSU HCU
          have HN := Lib.hid (next_any wr HB.out)
          have HU := Lib.hid (use_any wr HB.out)
          go_wp2_with fail
          refine HN.out.mono ?_
          rintro e z1 ⟨rfl, rfl⟩
          go_wp2_with fail
          refine HU.out.mono ?_
          rintro e z2 ⟨rfl, hk2⟩
          have HB := Lib.hid (HB.out.keeps hk2)
          have HK := Lib.hid (HK.out.trans hk2)
          have HEN := Lib.hid (HEN.out.keeps hk2)
          clear hk2 HN HU
          have HN := Lib.hid (next_any z2 HB.out)
          go_wp2_with fail
          refine HN.out.mono ?_
          rintro e z1 ⟨rfl, rfl⟩
          go_wp2_with fail
          go_roundw
          case rel => exact ⟨j + 1, p7, c7, m', L', by simp, by omega, rfl, rfl, Lib.hid ⟨HB.out.mono (by omega), HST.out, HEN.out, HK.out, HGE.out⟩⟩
          case measure =>
            simp only [RowKit.intOf]
            omega
    · go_wp2_with fail
      go_ret
      exact ⟨rfl, HH.out.keeps⟩
end Mbx
end Go.Proofs.Ytohchhgheeolpaa

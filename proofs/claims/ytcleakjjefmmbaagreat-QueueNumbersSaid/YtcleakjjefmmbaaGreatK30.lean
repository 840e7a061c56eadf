/- Several texts in one: VdBoot, VdMade. -/
import Derived.Test.YtcleakjjefmmbaaGreatK25
import Derived.Test.YtcleakjjefmmbaaGreatVdNext
import Derived.Test.YtcleakjjefmmbaaGreatK29
/- Disk.Boot. -/
namespace Go.Proofs.YtcleakjjefmmbaaGreat
open Go.RowKit Go.Shelf
namespace Vd
open Go.Maps
theorem mvM : Mids Tryz.prog 152 3 := ⟨⟨_, Tryz.underlying152, rfl⟩, by kernel_rfl⟩
def mvA (m : Mv) : Array Value := #[.int .i64 (m.node : Int), .string (bstr m.name), .bool m.made]
theorem mvA_one (m : Mv) : (mvA m).all (·.oneCell') = true := by simp [mvA, Value.oneCell']
theorem pats_at {w : World} {v : Value} {ps : List Pat} (h : w.ownsRow 0 148 2 v ps.length (ps.flatMap patC)) {j : Nat} (hj : j < ps.length) : ∃ q cap, v = .slice (some ⟨q, 0, none⟩) ps.length cap ∧ w.rangeAt q (j * 2) (patA ps[j]).toList := by
 obtain ⟨q, cap, hv, -, -, -, hc⟩ := Frm.ownsRow_at h (by omega)
 refine ⟨q, cap, hv, fun i x hx => ?_⟩
 have hi : i < 2 := by
  have := (List.getElem?_eq_some_iff.1 hx).1
  simpa [patA] using this
 refine hc (j * 2 + i) x ?_
 rw [flat_get patC_len ps j i _ (List.getElem?_eq_getElem hj) hi]
 exact hx
theorem mvs_at {w : World} {v : Value} {ms : List Mv} (h : w.ownsRow 0 152 3 v ms.length (ms.flatMap mvC)) {j : Nat} (hj : j < ms.length) : ∃ q cap, v = .slice (some ⟨q, 0, none⟩) ms.length cap ∧ w.rangeAt q (j * 3) (mvA ms[j]).toList := by
 obtain ⟨q, cap, hv, -, -, -, hc⟩ := Frm.ownsRow_at h (by omega)
 refine ⟨q, cap, hv, fun i x hx => ?_⟩
 have hi : i < 3 := by
  have := (List.getElem?_eq_some_iff.1 hx).1
  simpa [mvA] using this
 refine hc (j * 3 + i) x ?_
 rw [flat_get mvC_len ms j i _ (List.getElem?_eq_getElem hj) hi]
 exact hx
/-- the disk's blocks while it boots: its own, and those that come behind the keepers' -/
def BS (S : Nat → Prop) (W w1 : World) (y : Nat) : Prop := (S y ∧ y < W.heap.size) ∨ w1.heap.size ≤ y
/-- where Boot's first loop stands -/
structure Boot1 (W w1 wr : World) (S : Nat → Prop) (g b1 b2 : Nat) (nv mv : Value) (nb0 : List NB) (d : Dsk) (kb : Nat) (kv0 : Value) (keep : List Int) (lv : Value) (j : Nat) (nb : List NB) (ns : List Nod) (ks : List Int) (kv : Value) : Prop where
 dsk : DiskIn wr (BS S W w1) g b1 b2 nv mv nb { d with nodes := ns }
 fst : nb.map (·.1) = nb0.map (·.1)
 len : ns.length = d.nodes.length
 ix : bootIx ((knownL d).drop j) ns ks = bootIx (knownL d) d.nodes keep
 kpb : Blk wr kb 145 #[kv]
 row : ∀ w', Row w' kv0 (keep.map (Value.int .i64)) → Row w' kv (ks.map (Value.int .i64))
 known : Own wr w1.heap.size 92 lv (ptrsOf nb0 (knownL d))
 mods : Mods S W wr
 sz : w1.heap.size ≤ wr.heap.size
/-- where its second loop stands -/
structure Boot3 (W w1 wq : World) (S : Nat → Prop) (g B b2 : Nat) (nv mv : Value) (nb : List NB) (d : Dsk) (turns : Int) (j : Nat) : Prop where
 dsk : DiskIn wq (BS S W w1) g B b2 nv mv nb { d with seen := gaveN d (min j turns.toNat) }
 mods : Mods S W wq
 sz : w1.heap.size ≤ wq.heap.size
/-- where its inner one stands -/
structure Boot2 (wr wq : World) (x : Nod) (k kb : Nat) (pv : Value) (kv0 : Value) (keep ks0 : List Int) (q : Nat) (s : Str) (ks : List Int) (kv : Value) : Prop where
 ix : bootPats (x.pats.drop q) s ks = bootPats x.pats x.sure ks0
 len : s.length ≤ 1000000000
 nod : Blk wq k 95 #[.string (bstr s), .string (bstr x.sure), pv, .bool x.fresh]
 kpb : Blk wq kb 145 #[kv]
 row : ∀ w', Row w' kv0 (keep.map (Value.int .i64)) → Row w' kv (ks.map (Value.int .i64))
 mods : Mods (fun y => y = k ∨ y = kb) wr wq
theorem fst_set {nb : List NB} {i k : Nat} {pv pv' : Value} (h : nb[i]? = some (k, pv)) : (nb.set i (k, pv')).map (·.1) = nb.map (·.1) := by
 obtain ⟨hi, he⟩ := List.getElem?_eq_some_iff.1 h
 rw [List.map_set]
 refine List.ext_getElem? fun j => ?_
 rw [List.getElem?_set]
 split
 ·rename_i hji
  subst hji
  simp [hi, he]
 ·rfl
theorem known_lt {d : Dsk} {i : Nat} (h : i ∈ knownL d) : i < d.nodes.length := by
 have := (List.mem_filter.1 h).1
 simpa using this
set_option maxRecDepth 100000 in
set_option maxHeartbeats 8000000 in
theorem boot_any (w : World) {S : Nat → Prop} {g : Nat} {d : Dsk} (h : DiskAt w S g d) (turns : Int) (ht : (Lit.int .i64 turns).wf = true) {kv : Value} {keep : List Int} (hr : ∀ w', Mods S w w' → Row w' kv (keep.map (Value.int .i64))) (hgv : ∀ j, (gaveN d j).length ≤ 1024) (hnl : d.nodes.length ≤ 1000000000) (hml : d.moves.length ≤ 1000000000) : Calls Tryz.prog 24 #[.pointer (some ⟨g, 0, none⟩), .int .i64 turns, kv] w fun e w' => DskDid w (More S w w') g (bootD d turns keep) e w' := by
 obtain ⟨b1, b2, nv, mv, nb, h⟩ := h
 have HD0 := Lib.hid h
 have HD := Lib.hid h.tight
 have HR0 := Lib.hid hr
 obtain ⟨-, -, -, -, -, c5, -⟩ := h.cells
 clear h hr
 obtain ⟨pk, nk, ck, rfl⟩ : ∃ p n c, kv = .slice p n c := by
  obtain ⟨p, c, rfl, -, -⟩ := (HR0.out w (Mods.refl _ _)).form
  exact ⟨_, _, _, rfl⟩
 cases ho : d.off with
 |false =>
  rw [ho] at c5
  have HX : Hid (bootD d turns keep = (d, 13)) := Lib.hid (by unfold bootD; rw [if_pos ho])
  go_enter Tryz.func24, Tryz.ntmps24
  go_wp2_with fail
  go_ret
  unfold DskDid
  rw [HX.out]
  exact ⟨rfl, DiskAt.wide ⟨_, _, _, _, _, HD0.out⟩ (fun y hy => .inl hy), Mods.refl _ _⟩
 |true =>
  rw [ho] at c5
  have HO := Lib.hid ho
  clear ho
  go_enter Tryz.func24, Tryz.ntmps24
  go_upto_region 4 with fail
  generalize hW : World.alloc w _ = w1
  have HKP := Lib.hid (show Blk w1 w.heap.size 145 #[.slice pk nk ck] from by rw [← hW]; exact Blk.new _ _ _ rfl)
  have HK1 := Lib.hid (show Keeps w w1 from by rw [← hW]; exact (Keeps.refl _).alloc _)
  have HS1 := Lib.hid (show w1.heap.size = w.heap.size + 1 from by rw [← hW, Frm.alloc_size])
  clear hW c5
  obtain ⟨kb, hkb⟩ : ∃ kb, kb = w.heap.size := ⟨_, rfl⟩
  rw [← hkb] at HKP ⊢
  have HKB := Lib.hid hkb
  clear hkb
  have HKN := Lib.hid (known_any w1 (HD.out.keeps HK1.out) hnl)
  unfold KnownDid at HKN
  go_wp2_with fail
  refine HKN.out.mono ?_
  rintro e w2 ⟨lv, rfl, hown, hk2⟩
  obtain ⟨lp, lc, rfl, -, -⟩ := hown.row.form
  have hll : (ptrsOf nb (knownL d)).length = (knownL d).length := by simp [ptrsOf]
  have HOW := Lib.hid hown
  rw [hll] at HOW ⊢
  have HK2 := Lib.hid hk2
  clear hown hk2 HKN hll
  obtain ⟨n, hn⟩ : ∃ n, n = (knownL d).length := ⟨_, rfl⟩
  rw [← hn] at HOW ⊢
  have HN := Lib.hid hn
  have hnb : n ≤ 1000000000 := by rw [hn]; have := List.length_filter_le (knownB d) (List.range d.nodes.length); simp [knownL] at *; omega
  clear hn
  have HBS := Lib.hid (show ∀ y, BS S w w1 y → y ≠ kb from fun y hy e => by
   have h1 := HKB.out
   have h2 := HS1.out
   rcases hy with h | h
   ·omega
   ·omega)
  go_wp2_with fail
  go_loopw [24] (fun ix wr => ∃ j : Nat, ix = .int .i64 (j : Int) ∧ j ≤ n ∧ Hid (∃ nb' ns ks kv, Boot1 w w1 wr S g b1 b2 nv mv nb d kb (.slice pk nk ck) keep (.slice lp n lc) j nb' ns ks kv)) (fun ix _ => n - (RowKit.intOf ix).toNat)
  case atStart =>
   exact ⟨0, rfl, Nat.zero_le _, Lib.hid ⟨nb, d.nodes, keep, _, { dsk := ((HD.out.keeps HK1.out).keeps HK2.out).wide (fun y hy => .inl hy), fst := rfl, len := rfl, ix := rfl, kpb := HKP.out.keeps HK2.out, row := fun _ h => h, known := HOW.out, mods := Mods.of_keeps (HK1.out.trans HK2.out), sz := HK2.out.size }⟩⟩
  case round =>
   obtain ⟨j, rfl, hj, HH⟩ := hrel
   by_cases hlt : j < n
   ·obtain ⟨nb', ns, ks, kv, hB⟩ := HH.out
    have HB := Lib.hid hB
    have hjn : j < (knownL d).length := by rw [← HN.out]; exact hlt
    obtain ⟨i, hi⟩ : ∃ i, i = (knownL d)[j] := ⟨_, rfl⟩
    have hid : i < d.nodes.length := by rw [hi]; exact known_lt (List.getElem_mem hjn)
    have hin : i < ns.length := by rw [hB.len]; exact hid
    have hdrop : (knownL d).drop j = i :: (knownL d).drop (j + 1) := by rw [hi, List.drop_eq_getElem_cons hjn]
    obtain ⟨gn, cn, k, pv, rfl, hnb, -, hnd⟩ := hB.dsk.nodeAt (d := { d with nodes := ns }) hin
    have hk0 : (nb.getD i (0, undef)).1 = k := by
     have h1 := congrArg (fun l => l[i]?) hB.fst
     simp only [List.getElem?_map, hnb, Option.map_some] at h1
     cases h2 : nb[i]? with
     |none => rw [h2] at h1; simp at h1
     |some q => rw [h2] at h1; simp only [Option.map_some, Option.some.injEq] at h1; simp [List.getD_eq_getElem?_getD, h2, ← h1]
    have hpt : (ptrsOf nb (knownL d))[j]? = some (.pointer (some ⟨k, 0, none⟩)) := by
     unfold ptrsOf
     rw [List.getElem?_map, List.getElem?_eq_getElem hjn, ← hi, Option.map_some, hk0]
    obtain ⟨gl, cl, hlv, -, -, -⟩ := Own.form hB.known (by simp [ptrsOf]; omega)
    have hll : (ptrsOf nb (knownL d)).length = n := by rw [HN.out]; simp [ptrsOf]
    rw [hll] at hlv
    simp only [Value.slice.injEq] at hlv
    obtain ⟨rfl, -, rfl⟩ := hlv
    have hc0 : wr.cell? ⟨gl, j, none⟩ = some (.pointer (some ⟨k, 0, none⟩)) := hB.known.cellAt j _ hpt
    obtain ⟨x, hx⟩ : ∃ x, x = ns.getD i zeroN := ⟨_, rfl⟩
    have hxe : ns[i] = x := by rw [hx, List.getD_eq_getElem?_getD, List.getElem?_eq_getElem hin]; rfl
    simp only [hxe] at hnd
    have n1 : wr.cell? ⟨k, 1, none⟩ = some (.string (bstr x.sure)) := by rw [hnd.blk.cell]; rfl
    have nz0 : wr.frozen? ⟨k, 0, none⟩ = false := hnd.blk.frozen _
    have n0 : wr.cell? ⟨k, 0, none⟩ = some (.string (bstr x.seen)) := by rw [hnd.blk.cell]; rfl
    have HND := Lib.hid hnd
    have HNB := Lib.hid hnb
    have HX := Lib.hid hx
    have HIN := Lib.hid (And.intro hin hdrop)
    have hlt' : (j : Int) < (n : Int) := by omega
    have HXF := Lib.hid (show x.sure.length ≤ 1000000000 ∧ ∀ p ∈ x.pats, p.place + p.b.length ≤ 1000000000 from by
     rw [← hxe]
     exact ⟨(hB.dsk.fit.ns _ (List.getElem_mem hin)).2, hB.dsk.fit.ps _ (List.getElem_mem hin)⟩)
    clear hB hjn hi hid hin hdrop hnb hk0 hpt hll hx hnd hxe
    go_upto_region 8 with fail
    have HBa := Lib.hid (show Blk (wr.setCell ⟨k, 0, none⟩ (.string (bstr x.sure))) k 95 #[.string (bstr x.sure), .string (bstr x.sure), pv, .bool x.fresh] from HND.out.blk.set_ 0 _)
    have HMa := Lib.hid ((Mods.refl (fun y => y = k ∨ y = kb) wr).setCell (p := ⟨k, 0, none⟩) (fun _ => .inl rfl) (.string (bstr x.sure)))
    have HKk := Lib.hid (show k ≠ kb from HBS.out _ (HB.out.dsk.sb _ (List.mem_of_getElem? HNB.out)).1)
    have HKS := Lib.hid (show ∀ y, (y = k ∨ y = kb) → y < w.heap.size → S y from fun y hy hlt => by
     have h1 := HKB.out
     have h2 := HS1.out
     rcases hy with rfl | rfl
     ·rcases (HB.out.dsk.sb _ (List.mem_of_getElem? HNB.out)).1 with h | h
      ·exact h.1
      ·have : w1.heap.size ≤ y := h
       omega
     ·omega)
    have HPa := Lib.hid (show (wr.setCell ⟨k, 0, none⟩ (.string (bstr x.sure))).ownsRow 0 148 2 pv x.pats.length (x.pats.flatMap patC) from Frm.ownsRow_mods (S := (· = k)) HND.out.pats ((Mods.refl (· = k) wr).setCell (p := ⟨k, 0, none⟩) (fun _ => rfl) _) (fun y hy e => Frm.ownsRow_ne HND.out.pats HND.out.blk (by decide) (by rw [hy, e])))
    have HKa := Lib.hid (HB.out.kpb.mods ((Mods.refl (· = k) wr).setCell (p := ⟨k, 0, none⟩) (fun _ => rfl) (.string (bstr x.sure))) (fun e => HKk.out e.symm))
    clear n0 n1 nz0 hc0
    generalize wr.setCell ⟨k, 0, none⟩ (.string (bstr x.sure)) = wa at *
    obtain ⟨pp, pc, rfl, hpc1, hpc2⟩ := Frm.ownsRow_form HPa.out
    have n2 : wa.cell? ⟨k, 2, none⟩ = some (.slice pp x.pats.length pc) := by rw [HBa.out.cell]; rfl
    obtain ⟨m, hm⟩ : ∃ m, m = x.pats.length := ⟨_, rfl⟩
    rw [← hm] at n2
    have HM := Lib.hid hm
    have hmb : (m : Int) ≤ 9223372036854775807 := by rw [hm]; omega
    clear hm hpc1 hpc2
    go_wp2_with fail
    go_loopw [40] (fun iq wq => ∃ q : Nat, iq = .int .i64 (q : Int) ∧ q ≤ m ∧ Hid (∃ s ks' kv', Boot2 wr wq x k kb (.slice pp x.pats.length pc) (.slice pk nk ck) keep ks q s ks' kv')) (fun iq _ => m - (RowKit.intOf iq).toNat)
    case atStart =>
     exact ⟨0, rfl, Nat.zero_le _, Lib.hid ⟨x.sure, ks, kv, { ix := rfl, len := HXF.out.1, nod := HBa.out, kpb := HKa.out, row := HB.out.row, mods := HMa.out }⟩⟩
    case round =>
     obtain ⟨q, rfl, hq, HQ⟩ := hrel
     rename World => wq
     by_cases hql : q < m
     ·obtain ⟨s, ks', kv', hB2⟩ := HQ.out
      have HB2 := Lib.hid hB2
      have hqp : q < x.pats.length := by rw [← HM.out]; exact hql
      obtain ⟨p, hp⟩ : ∃ p, p = x.pats[q] := ⟨_, rfl⟩
      have hdr : x.pats.drop q = p :: x.pats.drop (q + 1) := by rw [hp, List.drop_eq_getElem_cons hqp]
      have hpl : p.place + p.b.length ≤ 1000000000 := by rw [hp]; exact HXF.out.2 _ (List.getElem_mem hqp)
      obtain ⟨gp, cp, hv, hrg⟩ := pats_at (Frm.ownsRow_mods HND.out.pats hB2.mods (fun y hy e => e.elim (fun e => Frm.ownsRow_ne HND.out.pats HND.out.blk (by decide) (by rw [hy, e])) (fun e => Frm.ownsRow_ne HND.out.pats HB.out.kpb (by decide) (by rw [hy, e])))) hqp
      simp only [Value.slice.injEq] at hv
      obtain ⟨rfl, -, rfl⟩ := hv
      rw [← hp] at hrg
      have HRG := Lib.hid hrg
      have HDR := Lib.hid hdr
      have hql' : (q : Int) < (m : Int) := by omega
      clear hB2 hqp hp hdr hrg
      go_upto_region 11 with (first
       |refine wpList_ldR rfl patM HRG.out _ rfl rfl ?_
       |(refine wpList_st (ds := patA p) rfl patM (Blk.new _ _ _ rfl) rfl (patA_one _) _ _ rfl rfl rfl rfl ?_; intro w6 hB6 hM6))
      have HK6 := Lib.hid (show Keeps wq w6 from hM6.keeps ((Keeps.refl _).alloc _) (fun y hy => by rw [hy]; exact Nat.le_refl _))
      have HB6 := Lib.hid hB6
      obtain ⟨a6, ha6⟩ : ∃ a6, a6 = wq.heap.size := ⟨_, rfl⟩
      rw [← ha6] at HB6 ⊢
      have HA6 := Lib.hid ha6
      clear hB6 hM6 ha6
      have HNX := Lib.hid (next_any w6 (HB2.out.kpb.keeps HK6.out) (ks := ks') (fun w' hm => HB2.out.row w' (HR0.out w' (HB.out.mods.trans (HB2.out.mods.trans ((Mods.of_keeps (S := fun y => y = k ∨ y = kb) HK6.out).trans hm (fun y hy _ => .inr hy)) (fun y hy _ => hy)) HKS.out))) p (by omega))
      unfold NextDid at HNX
      go_wp2_with (refine wpList_ld rfl patM HB6.out _ rfl rfl ?_)
      refine HNX.out.mono ?_
      rintro e w7 ⟨kv2, rfl, hkb7, hrow7, hm7⟩
      obtain ⟨kp, hkp⟩ : ∃ kp, kp = (keepN ks' p).1 := ⟨_, rfl⟩
      obtain ⟨ks2, hks2⟩ : ∃ ks2, ks2 = (keepN ks' p).2 := ⟨_, rfl⟩
      have HST := Lib.hid (show bootPats (p :: x.pats.drop (q + 1)) s ks' = bootPats (x.pats.drop (q + 1)) (if kp.b = [] then s else overL s kp.place kp.b) ks2 ∧ (if kp.b = [] then s else overL s kp.place kp.b).length ≤ 1000000000 from by
       rw [hkp, hks2]
       exact ⟨bootPats_cons _ _ _ _, bootStep_len _ HB2.out.len hpl⟩)
      have hkl : kp.place + kp.b.length ≤ 1000000000 := by
       have := keepN_b ks' p
       rw [hkp]
       omega
      rw [← hkp]
      rw [← hks2] at hrow7
      have H7 := Lib.hid (And.intro hkb7 (And.intro hrow7 hm7))
      clear hkb7 hrow7 hm7 HNX hkp hks2
      go_upto_region 12 with (refine wpList_st (ds := patA kp) rfl patM (Blk.new _ _ _ rfl) rfl (patA_one _) _ _ rfl rfl rfl rfl ?_; intro w8 hB8 hM8)
      have HK8 := Lib.hid (show Keeps w7 w8 from hM8.keeps ((Keeps.refl _).alloc _) (fun y hy => by rw [hy]; exact Nat.le_refl _))
      have HB8 := Lib.hid hB8
      obtain ⟨a8, ha8⟩ : ∃ a8, a8 = w7.heap.size := ⟨_, rfl⟩
      rw [← ha8] at HB8 ⊢
      have HA8 := Lib.hid ha8
      clear hB8 hM8 ha8
      have s8 : w8.cell? ⟨a8, 1, none⟩ = some (.string (bstr kp.b)) := by rw [HB8.out.cell]; rfl
      have HQ8 := Lib.hid (show k < wq.heap.size ∧ kb < wq.heap.size from ⟨HB2.out.nod.lt, HB2.out.kpb.lt⟩)
      have HND8 := Lib.hid (show Blk w8 k 95 #[.string (bstr s), .string (bstr x.sure), .slice (some ⟨gp, 0, none⟩) x.pats.length pc, .bool x.fresh] from ((HB2.out.nod.keeps HK6.out).mods H7.out.2.2 (fun e => HKk.out e)).keeps HK8.out)
      have k8 : w8.cell? ⟨k, 0, none⟩ = some (.string (bstr s)) := by rw [HND8.out.cell]; rfl
      have HSL := Lib.hid HB2.out.len
      have HEND := Lib.hid (show ∀ wx, Blk wx k 95 #[.string (bstr (if kp.b = [] then s else overL s kp.place kp.b)), .string (bstr x.sure), .slice (some ⟨gp, 0, none⟩) x.pats.length pc, .bool x.fresh] → Mods (· = k) w8 wx → ∃ s ks' kv', Boot2 wr wx x k kb (.slice (some ⟨gp, 0, none⟩) x.pats.length pc) (.slice pk nk ck) keep ks (q + 1) s ks' kv' from fun wx hb hm =>
       ⟨_, ks2, kv2, { ix := by rw [← HST.out.1, ← HDR.out]; exact HB2.out.ix, len := HST.out.2, nod := hb, kpb := (H7.out.1.keeps HK8.out).mods hm (fun e => HKk.out e.symm), row := fun w' h => H7.out.2.1 w' (HB2.out.row w' h), mods := HB2.out.mods.trans ((Mods.of_keeps (S := fun y => y = k ∨ y = kb) HK6.out).trans ((H7.out.2.2.mono (fun y hy => (show y = k ∨ y = kb from .inr hy))).trans ((Mods.of_keeps (S := fun y => y = k ∨ y = kb) HK8.out).trans hm (fun y hy _ => .inl hy)) (fun y hy _ => hy)) (fun y hy _ => hy)) (fun y hy _ => hy) }⟩)
      have bt := bstr_toList kp.b
      have bz : (⟨#[]⟩ : ByteArray).toList = [] := bstr_toList []
      by_cases he : kp.b = []
      ·have e1 : (kp.b == []) = true := by rw [he]; rfl
       have HE := Lib.hid (show (if kp.b = [] then s else overL s kp.place kp.b) = s from if_pos he)
       clear he
       go_wp2_with fail
       go_roundw
       case rel => exact ⟨q + 1, by simp, by omega, Lib.hid (HEND.out w8 (by rw [HE.out]; exact HND8.out) (Mods.refl _ _))⟩
       case measure =>
        simp only [RowKit.intOf]
        omega
      ·have e1 : (kp.b == []) = false := by simp [he]
       have HE := Lib.hid (show (if kp.b = [] then s else overL s kp.place kp.b) = overL s kp.place kp.b from if_neg he)
       clear he
       go_upto_region 13 with fail
       have HKQ := Lib.hid (show a8 ≠ k from fun e => by have h1 := HND8.out; have h2 := HB8.out; unfold Blk at h1 h2; rw [e, h1] at h2; simp at h2)
       have HXd := Lib.hid HND8.out.drew
       refine wp_region_noPanic ?_
       refine wp_region_held_drew (S := fun w' => Mods (· = k) w8 w') (by kernel_rfl) ((Mods.refl (· = k) w8).drew) (fun _ => ?_)
       have hHeld : Mods (· = k) w8 (w8).drew := (Mods.refl (· = k) w8).drew
       generalize World.drew w8 = xs at *
       refine tq 0 49 ?_
       refine tq 1 50 ?_ (hy := fun w' hSw => by
        have hSw : Mods (· = k) w8 w' := hSw
        have hBq := HB8.out.mods hSw (fun e => HKQ.out e)
        have hx0 : World.cell? w' ⟨a8, 0, none⟩ = some (.int .i64 (kp.place : Int)) := by rw [hBq.cell]; rfl
        have hx1 : World.cell? w' ⟨a8, 1, none⟩ = some (.string (bstr kp.b)) := by rw [hBq.cell]; rfl
        clear hSw
        go_simp
        try with_reducible rfl)
       refine tq 2 51 ?_
       refine tq 3 52 ?_
       refine tq 4 53 ?_
       refine rd1 5 (fun K hK => ?_)
       have hx : World.cell? xs ⟨k, 0, none⟩ = some (.string (bstr s)) := by rw [HXd.out.cell]; rfl
       go_simp
       clear hx
       have hb := hHeld
       refine bkm hK hb ?_
       clear hK K hHeld
       have hHeld : Mods (· = k) w8 xs := hb
       clear hb
       refine rd1 6 (fun K hK => ?_)
       go_simp
       refine (over_any s kp.b kp.place (by have := HSL.out; omega) (by omega) (by omega) _).mono ?_
       rintro e x6 ⟨rfl, hk6⟩
       have HXd := Lib.hid (HXd.out.keeps hk6)
       have hb := hHeld.trans (Mods.of_keeps (S := (· = k)) hk6) (fun y hy _ => hy)
       clear hk6
       go_wp2_with fail
       refine bkm hK hb ?_
       clear hK K hHeld
       have hHeld : Mods (· = k) w8 x6 := hb
       clear hb
       refine tq 7 56 ?_
       refine tq 8 57 ?_
       refine rd1 9 (fun K hK => ?_)
       have hx : World.cell? x6 ⟨k, 0, none⟩ = some (.string (bstr s)) := by rw [HXd.out.cell]; rfl
       have hz : World.frozen? x6 ⟨k, 0, none⟩ = false := HXd.out.frozen 0
       go_simp
       have HX3 := Lib.hid (HXd.out.set_ 0 (.string (bstr (overL s kp.place kp.b))))
       have hb := hHeld.setCell (p := ⟨k, 0, none⟩) (fun _ => rfl) (.string (bstr (overL s kp.place kp.b)))
       clear hx hz HXd
       generalize World.setCell x6 ⟨k, 0, none⟩ (.string (bstr (overL s kp.place kp.b))) = xF at *
       refine bkm hK hb ?_
       clear hK K hHeld
       have hHeld : Mods (· = k) w8 xF := hb
       clear hb
       refine wpAnyH_done (by kernel_rfl) ?_ _
       refine NoPanic.normal ?_
       go_wp2_with fail
       go_roundw
       case rel => exact ⟨q + 1, by simp, by omega, Lib.hid (HEND.out xF (by rw [HE.out]; exact HX3.out) hHeld)⟩
       case measure =>
        simp only [RowKit.intOf]
        omega
     ·obtain ⟨s, ks', kv', hB2⟩ := HQ.out
      have hqm : q = m := by omega
      have hdr : x.pats.drop q = [] := by rw [hqm, HM.out]; simp
      have HBP := Lib.hid (show bootPats x.pats x.sure ks = (s, ks') from by rw [← hB2.ix, hdr]; rfl)
      have HB2 := Lib.hid hB2
      have hpw := Frm.ownsRow_mods HND.out.pats hB2.mods (fun y hy e => e.elim (fun e => Frm.ownsRow_ne HND.out.pats HND.out.blk (by decide) (by rw [hy, e])) (fun e => Frm.ownsRow_ne HND.out.pats HB.out.kpb (by decide) (by rw [hy, e])))
      have HSE := Lib.hid (settle_any wq (show NodB wq (k, .slice pp x.pats.length pc) ⟨s, x.sure, x.pats, x.fresh⟩ from ⟨hB2.nod, hpw⟩))
      have hql' : decide ((q : Int) < (m : Int)) = false := by simp; omega
      clear hB2 hqm hdr hpw
      go_wp2_with fail
      refine HSE.out.mono ?_
      rintro e w9 ⟨rfl, hn9, hm9⟩
      have hM9 : Mods (fun y => y = k ∨ y = kb) wr w9 := HB2.out.mods.trans hm9 (fun y hy _ => .inl hy)
      have hbn : settleN ⟨s, x.sure, x.pats, x.fresh⟩ = bootN x ks := by unfold settleN bootN; rw [HBP.out]
      rw [hbn] at hn9
      have hR := HB.out.dsk.node2 (d := { d with nodes := ns }) HIN.out.1 HNB.out hM9 (fun y hy => hy.imp id (fun e => .inr (fun h => HBS.out _ h e))) hn9 (fun y hy => by simp [Value.ownBlock] at hy) (by rw [HX.out]; exact fit_bootN HD0.out.fit HB.out.dsk.fit HIN.out.1 ks)
      have HE := Lib.hid (show Boot1 w w1 w9 S g b1 b2 (.slice (some ⟨gn, 0, none⟩) { d with nodes := ns }.nodes.length cn) mv nb d kb (.slice pk nk ck) keep (.slice (some ⟨gl, 0, none⟩) n lc) (j + 1) (nb'.set i (k, .slice none 0 0)) (ns.set i (bootN x ks)) ks' kv' from
       {dsk := hR.wide (fun y hy => hy.elim id (fun h => .inr (Nat.le_trans HB.out.sz h.1)))
        fst := (fst_set HNB.out).trans HB.out.fst
        len := by rw [List.length_set]; exact HB.out.len
        ix := by
         rw [← HB.out.ix, HIN.out.2, bootIx_cons, ← HX.out, HBP.out]
        kpb := HB2.out.kpb.mods hm9 (fun e => HKk.out e.symm)
        row := HB2.out.row
        known := HB.out.known.mods hM9 (fun y hy e => e.elim (fun e => Own.blk_ne HB.out.known HND.out.blk (by decide) (by rw [hy, e])) (fun e => Own.blk_ne HB.out.known HB.out.kpb (by decide) (by rw [hy, e])))
        mods := HB.out.mods.trans hM9 HKS.out
        sz := Nat.le_trans HB.out.sz hM9.size })
      clear hn9 hm9 hM9 hbn hR HSE HB2 HBP
      go_wp2_with fail
      go_roundw
      case rel => exact ⟨j + 1, by simp, by omega, Lib.hid ⟨_, _, _, _, HE.out⟩⟩
      case measure =>
       simp only [RowKit.intOf]
       omega
   ·obtain ⟨nb', ns, ks, kv, hB⟩ := HH.out
    have hjn : j = n := by omega
    have hlt' : decide ((j : Int) < (n : Int)) = false := by simp; omega
    have hdr : (knownL d).drop j = [] := by rw [hjn, HN.out]; simp
    have hns : ns = (bootIx (knownL d) d.nodes keep).1 := by rw [← hB.ix, hdr]; rfl
    have HXD : Hid (bootD d turns keep = ({ fixD { { d with nodes := ns } with seen := gaveN d turns.toNat } with off := false, fail := (-1, 0), crash := (-1, 0) }, 0)) := Lib.hid (by
     unfold bootD
     rw [if_neg (by rw [HO.out]; simp), hns]
     rfl)
    have hln1 : ns.length ≤ 1000000000 := by rw [hB.len]; exact hnl
    have HB := Lib.hid (And.intro hB.mods hB.sz)
    have HD1 := Lib.hid hB.dsk
    have hgv1 : ∀ j, (gaveN { d with nodes := ns } j).length ≤ 1024 := hgv
    have hml1 : ({ d with nodes := ns } : Dsk).moves.length ≤ 1000000000 := hml
    have HXD1 : Hid (bootD d turns keep = ({ fixD { { d with nodes := ns } with seen := gaveN { d with nodes := ns } turns.toNat } with off := false, fail := (-1, 0), crash := (-1, 0) }, 0)) := HXD
    have hln2 : ({ d with nodes := ns } : Dsk).nodes.length ≤ 1000000000 := hln1
    clear hB hjn hdr hns HXD hln1 HH
    generalize ({ d with nodes := ns } : Dsk) = d1 at *
    have c3 : wr.cell? ⟨g, 3, none⟩ = some (.map (some b2)) := by rw [HD1.out.blk.cell]; rfl
    have HCL := Lib.hid (cloneNames_any wr HD1.out.sure)
    go_wp2_with fail
    refine HCL.out.mono ?_
    rintro e w3 ⟨rfl, hn3, hk3⟩
    have HK3 := Lib.hid hk3
    have HN3 := Lib.hid hn3
    have HG3 := Lib.hid (HD1.out.blk.keeps hk3)
    have c2 : w3.cell? ⟨g, 2, none⟩ = some (.map (some b1)) := by rw [HG3.out.cell]; rfl
    have z2 : w3.frozen? ⟨g, 2, none⟩ = false := HG3.out.frozen _
    clear hk3 hn3 HCL c3
    go_upto_region 18 with fail
    have HM4 := Lib.hid ((Mods.of_keeps (S := (· = g)) HK3.out).setCell (p := ⟨g, 2, none⟩) (fun _ => rfl) (.map (some wr.heap.size)))
    have HG4 := Lib.hid (show Blk (w3.setCell ⟨g, 2, none⟩ (.map (some wr.heap.size))) g 89 (diskA { d1 with seen := gaveN d1 0 } nv wr.heap.size b2 mv) from HG3.out.set_ 2 _)
    have HN4 := Lib.hid (HN3.out.mods ((Mods.refl (· = g) w3).setCell (p := ⟨g, 2, none⟩) (fun _ => rfl) (.map (some wr.heap.size))) (fun e => by have := HD1.out.blk.lt; omega))
    clear c2 z2
    generalize w3.setCell ⟨g, 2, none⟩ (.map (some wr.heap.size)) = w4 at *
    have HD4 := Lib.hid (show DiskIn w4 (BS S w w1) g wr.heap.size b2 nv mv nb' { d1 with seen := gaveN d1 0 } from
     HD1.out.anew (S' := BS S w w1) (T := (· = g)) (d' := { d1 with seen := gaveN d1 0 }) (fun y hy => hy) HM4.out (fun y hy => .inl hy) rfl HG4.out HN4.out (HD1.out.sure.mods HM4.out (fun e => HD1.out.ng.2.1 e)) (Frm.ownsRow_mods HD1.out.mvs HM4.out (fun y hy e => HD1.out.ng.2.2.2.1 (by rw [hy, e]))) (fun e => by have := HD1.out.sure.lt; omega) (.inr HB.out.2) HD1.out.s2 HD1.out.sm (fit_gave HD1.out.fit 0 (hgv1 0)))
    have HB4 := Lib.hid (show Boot3 w w1 w4 S g wr.heap.size b2 nv mv nb' d1 turns 0 from
     {dsk := by rw [Nat.zero_min]; exact HD4.out
      mods := HB.out.1.trans HM4.out (fun y hy hlt => by
       subst hy
       rcases HD1.out.sg with h | h
       ·exact h.1
       ·have h1 := HS1.out
        have : w1.heap.size ≤ y := h
        omega)
      sz := Nat.le_trans HB.out.2 HM4.out.size })
    obtain ⟨pm, cm, rfl, -, -⟩ := Frm.ownsRow_form HD4.out.mvs
    have c4 : w4.cell? ⟨g, 4, none⟩ = some (.slice pm d1.moves.length cm) := by rw [HG4.out.cell]; rfl
    obtain ⟨B, hBe⟩ : ∃ B, B = wr.heap.size := ⟨_, rfl⟩
    rw [← hBe] at HB4
    clear hBe HD4 HN4 HG4 HM4 HG3 HN3
    obtain ⟨M, hM⟩ : ∃ M, M = d1.moves.length := ⟨_, rfl⟩
    rw [← hM] at c4 hml1
    have HM := Lib.hid hM
    clear hM
    go_wp2_with fail
    go_loopw [75] (fun ix wq => ∃ q : Nat, ix = .int .i64 (q : Int) ∧ q ≤ M ∧ Hid (Boot3 w w1 wq S g B b2 nv (.slice pm d1.moves.length cm) nb' d1 turns q)) (fun ix _ => M - (RowKit.intOf ix).toNat)
    case atStart => exact ⟨0, rfl, Nat.zero_le _, HB4⟩
    case round =>
     obtain ⟨q, rfl, hq, HQ⟩ := hrel
     rename World => wq
     by_cases hql : q < M
     ·have hqm : q < d1.moves.length := by rw [← HM.out]; exact hql
      obtain ⟨m, hm⟩ : ∃ m, m = d1.moves[q] := ⟨_, rfl⟩
      obtain ⟨gm, cm', hv, hrg⟩ := mvs_at HQ.out.dsk.mvs hqm
      simp only [Value.slice.injEq] at hv
      obtain ⟨rfl, -, rfl⟩ := hv
      have hrg' : wq.rangeAt gm (q * 3) (mvA m).toList := by rw [hm]; exact hrg
      have HRG := Lib.hid hrg'
      have hmn : m.name.length ≤ 32 := by rw [hm]; exact HQ.out.dsk.fit.nm _ (List.getElem_mem hqm)
      have HGS := Lib.hid (show ∀ j, j = q → gaveN d1 (j + 1) = giveN (gaveN d1 j) m from fun j e => by subst e; rw [hm]; exact gaveN_succ hqm)
      have hql' : (q : Int) < (M : Int) := by omega
      clear hqm hm hrg hrg'
      go_upto_region 21 with (first
       |refine wpList_ldR rfl mvM HRG.out _ rfl rfl ?_
       |(refine wpList_st (ds := mvA m) rfl mvM (Blk.new _ _ _ rfl) rfl (mvA_one _) _ _ rfl rfl rfl rfl ?_; intro w6 hB6 hM6))
      have HK6 := Lib.hid (show Keeps wq w6 from hM6.keeps ((Keeps.refl _).alloc _) (fun y hy => by rw [hy]; exact Nat.le_refl _))
      have HB6 := Lib.hid hB6
      obtain ⟨a6, ha6⟩ : ∃ a6, a6 = wq.heap.size := ⟨_, rfl⟩
      rw [← ha6] at HB6 ⊢
      have HA6 := Lib.hid ha6
      clear hB6 hM6 ha6
      have HD6 := Lib.hid (HQ.out.dsk.keeps HK6.out)
      by_cases htn : (q : Int) < turns
      ·have HMN := Lib.hid (show min q turns.toNat = q ∧ min (q + 1) turns.toNat = q + 1 from ⟨by omega, by omega⟩)
       have hls : (gaveN d1 (min q turns.toNat)).length < 1000000 := by have := hgv1 (min q turns.toNat); omega
       have hm3 : m.name.length ≤ maxLen := by unfold maxLen; omega
       have HNM := Lib.hid (show NamesAt w6.drew B (gaveN d1 (min q turns.toNat)).length (gaveN d1 (min q turns.toNat)) from HD6.out.seen.keeps (Keeps.refl w6).drew)
       have HBG := Lib.hid (show g ≠ B from fun e => HD6.out.ng.1 e.symm)
       have HB6B := Lib.hid (show a6 ≠ B from fun e => by have := HQ.out.dsk.seen.lt; have := HA6.out; omega)
       go_upto_region 22 with fail
       refine wp_region_noPanic ?_
       refine wp_region_held_drew (S := fun w' => Mods (· = B) w6 w') (by kernel_rfl) ((Mods.refl (· = B) w6).drew) (fun _ => ?_)
       have hHeld : Mods (· = B) w6 (w6).drew := (Mods.refl (· = B) w6).drew
       generalize World.drew w6 = xs at *
       refine tq 0 83 ?_
       refine tq 1 84 ?_
       refine tq 2 85 ?_
       refine tq 3 86 ?_ (hy := fun w' hSw => by
        have hSw : Mods (· = B) w6 w' := hSw
        have hBq := HD6.out.blk.mods hSw (fun e => HBG.out e)
        have hx0 : World.cell? w' ⟨g, 2, none⟩ = some (.map (some B)) := by rw [hBq.cell]; rfl
        clear hSw
        go_simp
        try with_reducible rfl)
       refine tq 4 87 ?_ (hy := fun w' hSw => by
        have hSw : Mods (· = B) w6 w' := hSw
        have hBq := HB6.out.mods hSw (fun e => HB6B.out e)
        have hx0 : World.cell? w' ⟨a6, 0, none⟩ = some (.int .i64 (m.node : Int)) := by rw [hBq.cell]; rfl
        have hx1 : World.cell? w' ⟨a6, 1, none⟩ = some (.string (bstr m.name)) := by rw [hBq.cell]; rfl
        have hx2 : World.cell? w' ⟨a6, 2, none⟩ = some (.bool m.made) := by rw [hBq.cell]; rfl
        clear hSw
        go_simp
        try with_reducible rfl)
       refine rd1 5 (fun K hK => ?_)
       go_simp
       refine (give_any _ HNM.out hls m hm3).mono ?_
       rintro e yA ⟨rfl, hn1, hM1⟩
       have hb := hHeld.trans hM1 (fun x hx _ => hx)
       have HNA := Lib.hid hn1
       clear hn1 hM1
       go_wp2_with fail
       refine bkm hK hb ?_
       clear hK K hHeld
       have hHeld : Mods (· = B) w6 yA := hb
       clear hb
       refine wpAnyH_done (by kernel_rfl) ?_ _
       refine NoPanic.normal ?_
       have hE : Boot3 w w1 yA S g B b2 nv (.slice (some ⟨gm, 0, none⟩) d1.moves.length cm) nb' d1 turns (q + 1) := by
        have hn := HNA.out.tight
        rw [HMN.out.1, ← HGS.out q rfl] at hn
        have hM := hHeld
        refine ⟨?_, HQ.out.mods.trans ((Mods.of_keeps (S := (· = B)) HK6.out).trans hM (fun y hy _ => hy)) (fun y hy hlt => ?_), Nat.le_trans HQ.out.sz (Nat.le_trans HK6.out.size hM.size)⟩
        ·rw [HMN.out.2]
         exact HD6.out.anew (S' := BS S w w1) (T := (· = B)) (d' := { d1 with seen := gaveN d1 (q + 1) }) (fun y hy => hy) hM (fun y hy => .inr (.inl hy)) rfl (HD6.out.blk.mods hM (fun e => HBG.out e)) hn (HD6.out.sure.mods hM (fun e => HD6.out.d12 e.symm)) (Frm.ownsRow_mods HD6.out.mvs hM (fun y hy e => names_ty HD6.out.seen (owns_ty HD6.out.mvs hy) e.symm)) HD6.out.d12 HD6.out.s1 HD6.out.s2 HD6.out.sm (fit_gave HD1.out.fit (q + 1) (hgv1 _))
        ·subst hy
         rcases HD6.out.s1 with h | h
         ·exact h.1
         ·have h1 := HS1.out
          have : w1.heap.size ≤ y := h
          omega
       have HE := Lib.hid hE
       clear hE
       go_wp2_with fail
       go_roundw
       case rel => exact ⟨q + 1, by simp, by omega, HE⟩
       case measure =>
        simp only [RowKit.intOf]
        omega
      ·have HE := Lib.hid (show Boot3 w w1 w6 S g B b2 nv (.slice (some ⟨gm, 0, none⟩) d1.moves.length cm) nb' d1 turns (q + 1) from by
        have hmn : min (q + 1) turns.toNat = min q turns.toNat := by omega
        refine ⟨by rw [hmn]; exact HD6.out, HQ.out.mods.trans (Mods.of_keeps (S := (· = B)) HK6.out) (fun y hy hlt => ?_), Nat.le_trans HQ.out.sz HK6.out.size⟩
        subst hy
        rcases HD6.out.s1 with h | h
        ·exact h.1
        ·have h1 := HS1.out
         have : w1.heap.size ≤ y := h
         omega)
       have htn' : decide ((q : Int) < turns) = false := by simp; omega
       go_wp2_with fail
       go_roundw
       case rel => exact ⟨q + 1, by simp, by omega, HE⟩
       case measure =>
        simp only [RowKit.intOf]
        omega
     ·have hgt : gaveN d1 (min q turns.toNat) = gaveN d1 turns.toNat := by
       have hqM : q = d1.moves.length := by have := HM.out; omega
       by_cases h : turns.toNat ≤ q
       ·rw [Nat.min_eq_right h]
       ·rw [Nat.min_eq_left (by omega), hqM, gaveN_all (d := d1) (j := turns.toNat) (by omega)]
      have HD7 := Lib.hid (show DiskIn wq (BS S w w1) g B b2 nv (.slice pm d1.moves.length cm) nb' { d1 with seen := gaveN d1 turns.toNat } from by rw [← hgt]; exact HQ.out.dsk)
      have HQ7 := Lib.hid (And.intro HQ.out.mods HQ.out.sz)
      have hql' : decide ((q : Int) < (M : Int)) = false := by simp; omega
      have HFX := Lib.hid (fix_any wq ⟨_, _, _, _, _, HD7.out⟩ hln2)
      clear hgt HQ
      go_wp2_with fail
      refine HFX.out.mono ?_
      rintro e w9 ⟨rfl, hd9, hm9⟩
      obtain ⟨e1, e2, env, emv, enb, hd9⟩ := hd9
      have HD9 := Lib.hid hd9
      have HM9 := Lib.hid hm9
      have c5 : w9.cell? ⟨g, 5, none⟩ = some (.bool d1.off) := by rw [HD9.out.blk.cell]; rfl
      have c7 : w9.cell? ⟨g, 7, none⟩ = some (.int .i64 d1.fail.1) := by rw [HD9.out.blk.cell]; rfl
      have c8 : w9.cell? ⟨g, 8, none⟩ = some (.int .i64 d1.fail.2) := by rw [HD9.out.blk.cell]; rfl
      have c9 : w9.cell? ⟨g, 9, none⟩ = some (.int .i64 d1.crash.1) := by rw [HD9.out.blk.cell]; rfl
      have c10 : w9.cell? ⟨g, 10, none⟩ = some (.int .i64 d1.crash.2) := by rw [HD9.out.blk.cell]; rfl
      have z5 : w9.frozen? ⟨g, 5, none⟩ = false := HD9.out.blk.frozen _
      have z7 : w9.frozen? ⟨g, 7, none⟩ = false := HD9.out.blk.frozen _
      have z8 : w9.frozen? ⟨g, 8, none⟩ = false := HD9.out.blk.frozen _
      have z9 : w9.frozen? ⟨g, 9, none⟩ = false := HD9.out.blk.frozen _
      have z10 : w9.frozen? ⟨g, 10, none⟩ = false := HD9.out.blk.frozen _
      clear hd9 hm9 HFX
      go_wp2_with fail
      go_ret
      unfold DskDid
      rw [HXD1.out]
      have hM := ((((((Mods.refl (· = g) w9).setCell (p := ⟨g, 5, none⟩) (fun _ => rfl) (.bool false)).setCell (p := ⟨g, 7, none⟩) (fun _ => rfl) (.int .i64 (-1))).setCell (p := ⟨g, 8, none⟩) (fun _ => rfl) (.int .i64 0)).setCell (p := ⟨g, 9, none⟩) (fun _ => rfl) (.int .i64 (-1))).setCell (p := ⟨g, 10, none⟩) (fun _ => rfl) (.int .i64 0))
      have hR := HD9.out.turn hM (off := false) (fail := (-1, 0)) (crash := (-1, 0)) (count := d1.count) (((((HD9.out.blk.set_ 5 _).set_ 7 _).set_ 8 _).set_ 9 _).set_ 10 _) (by decide) (by decide)
      have hup : ∀ y, Up (BS S w w1) wq y → Up S w y := fun y hy => by
       have h1 := HS1.out
       have h2 := HQ7.out.2
       rcases hy with (h | h) | h
       ·exact .inl h.1
       ·exact .inr (by have : w1.heap.size ≤ y := h; omega)
       ·exact .inr (by omega)
      have hlow : ∀ y, Up (BS S w w1) wq y → y < w.heap.size → S y := fun y hy hlt => (hup y hy).elim id (fun h => by omega)
      refine ⟨rfl, DiskAt.down ⟨_, _, _, _, _, hR.wide hup⟩, Mods.mono (HQ7.out.1.trans (HM9.out.trans hM (fun y hy hlt => ?_)) (fun y hy hlt => hlow y (.inl hy) hlt)) (fun y hy => .inl hy)⟩
      subst hy
      exact HD7.out.sg
end Vd
end Go.Proofs.YtcleakjjefmmbaaGreat

/- What New makes: files, nodes, names; where it stands behind some files. -/
namespace Go.Proofs.YtcleakjjefmmbaaGreat
open Go.RowKit Go.Shelf
namespace Vd
open Go.Maps
/-- a file that is given: its name, its bytes, the slice of these -/
abbrev FileX := Str × Str × Value
def fileA (f : FileX) : Array Value := #[.string (bstr f.1), f.2.2]
def fileC (f : FileX) : List Value := (fileA f).toList
theorem fileC_len (f : FileX) : (fileC f).length = 2 := rfl
theorem fileM : Mids Tryz.prog 81 2 := ⟨⟨_, Tryz.underlying81, rfl⟩, by kernel_rfl⟩
structure FileOk (w : World) (f : FileX) : Prop where
 row : Row w f.2.2 (f.2.1.map u8v)
 len : f.1.length ≤ 9000000000000000000
theorem FileOk.keeps {w w' : World} {f : FileX} (h : FileOk w f) (k : Keeps w w') : FileOk w' f := ⟨h.row.keeps k, h.len⟩
theorem rowS_file {w : World} {v : Value} {l : List FileX} (h : RowS w 2 v l.length (l.flatMap fileC)) {j : Nat} (hj : j < l.length) : ∃ b off cap, v = .slice (some ⟨b, off, none⟩) l.length cap ∧ w.rangeAt b (off + j * 2) (fileA l[j]).toList := by
 obtain ⟨b, off, cap, hv, -, -, hc⟩ := h.at_ (by omega)
 refine ⟨b, off, cap, hv, fun i x hx => ?_⟩
 have hi : i < 2 := by
  have := (List.getElem?_eq_some_iff.1 hx).1
  simpa [fileA] using this
 rw [Nat.add_assoc]
 refine hc.out (j * 2 + i) x ?_
 rw [flat_get fileC_len l j i _ (List.getElem?_eq_getElem hj) hi]
 exact hx
def madeN (b : Str) : Nod := ⟨b, b, [], false⟩
/-- the nodes and names of files, laid one behind the other -/
def newF (room : Int) : List FileX → List Nod → Nms → Option (List Nod × Nms)
 | [], ns, l => some (ns, l)
 |f :: fs, ns, l => if (look l f.1).isSome then none else if namedB f.1 = false then none else if room - (bytesN ns l : Int) < (f.2.1.length : Int) then none else newF room fs (ns ++ [madeN f.2.1]) (putN l f.1 ns.length)
def newD (fs : List FileX) (cap : Int) : Option Dsk :=
 if cap < 1 ∨ 4194304 < cap ∨ 1024 < fs.length then none
 else (newF cap fs [] []).map fun r => ⟨cap, r.1, r.2, r.2, [], false, 0, (-1, 0), (-1, 0)⟩
theorem newF_cons (room : Int) (f : FileX) (fs : List FileX) (ns : List Nod) (l : Nms) : newF room (f :: fs) ns l = if (look l f.1).isSome then none else if namedB f.1 = false then none else if room - (bytesN ns l : Int) < (f.2.1.length : Int) then none else newF room fs (ns ++ [madeN f.2.1]) (putN l f.1 ns.length) := rfl
def newA (room : Int) (nv : Value) (b1 : Nat) : Array Value := #[.int .i64 room, nv, .map (some b1), .map none, .slice none 0 0, .bool false, .int .i64 0, .int .i64 (-1), .int .i64 0, .int .i64 (-1), .int .i64 0]
/-- what New answers -/
def NewDid (W : World) (r : Option Dsk) (e : Ending) (w' : World) : Prop := Keeps W w' ∧ match r with
 |none => e = .returned (.pointer none)
 |some d => ∃ g, e = .returned (.pointer (some ⟨g, 0, none⟩)) ∧ DiskAt w' (fun y => W.heap.size ≤ y) g d
/-- where New stands behind some files -/
structure NewSt (W wr : World) (g b1 : Nat) (cap : Int) (fs : List FileX) (j : Nat) (nv : Value) (nb : List NB) (ns : List Nod) (l : Nms) : Prop where
 half : HalfIn wr g (newA cap nv b1) b1 nv nb cap ns l
 keep : Keeps W wr
 gW : W.heap.size ≤ g
 bW : W.heap.size ≤ b1
 nW : ∀ y, nv.ownBlock = some y → W.heap.size ≤ y
 pW : ∀ p ∈ nb, W.heap.size ≤ p.1 ∧ p.2 = .slice none 0 0
 sep : nb.Pairwise ApartN
 nodes : ∀ x ∈ ns, x.seen.length ≤ 4194304 ∧ x.sure = x.seen ∧ x.pats = []
 nlen : ns.length = j
 llen : l.length ≤ j
 rest : newF cap (fs.drop j) ns l = newF cap fs [] []
theorem put_len (l : Nms) (x : Str) (i : Nat) : (putN l x i).length ≤ l.length + 1 := by
 have := two_lens (fun p : Str × Nat => decide (p.1 < x)) (fun p => decide (x < p.1)) (apartS x) l
 simp [putN] at *
 omega
theorem put_mem {l : Nms} {x : Str} {i : Nat} {p : Str × Nat} (h : p ∈ putN l x i) : p ∈ l ∨ p = (x, i) := by
 unfold putN at h
 rcases List.mem_append.1 h with h | h
 ·exact .inl (List.mem_filter.1 h).1
 ·rcases List.mem_cons.1 h with h | h
  ·exact .inr h
  ·exact .inl (List.mem_filter.1 h).1
theorem NewSt.more {W wr w9 w10 xF : World} {g b1 : Nat} {cap : Int} {fs : List FileX} {j : Nat} {nv nv' : Value} {nb : List NB} {ns : List Nod} {l : Nms} (h : NewSt W wr g b1 cap fs j nv nb ns l) (hj : j < 1024) (k9 : Keeps wr w9) (m10 : Mods (· = b1) w9 w10) {x b : Str} {k : Nat} (hn : NamesAt w10 b1 (l.length + 1) (putN l x j)) (mF : Mods (fun y => y = g ∨ nv.ownBlock = some y) w10 xF)
  (hB : Blk xF g 89 (newA cap nv' b1)) (hr : xF.ownsRow 0 92 1 nv' (nb.length + 1) ((nb.map fun p => Value.pointer (some ⟨p.1, 0, none⟩)) ++ [Value.pointer (some ⟨k, 0, none⟩)])) (hp : ∀ y, nv'.ownBlock = some y → nv.ownBlock = some y ∨ w10.heap.size ≤ y)
  (hk : w10.heap.size ≤ k) (hkb : Blk xF k 95 #[.string (bstr b), .string (bstr b), .slice none 0 0, .bool false]) (hb : b.length ≤ 4194304) (hrest : newF cap (fs.drop (j + 1)) (ns ++ [madeN b]) (putN l x j) = newF cap fs [] []) :
  NewSt W xF g b1 cap fs (j + 1) nv' (nb ++ [(k, .slice none 0 0)]) (ns ++ [madeN b]) (putN l x j) := by
 have h9 := h.half.keeps k9
 have hg9 : g < w9.heap.size := h9.blk.lt
 have tg : Ty w9 g 89 := ⟨_, h9.blk⟩
 have hgb : g ≠ b1 := fun e => names_ty h9.names tg e.symm
 have hs10 := m10.size
 have hnb : nv.ownBlock ≠ some b1 := fun e => names_ty h9.names (owns_ty h9.row e) rfl
 have hW10 : Keeps W w10 := m10.keeps (h.keep.trans k9) (fun y hy => by subst hy; exact h.bW)
 have hWF : Keeps W xF := mF.keeps hW10 (fun y hy => hy.elim (fun e => by subst e; exact h.gW) (h.nW y))
 have hll := put_len l x j
 have hlen : (nb ++ [(k, Value.slice none 0 0)]).length = (ns ++ [madeN b]).length := by simp [h.half.len]
 have hns : ∀ y ∈ ns ++ [madeN b], y.seen.length ≤ 4194304 ∧ y.sure = y.seen ∧ y.pats = [] := fun y hy => by
  rcases List.mem_append.1 hy with hy | hy
  ·exact h.nodes y hy
  ·simp at hy
   subst hy
   exact ⟨hb, rfl, rfl⟩
 have hl1 := h.llen
 refine
  {half := { blk := hB, k0 := rfl, k1 := rfl, k2 := rfl, row := by simpa using hr, len := hlen, nod := fun i h1 h2 => ?_, names := ?_, is := fun p hpm => ?_, r1 := h.half.r1, r2 := h.half.r2, fr := fit_fr (fun y hy => by have := (hns y hy).1; omega) (by omega) }
   keep := hWF, gW := h.gW, bW := h.bW
   nW := fun y hy => (hp y hy).elim (h.nW y) (fun e => Nat.le_trans hW10.size e)
   pW := fun p hpm => ?_, sep := ?_, nodes := hns, nlen := by simp [h.nlen], llen := by omega, rest := hrest }
 ·by_cases hi : i < nb.length
  ·have hi2 : i < ns.length := by rw [← h.half.len]; exact hi
   have hh := h9.nod i hi hi2
   rw [List.getElem_append_left hi, List.getElem_append_left hi2]
   refine (hh.mods m10 (fun e => names_ty h9.names ⟨_, hh.blk⟩ e.symm) (fun y hy e => names_ty h9.names (owns_ty hh.pats hy) e.symm)).mods mF (fun e => ?_) (fun y hy e => ?_)
   ·rcases e with e | e
    ·exact Ty.ne ⟨_, hh.blk⟩ tg (by decide) e
    ·exact Ty.ne (owns_ty h9.row e) ⟨_, hh.blk⟩ (by decide) rfl
   ·rcases e with e | e
    ·exact Ty.ne (owns_ty hh.pats hy) tg (by decide) e
    ·exact Ty.ne (owns_ty h9.row e) (owns_ty hh.pats hy) (by decide) rfl
  ·have hi1 : i = nb.length := by simp at h1; omega
   subst hi1
   have e1 : (nb ++ [(k, Value.slice none 0 0)])[nb.length] = (k, Value.slice none 0 0) := by simp
   have e2 : (ns ++ [madeN b])[nb.length] = madeN b := by simp [h.half.len]
   rw [e1, e2]
   exact ⟨hkb, World.ownsRow_nil _ _ _ 2⟩
 ·exact hn.tight.mods mF (fun e => e.elim (fun e => hgb e.symm) hnb)
 ·rcases put_mem hpm with hpm | rfl
  ·have := h.half.is p hpm
   simp
   omega
  ·simp [h.nlen]
 ·rcases List.mem_append.1 hpm with hpm | hpm
  ·exact h.pW p hpm
  ·simp at hpm
   subst hpm
   exact ⟨Nat.le_trans hW10.size hk, rfl⟩
 ·refine List.pairwise_append.2 ⟨h.sep, by simp, fun p hpm q hq => ?_⟩
  simp at hq
  subst hq
  refine ⟨fun e => ?_, fun y _ => by simp [Value.ownBlock]⟩
  obtain ⟨i, hi, rfl⟩ := List.mem_iff_getElem.1 hpm
  have := (h9.nod i hi (by rw [← h.half.len]; exact hi)).blk.lt
  have e' : nb[i].1 = k := e
  omega
end Vd
end Go.Proofs.YtcleakjjefmmbaaGreat

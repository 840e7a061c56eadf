/- users: Clone. -/
import Derived.Test.YtklbemkafdccgaaGreatK25
import Derived.Test.YtklbemkafdccgaaGreatK17
import Derived.Test.YtklbemkafdccgaaGreatFrameSame
import Derived.Test.YtklbemkafdccgaaGreatUsShelf2
namespace Go.Proofs.YtklbemkafdccgaaGreat
open Go.RowKit Go.Sort Go.Shelf
namespace Usr
open Adr (Str)
open Mp Go.Maps
open Frm (ownsRow_keeps ownsRow_mods ownsRow_ty ownsRow_base ownsRow_form)
theorem cloneU_any (w : World) (b n : Nat) (D : DataW Unit) (h : w.ownsMap Tryz.prog 9 usrElem b n D) : Calls Tryz.prog 57 #[.map (some b)] w fun e w' => e = .returned (.map (some w.heap.size)) ∧ w'.ownsMap Tryz.prog 9 usrElem w.heap.size n D ∧ Keeps w w' :=
 (AnyW.maps_Clone_owns Tryz.cloneUs 9 usrElem b n D w h).mono (fun e w' h => ⟨h.1, h.2.1, h.2.2.2⟩)
/-- an alias map with no entry -/
def EmpA (w : World) (b : Nat) : Prop := w.ownsMap Tryz.prog 9 alElem b 0 (.map [])
def UsA (w : World) (b n : Nat) (D : DataW Unit) : Prop := w.ownsMap Tryz.prog 9 usrElem b n D
theorem EmpA.keeps {w w' : World} {b : Nat} (h : EmpA w b) (k : Keeps w w') : EmpA w' b := map_keepsS h k
theorem UsA.keeps {w w' : World} {b n : Nat} {D : DataW Unit} (h : UsA w b n D) (k : Keeps w w') : UsA w' b n D := map_keepsS h k
theorem AlsAt.modsM {w w' : World} {base b : Nat} {v : Value} {l : List (AlP × Value)} {es cl} (h : AlsAt w base v l) (k : Mods (· = b) w w') (hm : w.heap[b]? = some (.map es cl)) : AlsAt w' base v l := by
 refine ⟨ownsRow_mods h.own k (fun x hx e => ?_), fun x hx => (h.pay x hx).modsT k (fun y hy cs fr hh => by subst hy; rw [hm] at hh; cases hh)⟩
 subst e
 rcases h.own.2 with ⟨rfl, _⟩ | ⟨g, cap, cur, rfl, _, hgg, _⟩
 ·simp [Value.ownBlock] at hx
 ·simp [Value.ownBlock] at hx
  subst hx
  rw [hm] at hgg
  cases hgg
theorem alC_len (x : AlP × Value) : (alC x).length = 2 := rfl
theorem al_at {l : List (AlP × Value)} {i : Nat} (h : i < l.length) {j : Nat} (hj : j < 2) : (l.flatMap alC)[i * 2 + j]? = (alC l[i])[j]? := flat_get alC_len l i j _ (List.getElem?_eq_getElem h) hj
theorem insA_end (x : AlP) : ∀ l : List AlP, (∀ a ∈ l, ltS a.name x.name = true) → insA x l = l ++ [x]
 | [], _ => rfl
 |y :: r, h => by
  unfold insA
  rw [if_pos (h y (List.mem_cons_self ..)), insA_end x r (fun a ha => h a (List.mem_cons_of_mem _ ha))]
  rfl
theorem put_take {l : List AlP} (h : l.Pairwise fun a b => ltS a.name b.name = true) {j : Nat} (hj : j < l.length) : insA l[j] ((l.take j).filter fun x => decide (x.name ≠ l[j].name)) = l.take (j + 1) := by
 have hall : ∀ a ∈ l.take j, ltS a.name l[j].name = true := by
  have h2 : (l.take j ++ l.drop j).Pairwise fun a b => ltS a.name b.name = true := by rw [List.take_append_drop]; exact h
  have h3 := (List.pairwise_append.1 h2).2.2
  intro a ha
  exact h3 a ha l[j] (by rw [List.drop_eq_getElem_cons hj]; exact List.mem_cons_self ..)
 have hf : (l.take j).filter (fun x => decide (x.name ≠ l[j].name)) = l.take j := by
  rw [List.filter_eq_self]
  intro a ha
  have := (ltS_lt _ _).1 (hall a ha)
  simp only [decide_eq_true_eq]
  intro e
  rw [e] at this
  exact List.lt_irrefl _ this
 rw [hf, insA_end _ _ hall, List.take_succ_eq_append_getElem hj]
theorem EmpA.new (w : World) : EmpA (w.alloc (.map #[] 0)) w.heap.size := World.ownsMap_made w Tryz.prog _ _
theorem EmpA.lt {w : World} {b : Nat} (h : EmpA w b) : b < w.heap.size := World.ownsMap.lt h
theorem UsA.lt {w : World} {b n : Nat} {D : DataW Unit} (h : UsA w b n D) : b < w.heap.size := World.ownsMap.lt h
set_option maxRecDepth 100000 in
set_option maxHeartbeats 4000000 in
theorem clone_tab (w : World) (g b1 b2 n : Nat) (t : TabP) (h : TabAt w g b1 b2 n t) (hR : Right t) (hn : n ≤ 900000) : Calls Tryz.prog 18 #[.pointer (some ⟨g, 0, none⟩)] w (fun e w' => ∃ g' c1 c2, e = .returned (.pointer (some ⟨g', 0, none⟩)) ∧ (w.heap.size ≤ g' ∧ w.heap.size ≤ c1 ∧ w.heap.size ≤ c2) ∧ TabAt w' g' c1 c2 (n + 16) t ∧ Keeps w w') := by
 obtain ⟨c0, c1, c2, -⟩ := h.cells
 obtain ⟨D, h1, r1⟩ := h.us
 have HC1 := Lib.hid (fun w' (k : Keeps w w') => cloneU_any w' b1 n D (map_keepsS h1 k))
 have HT := Lib.hid h
 have HRt := Lib.hid hR
 have HR1 := Lib.hid r1
 have hmk : ∀ w, (Instr.makeMap 82 none).run Tryz.prog w = .ok (.map (some w.heap.size)) (w.alloc (.map #[] 0)) := fun w => run_makeMap _ w
 clear h h1 r1 hR
 go_enter Tryz.func18, Tryz.ntmps18
 go_upto_region 1 with fail
 go_cut [3] (fun pv wx => ∃ a d1 d2, pv = .pointer (some ⟨a, 0, none⟩) ∧ Hid ((w.heap.size ≤ a ∧ w.heap.size ≤ d1 ∧ w.heap.size ≤ d2) ∧ TabAt wx a d1 d2 n { t with al := [] } ∧ Keeps w wx))
 case first =>
  refine wp_region_noPanic ?_
  refine wp_region_held_drew (S := fun w' => Keeps w w') (by kernel_rfl) ((Keeps.refl w).drew) (fun _ => ?_)
  have hHeld : Keeps w (w).drew := (Keeps.refl w).drew
  generalize World.drew w = xs at *
  refine tq 0 6 ?_
  refine tq 1 7 ?_
  refine tq 2 8 ?_
  refine tq 3 9 ?_ (hy := fun w' hSw => by
   have hSw : Keeps w w' := hSw
   have h0 := keep1 hSw c0
   clear hSw
   go_simp
   try with_reducible rfl)
  refine tq 4 10 ?_
  refine tq 5 11 ?_
  refine tq 6 12 ?_
  refine tq 7 13 ?_ (hy := fun w' hSw => by
   have hSw : Keeps w w' := hSw
   have h0 := keep1 hSw c1
   clear hSw
   go_simp
   try with_reducible rfl)
  refine tq 8 14 ?_
  refine tq 9 15 ?_
  refine tq 10 16 ?_
  refine tq 11 17 ?_ (hy := fun w' hSw => by
   have hSw : Keeps w w' := hSw
   have h0 := keep1 hSw c2
   clear hSw
   go_simp
   try with_reducible rfl)
  refine wpAnyH_ready (rs := [12, 13]) (by kernel_rfl) (by simp) ?_
  refine AllReadyH.cons (o := _) rfl (fun K hK => ?_) ?_
  ·go_simp
   obtain ⟨bU, hbU⟩ : ∃ z, z = (World.heap xs).size := ⟨_, rfl⟩
   have HU := Lib.hid (show w.heap.size ≤ bU from by rw [hbU]; exact hHeld.size)
   refine (HC1.out _ hHeld).mono ?_
   rintro e yA ⟨rfl, hm1, hk⟩
   rw [← hbU] at hm1 ⊢
   have HM1 := Lib.hid (show UsA yA bU n D from hm1)
   have hb := hHeld.trans hk
   clear hm1 hk hbU
   go_wp2_with fail
   refine bkm hK hb ?_
   clear hK K hHeld
   have hHeld : Keeps w yA := hb
   clear hb
   refine rd1 13 (fun K hK => ?_)
   go_simp
   obtain ⟨bA, hbA⟩ : ∃ z, z = (World.heap yA).size := ⟨_, rfl⟩
   have HA := Lib.hid (show w.heap.size ≤ bA from by rw [hbA]; exact hHeld.size)
   have HNE := Lib.hid (show bU ≠ bA from fun e => by have := HM1.out.lt; omega)
   have HM2 := Lib.hid (show EmpA (World.alloc yA (.map #[] 0)) bA from hbA ▸ EmpA.new _)
   have HM1 := Lib.hid (HM1.out.keeps ((Keeps.refl yA).alloc (.map #[] 0)))
   rw [← hbA]
   have hb := hHeld.alloc (.map #[] 0)
   clear hbA
   generalize World.alloc yA _ = yM at *
   refine bkm hK hb ?_
   clear hK K hHeld
   have hHeld : Keeps w yM := hb
   clear hb
   refine tq 14 20 ?_
   refine rd1 15 (fun K hK => ?_)
   go_simp
   obtain ⟨bB, hbB⟩ : ∃ z, z = (World.heap yM).size := ⟨_, rfl⟩
   have HBB := Lib.hid (show w.heap.size ≤ bB from by rw [hbB]; exact hHeld.size)
   rw [← hbB]
   have HBL := Lib.hid (show Blk (World.alloc yM (.cells #[.string (bstr t.dom), .int .i64 t.next, .map (some bU), .map (some bA)] 84)) bB 84 #[.string (bstr t.dom), .int .i64 t.next, .map (some bU), .map (some bA)] from Blk.new _ _ _ hbB)
   have hb := hHeld.alloc (.cells #[.string (bstr t.dom), .int .i64 t.next, .map (some bU), .map (some bA)] 84)
   have HM1 := Lib.hid (HM1.out.keeps ((Keeps.refl yM).alloc (.cells #[.string (bstr t.dom), .int .i64 t.next, .map (some bU), .map (some bA)] 84)))
   have HM2 := Lib.hid (HM2.out.keeps ((Keeps.refl yM).alloc (.cells #[.string (bstr t.dom), .int .i64 t.next, .map (some bU), .map (some bA)] 84)))
   clear hbB
   generalize World.alloc yM _ = yB at *
   refine bkm hK hb ?_
   clear hK K hHeld
   have hHeld : Keeps w yB := hb
   clear hb
   refine tq 16 3 ?_
   refine wpAnyH_done (by kernel_rfl) ?_ _
   refine NoPanic.normal ?_
   go_wp2_with fail
   go_meet
   exact ⟨bB, bU, bA, rfl, Lib.hid ⟨⟨HBB.out, HU.out, HA.out⟩, ⟨HBL.out, ⟨D, HM1.out, HR1.out⟩, ⟨_, [], World.ownsMap.mono HM2.out (Nat.zero_le _), MapOf.new, rfl, fun x hx => by cases hx⟩, HNE.out⟩, hHeld⟩⟩
  refine AllReadyH.cons (o := _) rfl (fun K hK => ?_) ?_
  ·go_simp
   obtain ⟨bA, hbA⟩ : ∃ z, z = (World.heap xs).size := ⟨_, rfl⟩
   have HA := Lib.hid (show w.heap.size ≤ bA from by rw [hbA]; exact hHeld.size)
   have HM2 := Lib.hid (show EmpA (World.alloc xs (.map #[] 0)) bA from hbA ▸ EmpA.new _)
   rw [← hbA]
   have hb := hHeld.alloc (.map #[] 0)
   clear hbA
   generalize World.alloc xs _ = yM at *
   refine bkm hK hb ?_
   clear hK K hHeld
   have hHeld : Keeps w yM := hb
   clear hb
   refine rd1 12 (fun K hK => ?_)
   go_simp
   obtain ⟨bU, hbU⟩ : ∃ z, z = (World.heap yM).size := ⟨_, rfl⟩
   have HU := Lib.hid (show w.heap.size ≤ bU from by rw [hbU]; exact hHeld.size)
   have HNE := Lib.hid (show bU ≠ bA from fun e => by have := HM2.out.lt; omega)
   refine (HC1.out _ hHeld).mono ?_
   rintro e yA ⟨rfl, hm1, hk⟩
   rw [← hbU] at hm1 ⊢
   have HM1 := Lib.hid (show UsA yA bU n D from hm1)
   have hb := hHeld.trans hk
   have HM2 := Lib.hid (HM2.out.keeps hk)
   clear hm1 hk hbU
   go_wp2_with fail
   refine bkm hK hb ?_
   clear hK K hHeld
   have hHeld : Keeps w yA := hb
   clear hb
   refine tq 14 20 ?_
   refine rd1 15 (fun K hK => ?_)
   go_simp
   obtain ⟨bB, hbB⟩ : ∃ z, z = (World.heap yA).size := ⟨_, rfl⟩
   have HBB := Lib.hid (show w.heap.size ≤ bB from by rw [hbB]; exact hHeld.size)
   rw [← hbB]
   have HBL := Lib.hid (show Blk (World.alloc yA (.cells #[.string (bstr t.dom), .int .i64 t.next, .map (some bU), .map (some bA)] 84)) bB 84 #[.string (bstr t.dom), .int .i64 t.next, .map (some bU), .map (some bA)] from Blk.new _ _ _ hbB)
   have hb := hHeld.alloc (.cells #[.string (bstr t.dom), .int .i64 t.next, .map (some bU), .map (some bA)] 84)
   have HM1 := Lib.hid (HM1.out.keeps ((Keeps.refl yA).alloc (.cells #[.string (bstr t.dom), .int .i64 t.next, .map (some bU), .map (some bA)] 84)))
   have HM2 := Lib.hid (HM2.out.keeps ((Keeps.refl yA).alloc (.cells #[.string (bstr t.dom), .int .i64 t.next, .map (some bU), .map (some bA)] 84)))
   clear hbB
   generalize World.alloc yA _ = yB at *
   refine bkm hK hb ?_
   clear hK K hHeld
   have hHeld : Keeps w yB := hb
   clear hb
   refine tq 16 3 ?_
   refine wpAnyH_done (by kernel_rfl) ?_ _
   refine NoPanic.normal ?_
   go_wp2_with fail
   go_meet
   exact ⟨bB, bU, bA, rfl, Lib.hid ⟨⟨HBB.out, HU.out, HA.out⟩, ⟨HBL.out, ⟨D, HM1.out, HR1.out⟩, ⟨_, [], World.ownsMap.mono HM2.out (Nat.zero_le _), MapOf.new, rfl, fun x hx => by cases hx⟩, HNE.out⟩, hHeld⟩⟩
  exact AllReadyH.nil
 case rest =>
 obtain ⟨a, d1, d2, rfl, HC⟩ := hcut
 obtain ⟨w2, rfl⟩ : ∃ z : World, z = wc := ⟨_, rfl⟩
 clear c0 c1 c2 hmk HC1
 have hTw := HT.out.keeps HC.out.2.2
 have CA := Lib.hid (aliases_any w2 g b1 b2 n t hTw HRt.out hn)
 have hall := HRt.out.all
 clear hTw
 go_wp2_with fail
 refine CA.out.mono ?_
 rintro e w3 ⟨v, L, rfl, hA, hL, hk⟩
 obtain ⟨pv, cv, rfl, -, -⟩ := ownsRow_form hA.own
 have hLl : L.length = t.al.length := by rw [← hL, List.length_map]
 have HLL := Lib.hid hLl
 have HL := Lib.hid hL
 have HA := Lib.hid hA
 have hl16 : L.length ≤ 16 := by omega
 have HT3 := Lib.hid (HC.out.2.1.keeps hk)
 have HK3 := Lib.hid (HC.out.2.2.trans hk)
 have HSZ := Lib.hid HC.out.1
 have HST := Lib.hid HRt.out.ao
 clear hL hA hk hLl CA HC
 go_wp2_with fail
 go_loopw [25] (fun iv wr => ∃ j : Nat, iv = .int .i64 (j : Int) ∧ j ≤ L.length ∧ Hid (TabAt wr a d1 d2 (n + j) { t with al := t.al.take j } ∧ AlsAt wr w2.heap.size (.slice pv L.length cv) L ∧ Keeps w wr)) (fun iv _ => L.length - (RowKit.intOf iv).toNat)
 case atStart => exact ⟨0, rfl, Nat.zero_le _, Lib.hid ⟨HT3.out, HA.out, HK3.out⟩⟩
 case round =>
  obtain ⟨j, rfl, hj, HH⟩ := hrel
  obtain ⟨wz, rfl⟩ : ∃ z : World, z = wr := ⟨_, rfl⟩
  by_cases hlt : j < L.length
  ·obtain ⟨gl, cap', hv, -, -, -, hc⟩ := Frm.ownsRow_at HH.out.2.1.own (by omega)
   simp only [Value.slice.injEq] at hv
   obtain ⟨rfl, -, rfl⟩ := hv
   have hjt : j < t.al.length := by rw [← HLL.out]; exact hlt
   have hLj : L[j].1 = t.al[j] := by
    have h1 : (L.map (·.1))[j]? = some L[j].1 := by rw [List.getElem?_map, List.getElem?_eq_getElem hlt]; rfl
    rw [HL.out, List.getElem?_eq_getElem hjt] at h1
    exact (Option.some.inj h1).symm
   have HPT := Lib.hid (put_take HST.out hjt)
   have hpy := HH.out.2.1.pay L[j] (List.getElem_mem hlt)
   have a0 : wz.cell? ⟨gl, j * 2, none⟩ = some (.string (bstr L[j].1.name)) := hc _ _ (by have := al_at hlt (show 0 < 2 by decide); rw [Nat.add_zero] at this; rw [this]; rfl)
   have a1 : wz.cell? ⟨gl, j * 2 + 1, none⟩ = some L[j].2 := hc _ _ (by rw [al_at hlt (show 1 < 2 by decide)]; rfl)
   have hnl := (HRt.out.an _ (List.getElem_mem hjt)).1
   have hnl2 : t.al[j].name.length ≤ maxLen := by
    unfold nameB at hnl
    simp only [Bool.and_eq_true, decide_eq_true_eq] at hnl
    unfold maxLen; omega
   obtain ⟨px, cx, hxv, -, -⟩ := hpy.form
   rw [List.length_map] at hxv
   rw [hLj] at a0 hpy hxv
   rw [hxv] at a1 hpy
   have htp : 0 < t.al[j].tos.length := namesB_pos (HRt.out.an _ (List.getElem_mem hjt)).2.1
   obtain ⟨bx, ox, rfl⟩ : ∃ bx ox, px = some ⟨bx, ox, none⟩ := by
    rcases hpy with ⟨a0, cap, h1, h2, -, -⟩ | ⟨b, off, cap, cs, fr, h1, -⟩
    ·have := congrArg List.length h2; rw [List.length_map, List.length_nil] at this; omega
    ·simp only [Value.slice.injEq] at h1
     exact ⟨b, off, h1.1⟩
   have HPY := Lib.hid (hpy.lower (Nat.zero_le _))
   clear htp
   generalize hA : t.al[j] = A at *
   have hxs : A.tos.length ≤ 100000 := by
    have := (HRt.out.an A (by rw [← hA]; exact List.getElem_mem hjt)).2.2
    omega
   clear hA hLj hpy hxv hc hnl hjt
   obtain ⟨c0, c1, c2, c3⟩ := HH.out.1.cells
   go_upto_region 5 with fail
   have hLq := HH.out.1.lt
   obtain ⟨q, hq⟩ : ∃ z, wz.heap.size = z := ⟨_, rfl⟩
   obtain ⟨w5, hw5⟩ : ∃ z, wz.alloc (.cells #[.string (bstr A.name), .slice (some ⟨bx, ox, none⟩) A.tos.length cx] 108) = z := ⟨_, rfl⟩
   have HK5 := Lib.hid (show Keeps wz w5 from by rw [← hw5]; exact (Keeps.refl _).alloc _)
   have HE := Lib.hid (show Blk w5 q 108 #[.string (bstr A.name), .slice (some ⟨bx, ox, none⟩) A.tos.length cx] from by rw [← hw5, ← hq]; exact Blk.new _ _ _ rfl)
   rw [hw5, hq]
   rw [hq] at hLq
   clear a0 a1 c0 c1 c2 c3 hw5 hq
   have HH5 := Lib.hid (show TabAt w5 a d1 d2 (n + j) { t with al := t.al.take j } ∧ AlsAt w5 w2.heap.size (.slice (some ⟨gl, 0, none⟩) L.length cv) L ∧ Keeps w w5 from ⟨HH.out.1.keeps HK5.out, HH.out.2.1.keeps HK5.out, HH.out.2.2.trans HK5.out⟩)
   have hqd : ¬ q = d2 := by omega
   have had : ¬ a = d2 := fun e => HH5.out.1.ne2 e.symm
   have x0 : w5.cell? ⟨q, 0, none⟩ = some (.string (bstr A.name)) := by rw [HE.out.cell]; rfl
   have x1 : w5.cell? ⟨q, 1, none⟩ = some (.slice (some ⟨bx, ox, none⟩) A.tos.length cx) := by rw [HE.out.cell]; rfl
   obtain ⟨-, -, -, c3⟩ := HH5.out.1.cells
   have HTd := Lib.hid (HH5.out.1.keeps (Keeps.refl w5).drew)
   have HPd := Lib.hid ((HPY.out.keeps HK5.out).keeps (Keeps.refl w5).drew)
   obtain ⟨es, ck, hmap⟩ : ∃ es ck, w5.heap[d2]? = some (.map es ck) := by
    obtain ⟨E, av, k1, -⟩ := HH5.out.1.al
    exact map_obj k1
   have HMP := Lib.hid hmap
   clear hmap HH HK5 HE
   refine wp_region_noPanic ?_
   refine wp_region_held_drew (S := fun w' => Mods (· = d2) w5 w') (by kernel_rfl) ((Mods.refl (· = d2) w5).drew) (fun _ => ?_)
   have hHeld : Mods (· = d2) w5 (w5).drew := (Mods.refl (· = d2) w5).drew
   generalize World.drew w5 = xs at *
   refine tq 0 29 ?_
   refine tq 1 30 ?_
   refine tq 2 31 ?_
   refine tq 3 32 ?_ (hy := fun w' hSw => by
    have hSw : Mods (· = d2) w5 w' := hSw
    have h0 := hSw.cell c3 had
    clear hSw
    go_simp
    try with_reducible rfl)
   refine tq 4 33 ?_
   refine tq 5 34 ?_ (hy := fun w' hSw => by
    have hSw : Mods (· = d2) w5 w' := hSw
    have h0 := hSw.cell x0 hqd
    clear hSw
    go_simp
    try with_reducible rfl)
   refine tq 6 35 ?_ (hy := fun w' hSw => by
    have hSw : Mods (· = d2) w5 w' := hSw
    have h0 := hSw.cell x0 hqd
    have h1 := hSw.cell x1 hqd
    clear hSw
    go_simp
    try with_reducible rfl)
   refine rd1 7 (fun K hK => ?_)
   obtain ⟨yF, hrun, hbox, hM⟩ := HTd.out.putA (by omega) (a := A) (s := ⟨some (bx, ox), A.tos.length, cx⟩) hnl2 HPd.out
   have hrun : (Instr.mapUpdate 82 (.map (some d2)) (.string (bstr A.name)) (.agg #[.string (bstr A.name), .slice (some ⟨bx, ox, none⟩) A.tos.length cx])).run Tryz.prog xs = .ok () yF := hrun
   go_simp
   have hb := hHeld.trans hM (fun x h _ => h)
   have HBd := Lib.hid hbox
   clear hrun hbox hM
   refine bkm hK hb ?_
   clear hK K hHeld
   have hHeld : Mods (· = d2) w5 yF := hb
   clear hb
   refine wpAnyH_done (by kernel_rfl) ?_ _
   refine NoPanic.normal ?_
   go_wp2_with fail
   refine ⟨⟨j + 1, by simp, by omega, Lib.hid ⟨?_, HH5.out.2.1.modsM hHeld HMP.out, hHeld.keeps HH5.out.2.2 (fun x hx => by rw [hx]; exact HSZ.out.2.2)⟩⟩, ?_⟩
   ·have h1 := HBd.out
    rw [HPT.out] at h1
    exact h1
   ·simp only [RowKit.intOf]; omega
  ·have e : j = L.length := by omega
   have HX := Lib.hid (show TabAt wz a d1 d2 (n + 16) t ∧ Keeps w wz from ⟨by
    have h1 := HH.out.1.mono (show n + j ≤ n + 16 by omega)
    rw [e, HLL.out, List.take_length] at h1
    exact h1, HH.out.2.2⟩)
   have hd : decide ((j : Int) < (L.length : Int)) = false := decide_eq_false (by omega)
   clear e HH
   go_wp2_with fail
   go_ret
   exact ⟨_, _, _, rfl, HSZ.out, HX.out.1, HX.out.2⟩
end Usr
end Go.Proofs.YtklbemkafdccgaaGreat

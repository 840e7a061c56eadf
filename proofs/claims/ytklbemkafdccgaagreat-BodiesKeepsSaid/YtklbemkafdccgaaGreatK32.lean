/- Several texts in one: BdSmall, BdFind. -/
import Derived.Test.YtklbemkafdccgaaGreatK29
import Derived.Test.YtklbemkafdccgaaGreatK21
import Derived.Test.YtklbemkafdccgaaGreatK31
import Derived.Test.YtklbemkafdccgaaGreatK02
/- bodies: Numbers, Next, Broken, Get, Find. -/
namespace Go.Proofs.YtklbemkafdccgaaGreat
open Go.RowKit Go.Sort Go.Shelf
namespace Bds
open Mp Go.Maps
theorem sortsBd (m : Nat) : AnyZI.SortsIn Tryz.prog Tryz.sortedBd_ren Fence.wide m :=
 ⟨fun blk off cap ss W hH hblk hsz => callsIn_wide.2 (AnyM.slices_Sort_int Tryz.sortBd blk off cap ss W hH hblk hsz),
  fun p cap W => callsIn_wide.2 (AnyM.slices_Sort_int_none Tryz.sortBd p cap W)⟩
theorem keysBd_any (mb : Option Nat) (W : World) : Calls Tryz.prog 85 #[.map mb] W fun e w' => e = .returned (.func (.func 145) #[] #[.pointer (some ⟨W.heap.size, 0, none⟩)]) ∧ w' = W.alloc (.cells #[.map mb] 148) :=
 (callsIn_wide (n := 5)).1 (AnyZI.keys_in Tryz.keysBd Fence.wide 5 trivial rfl mb W)
theorem sortedBd_any (b nn : Nat) (D0 : DataW Unit) (R : Value → Option (DataW Unit × List MemPlace)) (w : World) (hown : w.ownsMap Tryz.prog 3 R b nn D0) (hn : nn ≤ 1000000) :
  Calls Tryz.prog 69 #[.func (.func 145) #[] #[.pointer (some ⟨w.heap.size, 0, none⟩)]] (w.alloc (.cells #[.map (some b)] 148)) fun e w' => ∃ (v : Value) (ss : List Int), e = .returned v ∧ ss.Perm (intKeys D0) ∧ Own w' w.heap.size 3 v ((ss.mergeSort leI).map encZ) ∧ Keeps w w' := by
 refine (callsIn_wide (n := 5)).1 ?_
 have hsz := hown.size_le
 have hbl := hown.lt
 have hseq : SeqGives Fence.wide 2 Tryz.prog 145 #[.pointer (some ⟨w.heap.size, 0, none⟩)] encZ (fun ss => ss.Perm (intKeys D0)) (Maps.size D0) (w.alloc (.cells #[.map (some b)] 148)) :=
  AnyZI.keys_gives (ρ := Tryz.keysBd_ren) { Tryz.keysBd with } Fence.wide _ trivial rfl (by omega) w.heap.size b nn D0 _ (by simp) (by simp) (by
   obtain ⟨es, clock, hb, Ft, hs, hD⟩ := hown
   exact ⟨es, clock, (Below.heap_alloc _ _ b hbl).trans hb, Ft, hs, hD⟩)
 have cS := AnyZI.sorted_in Tryz.sortedBd Fence.wide 5 trivial trivial trivial trivial rfl (by omega) (sortsBd _) (enters_of Tryz.func120 (by kernel_rfl) rfl) 145 #[.pointer (some ⟨w.heap.size, 0, none⟩)] trivial (enters_of Tryz.func145 (by kernel_rfl) rfl) _ _ (by unfold maxLen; omega) (by omega) _ hseq
 change CallsIn _ _ Tryz.prog 69 _ _ _ at cS
 refine cS.mono ?_
 rintro e w' ⟨v, ss, rfl, hS, hrow, hnil, hb⟩
 refine ⟨v, ss, rfl, hS, ?_, ((Below.refl _ w).alloc (Nat.le_refl _) _).trans (hb.mono (by simp))⟩
 unfold Own
 rw [show ((ss.mergeSort leI).map encZ).length = ss.length from by simp]
 exact ownsRow_base_a hrow (by simp)
theorem keysI_of {α : Type} {enc : α → DataW Unit} {D : DataW Unit} {l : List (Int × α)} (h : MapOf (fun x : Int => Lit.int .i64 x) enc D l) : (intKeys D).Perm (l.map (·.1)) := by
 obtain ⟨es, rfl, p⟩ := h.ex
 show (es.map fun p => Go.intOf p.1).Perm _
 have := p.map (fun p => Go.intOf p.1)
 rw [List.map_map] at this
 exact this
/-- the numbers, rising -/
def numsUp (s : BdP) : List Int := (keysB s).mergeSort leI
section
variable {w : World} {O : Nat → Prop} {g gd n : Nat} {s : BdP}
theorem numbers_any (h : StAt w O g gd n s) (hn : n ≤ 1000000) : Calls Tryz.prog 29 #[.pointer (some ⟨g, 0, none⟩)] w fun e w' => ∃ v, e = .returned v ∧ Own w' w.heap.size 3 v ((numsUp s).map encZ) ∧ Keeps w w' := by
 obtain ⟨b1, b2, nv, av, hin⟩ := h
 obtain ⟨-, -, -, c3, -⟩ := hin.cells
 obtain ⟨D, h1, h2⟩ := hin.num
 have CK := Lib.hid (keysBd_any (some b1) w)
 have CS := Lib.hid (sortedBd_any b1 n D slqElem w h1 hn)
 have HP := Lib.hid (show (intKeys D).Perm (keysB s) from by rw [← hin.nkeys]; exact keysI_of h2)
 clear hin h1 h2 hn
 go_enter Tryz.func29, Tryz.ntmps29
 go_wp2_with fail
 refine CK.out.mono ?_
 rintro e w2 ⟨rfl, rfl⟩
 go_wp2_with fail
 refine CS.out.mono ?_
 rintro e w3 ⟨v, ss, rfl, hp, ho, hk⟩
 have HO := Lib.hid (show Own w3 w.heap.size 3 v ((numsUp s).map encZ) from by
  have e : ss.mergeSort leI = numsUp s := mergeSort_of_perm_i (hp.trans HP.out)
  rw [← e]; exact ho)
 have HK := Lib.hid hk
 clear ho hk hp
 go_wp2_with fail
 go_ret
 exact ⟨_, rfl, HO.out, HK.out⟩
theorem next_any (h : StAt w O g gd n s) : Calls Tryz.prog 30 #[.pointer (some ⟨g, 0, none⟩)] w fun e w' => e = .returned (.int .i64 s.next) ∧ w = w' := by
 obtain ⟨b1, b2, nv, av, hin⟩ := h
 obtain ⟨-, c1, -, -, -⟩ := hin.cells
 clear hin
 go_enter Tryz.func30, Tryz.ntmps30
 go_wp2_with fail
 go_ret
 exact ⟨rfl, rfl⟩
theorem broken_any (h : StAt w O g gd n s) : Calls Tryz.prog 28 #[.pointer (some ⟨g, 0, none⟩)] w fun e w' => e = .returned (.int .i64 s.broken) ∧ w = w' := by
 obtain ⟨b1, b2, nv, av, hin⟩ := h
 obtain ⟨-, -, c2, -, -⟩ := hin.cells
 clear hin
 go_enter Tryz.func28, Tryz.ntmps28
 go_wp2_with fail
 go_ret
 exact ⟨rfl, rfl⟩
theorem get_any (h : StAt w O g gd n s) {x : Int} (hx : (Lit.int .i64 x).wf = true) (hl : ((bodyOf s.L x).getD []).length ≤ 10000000) : Calls Tryz.prog 27 #[.pointer (some ⟨g, 0, none⟩), .int .i64 x] w fun e w' => ∃ v, e = .returned (.tuple #[v, .bool (decide (x ∈ keysB s))]) ∧ Own w' w.heap.size 5 v (((bodyOf s.L x).getD []).map u8v) ∧ Keeps w w' := by
 obtain ⟨b1, b2, nv, av, hin⟩ := h
 obtain ⟨-, -, -, c3, -⟩ := hin.cells
 obtain ⟨u, hrun, -, hrow⟩ := hin.look hx
 generalize decide (x ∈ keysB s) = bb at *
 generalize (bodyOf s.L x).getD [] = b at *
 obtain ⟨p, m, c⟩ := u
 unfold SlQ.v at hrun hrow
 have CC := Lib.hid (Oct.clone_any _ b w hrow (by omega))
 clear hin hrow hl
 go_enter Tryz.func27, Tryz.ntmps27
 go_wp2_with fail
 refine CC.out.mono ?_
 rintro e w2 ⟨v, rfl, ho, hk⟩
 have HO := Lib.hid (And.intro ho hk)
 clear ho hk
 go_wp2_with fail
 exact bodyPost_ret (v := .tuple #[v, .bool bb]) (by simp [results, Tryz.results27, go_sem]) rfl ⟨v, rfl, HO.out.1, HO.out.2⟩
end
end Bds
end Go.Proofs.YtklbemkafdccgaaGreat

/- bodies: Find. -/
namespace Go.Proofs.YtklbemkafdccgaaGreat
open Go.RowKit
namespace Bds
open Mp Go.Maps
section
variable {w : World} {O : Nat → Prop} {g b1 b2 gd n : Nat} {s : BdP} {nv : List NumX} {av : List AlkX}
theorem StIn.lookAt (h : StIn w O g b1 b2 gd n s nv av) (k : TrK) : (Instr.lookup 149 (.map (some b2)) (trV k) false).run Tryz.prog w = .ok ((Mp.look (av.map fun y => (y.k, y.s)) k).getD sq0).v w := by
 obtain ⟨D, h1, h2⟩ := h.alk
 obtain ⟨v', ps', hrun', hv'⟩ := Usr.look_plain h1 trKeyed Tryz.underlying149 (zeroI_run w) (slqElem_mk sq0) (key_tr k)
 have hat := h2.at_ trKind k sq0
 rw [show D.atKey (trL k) (slqD sq0) = _ from hat] at hv'
 rw [hrun', slqElem_inv hv']
theorem nums_mem {L : List (Int × Str)} {k : TrK} {x : Int} (h : x ∈ nums L k) : ∃ c, (x, c) ∈ L ∧ trP c = k := by
 unfold nums at h
 obtain ⟨⟨a, c⟩, hy, rfl⟩ := List.mem_map.1 h
 obtain ⟨h1, h2⟩ := List.mem_filter.1 hy
 exact ⟨c, h1, by simpa using h2⟩
end
set_option maxRecDepth 100000 in
set_option maxHeartbeats 4000000 in
theorem find_any (w : World) (O : Nat → Prop) (g gd n : Nat) (s : BdP) (h : StAt w O g gd n s) (hsl : s.L.length ≤ 900000) (v : Value) (b : Str) (hr : Row w v (b.map u8v)) (hb : b.length ≤ 10000000) : Calls Tryz.prog 71 #[.pointer (some ⟨g, 0, none⟩), v] w fun e w' => e = .returned (.tuple #[.int .i64 (findB s b), .bool (decide (0 < findB s b))]) ∧ Keeps w w' := by
 obtain ⟨b1, b2, nv, av, hin⟩ := h
 obtain ⟨p, cap, rfl, -, -⟩ := hr.form
 rw [List.length_map] at hr ⊢
 have HI := Lib.hid hin
 have HR := Lib.hid hr
 have HB := Lib.hid hb
 have hoA := hin.ownA (trP b)
 obtain ⟨A, hA⟩ : ∃ z, (Mp.look (av.map fun y => (y.k, y.s)) (trP b)).getD sq0 = z := ⟨_, rfl⟩
 rw [hA] at hoA
 have HA := Lib.hid hA
 obtain ⟨ap, an, ac⟩ := A
 have han : an = (nums s.L (trP b)).length := by
  obtain ⟨p', c', hv, -, -⟩ := hoA.row.form
  unfold SlQ.v at hv
  simp only [Value.slice.injEq, List.length_map] at hv
  exact hv.2.1
 subst han
 have HZL := Lib.hid (show (nums s.L (trP b)).length ≤ 900000 from by
  unfold nums
  rw [List.length_map]
  exact Nat.le_trans (List.length_filter_le _ _) hsl)
 have HZM := Lib.hid (show ∀ z ∈ nums s.L (trP b), (Lit.int .i64 z).wf = true ∧ ∃ c, bodyOf s.L z = some c from fun z hz => by
  obtain ⟨c, hc, -⟩ := nums_mem hz
  exact ⟨hin.wf _ hc, c, (look_some hin.nodup).2 hc⟩)
 have HF := Lib.hid (show findB s b = (nums s.L (trP b)).foldl (findStep s.L b) 0 from rfl)
 obtain ⟨zs, hzs⟩ : ∃ z, nums s.L (trP b) = z := ⟨_, rfl⟩
 unfold SlQ.v at hoA
 rw [hzs] at hoA HA HZL HF HZM
 have HO := Lib.hid hoA
 generalize findB s b = F at *
 have c4 := hin.cells.2.2.2.2
 clear hin hr hb hoA hA hzs hsl
 go_enter Tryz.func71, Tryz.ntmps71
 go_upto_region 2 with fail
 go_cut [15, 16, 17] (fun v lv iv wx => v = .slice ap zs.length ac ∧ lv = .int .i64 (zs.length : Int) ∧ iv = .int .i64 0 ∧ Hid (Keeps w wx))
 case first =>
  have HY := Lib.hid (Keeps.refl w)
  refine wp_region_noPanic ?_
  refine wp_region_held_drew (S := fun w' => Keeps (w) w') (by kernel_rfl) ((Keeps.refl _).drew) (fun _ => ?_)
  have hHeld : Keeps (w) (w).drew := (Keeps.refl _).drew
  refine tq 0 9 ?_
  refine tq 1 10 ?_
  refine tq 2 11 ?_
  refine tq 3 12 ?_ (hy := fun w' hSw => by
   have hSw : Keeps _ w' := hSw
   have h0 := keep1 hSw c4
   clear hSw
   go_simp
   try with_reducible rfl)
  refine tq 4 13 ?_
  refine tq 8 17 ?_
  refine rd1 5 (fun K hK => ?_)
  go_simp
  refine (traceOf_any _ _ b (HR.out.keeps hHeld) HB.out).mono ?_
  rintro e yA ⟨rfl, hk⟩
  have hb : Keeps _ yA := hHeld.trans hk
  have HY := Lib.hid (hHeld.trans hk)
  go_wp2_with fail
  refine bk1 hK hb ?_
  clear hK K hHeld hb hk
  intro hHeld
  refine tq 6 15 ?_ (hy := fun w' hSw => by
   have hSw : Keeps _ w' := hSw
   have hl := (HI.out.keeps (HY.out.trans hSw)).lookAt (trP b)
   rw [HA.out] at hl
   unfold SlQ.v at hl
   clear hSw
   go_simp
   try with_reducible rfl)
  refine tq 7 16 ?_
  refine wpAnyH_done (by kernel_rfl) ?_ _
  refine NoPanic.normal ?_
  go_wp2_with fail
  go_meet
  exact ⟨rfl, rfl, rfl, Lib.hid (HY.out.trans hHeld)⟩
 case rest =>
 obtain ⟨rfl, rfl, rfl, HKc⟩ := hcut
 obtain ⟨w2, rfl⟩ : ∃ z : World, z = wc := ⟨_, rfl⟩
 clear c4
 go_wp2_with fail
 go_loopw [6, 17] (fun fv iv wr => ∃ (j : Nat) (f : Int), fv = .int .i64 f ∧ iv = .int .i64 (j : Int) ∧ Hid (j ≤ zs.length ∧ f = (zs.take j).foldl (findStep s.L b) 0 ∧ Keeps w wr)) (fun _ iv _ => zs.length - (RowKit.intOf iv).toNat)
 case atStart => exact ⟨0, 0, rfl, rfl, Lib.hid ⟨Nat.zero_le _, rfl, HKc.out⟩⟩
 case round =>
  obtain ⟨j, f, rfl, rfl, HH⟩ := hrel
  obtain ⟨wz, rfl⟩ : ∃ z : World, z = wr := ⟨_, rfl⟩
  have hw : IntKind.i64.wrap ((j : Int) + 1) = (j : Int) + 1 := IntWalk.i64_in _ (by have := HZL.out; have := HH.out.1; omega)
  by_cases hlt : j < zs.length
  ·have hd : decide ((j : Int) < (zs.length : Int)) = true := decide_eq_true (by omega)
   obtain ⟨ga, ca', hv, -, -, -⟩ := Own.form HO.out (by simp; omega)
   simp only [List.length_map, Value.slice.injEq] at hv
   obtain ⟨rfl, -, rfl⟩ := hv
   have a0 : wz.cell? ⟨ga, j, none⟩ = some (.int .i64 zs[j]) := Own.cellAt (HO.out.keeps HH.out.2.2) j _ (by simp [List.getElem?_eq_getElem hlt])
   have HZ := Lib.hid (HZM.out _ (List.getElem_mem hlt))
   have HST := Lib.hid (show (zs.take (j + 1)).foldl (findStep s.L b) 0 = findStep s.L b ((zs.take j).foldl (findStep s.L b) 0) zs[j] from by rw [List.take_succ_eq_append_getElem hlt, List.foldl_append]; rfl)
   generalize zs[j] = z at *
   have HIz := Lib.hid (HI.out.keeps HH.out.2.2)
   have c3 := HIz.out.cells.2.2.2.1
   obtain ⟨⟨up, un, uc⟩, -, hrun, hrow⟩ := HIz.out.look HZ.out.1
   obtain ⟨cz, hcz⟩ := HZ.out.2
   rw [hcz] at hrow
   unfold SlQ.v at hrun hrow
   have HSX := Lib.hid (show findStep s.L b f z = if cz = b ∧ (f = 0 ∨ z < f) then z else f from by
    unfold findStep
    rw [hcz]
    by_cases e : cz = b
    ·simp [e]
    ·rw [if_neg (by simp [e]), if_neg (by simp [e])])
   have CE := Lib.hid (Rcd.equal_k _ _ cz b wz hrow (HR.out.keeps HH.out.2.2))
   clear hrow hcz
   go_wp2_with fail
   refine CE.out.mono ?_
   rintro e w3 ⟨rfl, hk⟩
   have HK3 := Lib.hid (HH.out.2.2.trans hk)
   clear hk CE hrun c3 a0
   by_cases hc : cz = b
   ·have hdc : decide (cz = b) = true := decide_eq_true hc
    by_cases hf : f = 0
    ·have hf0 : (f == 0) = true := by simp [hf]
     have HN := Lib.hid (show findStep s.L b f z = z from by rw [HSX.out, if_pos ⟨hc, .inl hf⟩])
     clear hc hf
     go_wp2_with fail
     go_roundw
     case rel => exact ⟨j + 1, z, rfl, by simp, Lib.hid ⟨by omega, by rw [HST.out, ← HH.out.2.1, HN.out], HK3.out⟩⟩
     case measure => simp only [RowKit.intOf]; omega
    ·have hf0 : (f == 0) = false := by simp [hf]
     by_cases hzf : z < f
     ·have hz0 : decide (z < f) = true := decide_eq_true hzf
      have HN := Lib.hid (show findStep s.L b f z = z from by rw [HSX.out, if_pos ⟨hc, .inr hzf⟩])
      clear hc hf hzf
      go_wp2_with fail
      go_roundw
      case rel => exact ⟨j + 1, z, rfl, by simp, Lib.hid ⟨by omega, by rw [HST.out, ← HH.out.2.1, HN.out], HK3.out⟩⟩
      case measure => simp only [RowKit.intOf]; omega
     ·have hz0 : decide (z < f) = false := decide_eq_false hzf
      have HN := Lib.hid (show findStep s.L b f z = f from by rw [HSX.out, if_neg (fun h => h.2.elim hf hzf)])
      clear hc hf hzf
      go_wp2_with fail
      go_roundw
      case rel => exact ⟨j + 1, f, rfl, by simp, Lib.hid ⟨by omega, by rw [HST.out, ← HH.out.2.1, HN.out], HK3.out⟩⟩
      case measure => simp only [RowKit.intOf]; omega
   ·have hdc : decide (cz = b) = false := decide_eq_false hc
    have HN := Lib.hid (show findStep s.L b f z = f from by rw [HSX.out, if_neg (fun h => hc h.1)])
    clear hc
    go_wp2_with fail
    go_roundw
    case rel => exact ⟨j + 1, f, rfl, by simp, Lib.hid ⟨by omega, by rw [HST.out, ← HH.out.2.1, HN.out], HK3.out⟩⟩
    case measure => simp only [RowKit.intOf]; omega
  ·have hd : decide ((j : Int) < (zs.length : Int)) = false := decide_eq_false (by omega)
   have HFF := Lib.hid (show f = F from by rw [HF.out, HH.out.2.1, List.take_of_length_le (by have := HH.out.1; omega)])
   go_wp2_with fail
   go_ret2
   rw [HFF.out]
   exact ⟨rfl, HH.out.2.2⟩
end Bds
end Go.Proofs.YtklbemkafdccgaaGreat

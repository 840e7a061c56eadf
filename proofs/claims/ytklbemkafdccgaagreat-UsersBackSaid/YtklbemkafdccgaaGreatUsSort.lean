/- users: slices.SortFunc by their numbers; Users. -/
import Derived.Test.YtklbemkafdccgaaGreatK32
import Derived.Test.YtklbemkafdccgaaGreatUsShelf3
import Derived.Test.YtklbemkafdccgaaGreatK17
import Derived.Test.YtklbemkafdccgaaGreatK24
import Derived.Test.YtklbemkafdccgaaGreatK28
namespace Go.Proofs.YtklbemkafdccgaaGreat
open Go.RowKit Go.Maps Go.Sort Go.Shelf
namespace Usr
open Adr (Str)
open Mp
/-- users with small numbers: their difference is one -/
abbrev UsrS : Type := { u : UsrP // 0 ≤ u.n ∧ u.n ≤ 1000000 }
instance : Inhabited UsrS := ⟨⟨zeroU, by decide⟩⟩
def encS (x : UsrS) : List Value := usC x.1
def cfS (x y : UsrS) : Int := x.1.n - y.1.n
theorem encS_len (x : UsrS) : (encS x).length = 4 := rfl
theorem ltS_def (x y : UsrS) : ltOf cfS x y = decide (x.1.n < y.1.n) := by
 unfold ltOf cfS
 rw [decide_eq_decide]
 omega
theorem swoS : SWO (ltOf cfS) where
 irrefl x := by rw [ltS_def]; simp
 trans x y z h1 h2 := by rw [ltS_def] at *; simp at *; omega
 ntrans x y z h1 h2 := by rw [ltS_def] at *; simp at *; omega
theorem flatK_list (l : List UsrS) : (flatK encS 4 l.toArray).toList = l.flatMap encS := by
 apply List.ext_getElem?
 intro t
 have hlen : (l.flatMap encS).length = l.length * 4 := flat_len encS_len l
 by_cases ht : t < l.length * 4
 ·have hq : t / 4 < l.length := by omega
  have e := flat_get encS_len l (t / 4) (t % 4) _ (List.getElem?_eq_getElem hq) (Nat.mod_lt _ (by decide))
  rw [show t / 4 * 4 + t % 4 = t from by omega] at e
  rw [e, Array.getElem?_toList, Array.getElem?_eq_getElem (by simpa using ht)]
  have hm : t % 4 < (encS l[t / 4]).length := by rw [encS_len]; exact Nat.mod_lt _ (by decide)
  rw [List.getElem?_eq_getElem hm]
  simp only [flatK, Array.getElem_map, Array.getElem_range, Option.some.injEq]
  rw [getElem!_pos l.toArray (t / 4) (by simpa using hq)]
  rw [getElem!_pos _ (t % 4) (by simpa using hm)]
  simp
 ·rw [List.getElem?_eq_none (by simp; omega), List.getElem?_eq_none (by omega)]
theorem cmpLays (blk off size : Nat) (w : World) : CmpLays Tryz.prog 102 #[] encS 4 cfS blk off size w := by
 intro m os dk _ x y
 generalize sortWorldK encS 4 w blk off m dk os = W
 obtain ⟨⟨xn, xs, xb, xc⟩, hx⟩ := x
 obtain ⟨⟨yn, ys, yb, yc⟩, hy⟩ := y
 simp only at hx hy
 have hw : IntKind.i64.wrap (xn - yn) = xn - yn := IntWalk.i64_in _ (by omega)
 unfold encS usC cfS
 simp only
 show Calls Tryz.prog 102 #[.agg #[.int .i64 xn, .string (bstr xs), .int .i64 xb, .int .i64 xc], .agg #[.int .i64 yn, .string (bstr ys), .int .i64 yb, .int .i64 yc]] W _
 go_enter Tryz.func102, Tryz.ntmps102
 go_wp2_with fail
 go_ret
 exact ⟨rfl, 0, #[.cells #[.int .i64 xn, .string (bstr xs), .int .i64 xb, .int .i64 xc] 42, .cells #[.int .i64 yn, .string (bstr ys), .int .i64 yb, .int .i64 yc] 42], by rw [alloc_eq_grow, alloc_eq_grow, grow_grow]; rfl⟩
theorem heap_sortK {w : World} {g n : Nat} {os : Array Obj} {cur : Array Value} {e : TypeId} {fr : Nat × Nat} (d : Array UsrS) (hb : w.heap[g]? = some (.cells cur e fr)) :
  (sortWorldK encS 4 w g 0 n d os).heap[g]? = some (.cells (putCells id 0 (flatK encS 4 d) cur) e fr) := by
 have hg : g < w.heap.size := (Array.getElem?_eq_some_iff.1 hb).1
 unfold sortWorldK putRowK
 rw [heap_grow_old _ _ (by simpa using hg)]
 simp [putRow, mapBlock, Sort.ahead, Array.getElem?_modify, hb, onCells]
theorem grown_sortK {w : World} {g n : Nat} {os : Array Obj} (d : Array UsrS) : w.grownBy (sortWorldK encS 4 w g 0 n d os) (some g) := by
 unfold sortWorldK putRowK
 refine ⟨rfl, rfl, rfl, by simp, fun k hk hne => ?_⟩
 rw [heap_grow_old _ _ (by simpa using hk)]
 have : g ≠ k := fun e => hne (by rw [e])
 simp [putRow, mapBlock, Sort.ahead, Array.getElem?_modify, this]
theorem take_put (cur : Array Value) (l : List UsrS) (h : l.length * 4 ≤ cur.size) : (putCells id 0 (flatK encS 4 l.toArray) cur).toList.take (l.length * 4) = l.flatMap encS := by
 rw [← flatK_list]
 generalize hF : flatK encS 4 l.toArray = F
 have hs : F.size = l.length * 4 := by rw [← hF]; simp
 rw [← hs] at h ⊢
 apply List.ext_getElem?
 intro j
 by_cases hj : j < F.size
 ·rw [List.getElem?_take_of_lt hj, Array.getElem?_toList, Array.getElem?_toList]
  simp [putCells, hj, show j < cur.size by omega]
 ·rw [List.getElem?_take_eq_none (by omega), List.getElem?_eq_none (by simp; omega)]
theorem holds_blkK {w : World} {g : Nat} {cur : Array Value} {e : TypeId} {l : List UsrS} (hb : w.heap[g]? = some (.cells cur e (0, 0))) (ht : cur.toList.take (l.length * 4) = l.flatMap encS) : HoldsK encS 4 w g 0 l.toArray := by
 unfold HoldsK
 intro j hj
 have hj' : j < l.length * 4 := by simpa using hj
 refine ⟨?_, by simp [World.frozen?, hb]⟩
 have h1 : (cur.toList.take (l.length * 4))[j]? = (flatK encS 4 l.toArray).toList[j]? := by rw [ht, flatK_list]
 rw [List.getElem?_take_of_lt hj'] at h1
 simp only [World.cell?, hb, Nat.zero_add]
 simp only [Option.isSome_none, Bool.false_eq_true, if_false]
 rw [← Array.getElem?_toList, h1]
 simp only [id_eq, Array.getElem?_toList]
 rw [Array.getElem?_eq_getElem hj, getElem!_pos _ j hj]
theorem userM : (∀ w, (isAgg 42).run Tryz.prog w = .ok true w) ∧ (∀ w, (sizeOf 42).run Tryz.prog w = .ok 4 w) := ⟨fun _ => by kernel_rfl, fun _ => by kernel_rfl⟩
theorem e59 : ∀ args w, (callFunc 102 args).run Tryz.prog w = .ok (.enter 102 args) w := enters_of Tryz.func102 (by kernel_rfl) rfl
theorem sortUs_any (g cap base : Nat) (l : List UsrS) (W : World) (cur : Array Value) (hb : W.heap[g]? = some (.cells cur 42 (0, 0))) (hbase : base ≤ g) (h0 : l.length ≤ 1000000) (h1 : l.length ≤ cap) (h2 : cap ≤ maxLen) (h3 : cur.size = cap * 4) (h4 : cur.toList.take (l.length * 4) = l.flatMap encS) :
  Calls Tryz.prog 158 #[.slice (some ⟨g, 0, none⟩) l.length cap, .func (.func 102) #[] #[]] W fun e w' => e = .returned (.tuple #[]) ∧ ∃ l' : List UsrS, l'.Perm l ∧ l'.Pairwise (fun a b => a.1.n ≤ b.1.n) ∧ w'.ownsRow base 42 4 (.slice (some ⟨g, 0, none⟩) l.length cap) l.length (l'.flatMap encS) ∧ W.grownBy w' (some g) := by
 have hgl : g < W.heap.size := (Array.getElem?_eq_some_iff.1 hb).1
 have h := AnyQ.slices_SortFunc Tryz.sortUs 4 userM.1 userM.2 encS encS_len (fun x v hv => by
  unfold encS usC at hv
  simp only [List.mem_cons, List.not_mem_nil, or_false] at hv
  rcases hv with rfl | rfl | rfl | rfl <;> rfl) cfS swoS 102 #[] g 0 cap l.toArray W e59 (cmpLays g 0 l.toArray.size W) (holds_blkK hb h4) hgl (by simp only [List.size_toArray]; omega)
 refine (show Calls Tryz.prog 158 #[.slice (some ⟨g, 0, none⟩) l.length cap, .func (.func 102) #[] #[]] W _ from h).mono ?_
 rintro e w' ⟨rfl, d', n, os, hp, hs, rfl⟩
 obtain ⟨hsz, -, hperm⟩ := hp
 simp only [List.size_toArray] at hsz hperm hs
 have e1 : d'.extract 0 l.length = d' := by rw [← hsz]; exact Array.extract_size
 have e2 : l.toArray.extract 0 l.length = l.toArray := by simp
 rw [e1, e2] at hperm
 obtain ⟨l', rfl⟩ : ∃ l', d' = List.toArray l' := ⟨d'.toList, by simp⟩
 simp only [List.size_toArray] at hsz
 refine ⟨rfl, l', hperm, ?_, ?_, grown_sortK _⟩
 ·rw [List.pairwise_iff_getElem]
  intro i j hi hj hij
  have := hs i j (Nat.zero_le _) hij (by omega)
  rw [ltS_def] at this
  rw [getElem!_pos l'.toArray j (by simpa using hj), getElem!_pos l'.toArray i (by simpa using hi)] at this
  have h5 := of_decide_eq_false this
  simp only [List.getElem_toArray] at h5
  omega
 ·refine ⟨?_, .inr ⟨g, cap, _, rfl, hbase, heap_sortK _ hb, h1, h2, by simp [putCells, h3], ?_⟩⟩
  ·rw [flat_len encS_len, hsz]
  ·rw [← hsz]
   exact take_put cur l' (by omega)
theorem sortUs_none (p : Option Addr) (cap : Nat) (fv : Value) (w : World) : Calls Tryz.prog 158 #[.slice p 0 cap, fv] w fun e w' => e = .returned (.tuple #[]) ∧ w' = w := AnyF.slices_SortFunc_none Tryz.sortUs p cap fv w
/-- users whose numbers rise are one list -/
theorem rise_uniq {l us : List UsrP} (hp : l.Perm us) (h1 : l.Pairwise fun a b => a.n ≤ b.n) (h2 : us.Pairwise fun a b => a.n < b.n) : l = us := by
 have inj : ∀ x ∈ us, ∀ y ∈ us, x.n = y.n → x = y := by
  intro x hx y hy e
  obtain ⟨i, hi, rfl⟩ := List.getElem_of_mem hx
  obtain ⟨j, hj, rfl⟩ := List.getElem_of_mem hy
  have hr := List.pairwise_iff_getElem.1 h2
  rcases Nat.lt_trichotomy i j with h | h | h
  ·have := hr i j hi hj h; omega
  ·subst h; rfl
  ·have := hr j i hj hi h; omega
 refine List.Perm.eq_of_pairwise (le := fun a b => a.n ≤ b.n) ?_ h1 (h2.imp fun {a b} h => by omega) hp
 intro a b ha hb h3 h4
 exact inj a (hp.mem_iff.1 ha) b hb (by omega)
def UsersDid (W : World) (us : List UsrP) (e : Ending) (w' : World) : Prop := ∃ v, e = .returned v ∧ w'.ownsRow W.heap.size 42 4 v us.length (us.flatMap usC) ∧ Keeps W w'
theorem lift_us {l : List UsrP} (h : ∀ u ∈ l, 0 ≤ u.n ∧ u.n ≤ 1000000) : ∃ m : List UsrS, m.map (·.1) = l ∧ m.flatMap encS = l.flatMap usC := by
 induction l with
 |nil => exact ⟨[], rfl, rfl⟩
 |cons a l ih =>
  obtain ⟨m, h1, h2⟩ := ih (fun u hu => h u (List.mem_cons_of_mem _ hu))
  exact ⟨⟨a, h a (List.mem_cons_self ..)⟩ :: m, by simp [h1], by rw [List.flatMap_cons, List.flatMap_cons, h2]; rfl⟩
theorem flat_sub (m : List UsrS) : m.flatMap encS = (m.map (·.1)).flatMap usC := by
 induction m with
 |nil => rfl
 |cons a m ih => rw [List.flatMap_cons, List.map_cons, List.flatMap_cons, ih]; rfl
set_option maxRecDepth 100000 in
theorem sortedFunc_any (w : World) (b nn : Nat) (D : DataW Unit) (us : List UsrP) (hown : w.ownsMap Tryz.prog 9 usrElem b nn D) (hm : MapOf strL usrD D (us.map fun u => (u.name, u))) (hr : us.Pairwise fun a b => a.n < b.n) (hs : ∀ u ∈ us, 0 ≤ u.n ∧ u.n ≤ 1000000) (hl : us.length ≤ 1000000) :
  Calls Tryz.prog 101 #[.func (.func 108) #[] #[.pointer (some ⟨w.heap.size, 0, none⟩)], .func (.func 102) #[] #[]] (w.alloc (.cells #[.map (some b)] 81)) (UsersDid w us) := by
 have hbl := hown.lt
 have hsz : Maps.size D = us.length := by rw [hm.size, List.length_map]
 have hseq := (vals_stops 1 (by omega) w.heap.size b nn D (w.alloc (.cells #[.map (some b)] 81)) (by simp) (by simp) (by
   obtain ⟨es, clock, hb, Ft, hs, hD⟩ := hown
   exact ⟨es, clock, (Below.heap_alloc _ _ b hbl).trans hb, Ft, hs, hD⟩)).gives
 rw [hsz] at hseq
 have cC := (callsIn_wide (n := 3)).1 (collect_in 3 (by omega) 108 #[.pointer (some ⟨w.heap.size, 0, none⟩)] (enters_of Tryz.func108 (by kernel_rfl) rfl) _ us.length hl _ hseq)
 have CC := Lib.hid cC
 have HM := Lib.hid hm
 have HR := Lib.hid hr
 have HS := Lib.hid hs
 have HK := Lib.hid (show Keeps w (w.alloc (.cells #[.map (some b)] 81)) from (Keeps.refl _).alloc _)
 clear cC hseq hown hm hr hs
 generalize w.alloc (.cells #[.map (some b)] 81) = w1 at *
 go_enter Tryz.func101, Tryz.ntmps101
 go_wp2_with fail
 refine CC.out.mono ?_
 rintro e w2 ⟨v, ss, rfl, ⟨ps, hA, rfl⟩, hrow, hb⟩
 have hperm := allU_perm HM.out hA
 have hk2 : Keeps w w2 := HK.out.trans hb
 obtain ⟨m, hm1, hm2⟩ := lift_us (l := ps.map (·.2)) (fun u hu => HS.out u (hperm.mem_iff.1 hu))
 have HP := Lib.hid hperm
 have HM1 := Lib.hid hm1
 rw [← hm2] at hrow
 have hle : (ps.map (·.2)).length = m.length := by rw [← hm1, List.length_map]
 rw [hle] at hrow
 have HK2 := Lib.hid hk2
 have HSZ := Lib.hid HK.out.size
 have hml : m.length = us.length := by rw [← hle]; exact hperm.length_eq
 clear hA hperm hm1 hm2 hle hk2 CC hb
 rcases hrow.2 with ⟨rfl, hz⟩ | ⟨gb, cap, cur, rfl, hbase, hgb, r1, r2, r3, r4⟩
 ·have hu : us = [] := List.eq_nil_of_length_eq_zero (by omega)
  subst hu
  go_wp2_with fail
  refine (sortUs_none none 0 _ _).mono ?_
  rintro e w3 ⟨rfl, rfl⟩
  go_wp2_with fail
  go_ret
  exact ⟨_, rfl, World.ownsRow_nil _ _ _ 4, HK2.out⟩
 ·have CS := Lib.hid (sortUs_any gb cap w.heap.size m w2 cur hgb (Nat.le_trans HSZ.out hbase) (by omega) r1 r2 r3 r4)
  have HG := Lib.hid (Nat.le_trans HSZ.out hbase)
  clear hrow hgb r4 r1 r2 r3 hbase
  rw [hml] at CS ⊢
  go_wp2_with fail
  refine CS.out.mono ?_
  rintro e w3 ⟨rfl, l', hp, hpw, ho, hg⟩
  have e1 : l'.map (·.1) = us := rise_uniq ((hp.map _).trans (by rw [HM1.out]; exact HP.out)) (List.pairwise_map.2 hpw) HR.out
  rw [flat_sub, e1] at ho
  have HO := Lib.hid ho
  have HK3 := Lib.hid (HK2.out.grown hg (fun k e => by cases e; exact HG.out))
  clear ho hg hp hpw e1 CS
  go_wp2_with fail
  go_ret
  exact ⟨_, rfl, HO.out, HK3.out⟩
set_option maxRecDepth 100000 in
/-- Users -/
theorem users_any (w : World) (g b1 b2 n : Nat) (t : TabP) (h : TabAt w g b1 b2 n t) (hR : Right t) : Calls Tryz.prog 47 #[.pointer (some ⟨g, 0, none⟩)] w (UsersDid w t.us) := by
 obtain ⟨-, -, c2, -⟩ := h.cells
 obtain ⟨D, h1, h2⟩ := h.us
 have hnx := hR.nx
 have hul := hR.ul
 have CS := Lib.hid (sortedFunc_any w b1 n D t.us h1 h2 hR.num (fun u hu => by have := hR.lo u hu; omega) (by omega))
 have CV := Lib.hid ((callsIn_wide (n := 3)).1 (values_in 3 (some b1) w))
 clear h h1 h2 hR hnx hul
 go_enter Tryz.func47, Tryz.ntmps47
 go_wp2_with fail
 refine CV.out.mono ?_
 rintro e w1 ⟨rfl, rfl⟩
 go_wp2_with fail
 refine CS.out.mono ?_
 rintro e w2 ⟨v, rfl, ho, hk⟩
 have HO := Lib.hid ho
 have HK := Lib.hid hk
 obtain ⟨p, c, rfl, -, -⟩ := Frm.ownsRow_form ho
 clear ho hk
 go_wp2_with fail
 go_ret
 exact ⟨_, rfl, HO.out, HK.out⟩
end Usr
end Go.Proofs.YtklbemkafdccgaaGreat

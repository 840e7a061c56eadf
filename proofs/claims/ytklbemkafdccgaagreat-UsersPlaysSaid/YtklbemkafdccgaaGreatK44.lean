/- Several texts in one: UsSort, UsUser. -/
import Derived.Test.YtklbemkafdccgaaGreatK32
import Derived.Test.YtklbemkafdccgaaGreatUsShelf3
import Derived.Test.YtklbemkafdccgaaGreatK17
import Derived.Test.YtklbemkafdccgaaGreatK24
import Derived.Test.YtklbemkafdccgaaGreatK28
/- users: slices.SortFunc by their numbers; Users. -/
namespace Go.Proofs.YtklbemkafdccgaaGreat
open Go.RowKit Go.Maps Go.Sort Go.Shelf
namespace Usr
open Adr (Str)
open Mp
/-- users with small numbers: their difference is one -/
abbrev UsrS : Type := { u : UsrP // 0 ≤ u.n ∧ u.n ≤ 1000000 }
instance : Inhabited UsrS := ⟨⟨zeroU, by decide⟩⟩
def encS (x : UsrS) : List Value := usC x.1
def cfS (x y : UsrS) : Int := x.1.n - y.1.n
theorem encS_len (x : UsrS) : (encS x).length = 4 := rfl
theorem ltS_def (x y : UsrS) : ltOf cfS x y = decide (x.1.n < y.1.n) := by
 unfold ltOf cfS
 rw [decide_eq_decide]
 omega
theorem swoS : SWO (ltOf cfS) where
 irrefl x := by rw [ltS_def]; simp
 trans x y z h1 h2 := by rw [ltS_def] at *; simp at *; omega
 ntrans x y z h1 h2 := by rw [ltS_def] at *; simp at *; omega
theorem flatK_list (l : List UsrS) : (flatK encS 4 l.toArray).toList = l.flatMap encS := by
 apply List.ext_getElem?
 intro t
 have hlen : (l.flatMap encS).length = l.length * 4 := flat_len encS_len l
 by_cases ht : t < l.length * 4
 ·have hq : t / 4 < l.length := by omega
  have e := flat_get encS_len l (t / 4) (t % 4) _ (List.getElem?_eq_getElem hq) (Nat.mod_lt _ (by decide))
  rw [show t / 4 * 4 + t % 4 = t from by omega] at e
  rw [e, Array.getElem?_toList, Array.getElem?_eq_getElem (by simpa using ht)]
  have hm : t % 4 < (encS l[t / 4]).length := by rw [encS_len]; exact Nat.mod_lt _ (by decide)
  rw [List.getElem?_eq_getElem hm]
  simp only [flatK, Array.getElem_map, Array.getElem_range, Option.some.injEq]
  rw [getElem!_pos l.toArray (t / 4) (by simpa using hq)]
  rw [getElem!_pos _ (t % 4) (by simpa using hm)]
  simp
 ·rw [List.getElem?_eq_none (by simp; omega), List.getElem?_eq_none (by omega)]
theorem cmpLays (blk off size : Nat) (w : World) : CmpLays Tryz.prog 102 #[] encS 4 cfS blk off size w := by
 intro m os dk _ x y
 generalize sortWorldK encS 4 w blk off m dk os = W
 obtain ⟨⟨xn, xs, xb, xc⟩, hx⟩ := x
 obtain ⟨⟨yn, ys, yb, yc⟩, hy⟩ := y
 simp only at hx hy
 have hw : IntKind.i64.wrap (xn - yn) = xn - yn := IntWalk.i64_in _ (by omega)
 unfold encS usC cfS
 simp only
 show Calls Tryz.prog 102 #[.agg #[.int .i64 xn, .string (bstr xs), .int .i64 xb, .int .i64 xc], .agg #[.int .i64 yn, .string (bstr ys), .int .i64 yb, .int .i64 yc]] W _
 go_enter Tryz.func102, Tryz.ntmps102
 go_wp2_with fail
 go_ret
 exact ⟨rfl, 0, #[.cells #[.int .i64 xn, .string (bstr xs), .int .i64 xb, .int .i64 xc] 42, .cells #[.int .i64 yn, .string (bstr ys), .int .i64 yb, .int .i64 yc] 42], by rw [alloc_eq_grow, alloc_eq_grow, grow_grow]; rfl⟩
theorem heap_sortK {w : World} {g n : Nat} {os : Array Obj} {cur : Array Value} {e : TypeId} {fr : Nat × Nat} (d : Array UsrS) (hb : w.heap[g]? = some (.cells cur e fr)) :
  (sortWorldK encS 4 w g 0 n d os).heap[g]? = some (.cells (putCells id 0 (flatK encS 4 d) cur) e fr) := by
 have hg : g < w.heap.size := (Array.getElem?_eq_some_iff.1 hb).1
 unfold sortWorldK putRowK
 rw [heap_grow_old _ _ (by simpa using hg)]
 simp [putRow, mapBlock, Sort.ahead, Array.getElem?_modify, hb, onCells]
theorem grown_sortK {w : World} {g n : Nat} {os : Array Obj} (d : Array UsrS) : w.grownBy (sortWorldK encS 4 w g 0 n d os) (some g) := by
 unfold sortWorldK putRowK
 refine ⟨rfl, rfl, rfl, by simp, fun k hk hne => ?_⟩
 rw [heap_grow_old _ _ (by simpa using hk)]
 have : g ≠ k := fun e => hne (by rw [e])
 simp [putRow, mapBlock, Sort.ahead, Array.getElem?_modify, this]
theorem take_put (cur : Array Value) (l : List UsrS) (h : l.length * 4 ≤ cur.size) : (putCells id 0 (flatK encS 4 l.toArray) cur).toList.take (l.length * 4) = l.flatMap encS := by
 rw [← flatK_list]
 generalize hF : flatK encS 4 l.toArray = F
 have hs : F.size = l.length * 4 := by rw [← hF]; simp
 rw [← hs] at h ⊢
 apply List.ext_getElem?
 intro j
 by_cases hj : j < F.size
 ·rw [List.getElem?_take_of_lt hj, Array.getElem?_toList, Array.getElem?_toList]
  simp [putCells, hj, show j < cur.size by omega]
 ·rw [List.getElem?_take_eq_none (by omega), List.getElem?_eq_none (by simp; omega)]
theorem holds_blkK {w : World} {g : Nat} {cur : Array Value} {e : TypeId} {l : List UsrS} (hb : w.heap[g]? = some (.cells cur e (0, 0))) (ht : cur.toList.take (l.length * 4) = l.flatMap encS) : HoldsK encS 4 w g 0 l.toArray := by
 unfold HoldsK
 intro j hj
 have hj' : j < l.length * 4 := by simpa using hj
 refine ⟨?_, by simp [World.frozen?, hb]⟩
 have h1 : (cur.toList.take (l.length * 4))[j]? = (flatK encS 4 l.toArray).toList[j]? := by rw [ht, flatK_list]
 rw [List.getElem?_take_of_lt hj'] at h1
 simp only [World.cell?, hb, Nat.zero_add]
 simp only [Option.isSome_none, Bool.false_eq_true, if_false]
 rw [← Array.getElem?_toList, h1]
 simp only [id_eq, Array.getElem?_toList]
 rw [Array.getElem?_eq_getElem hj, getElem!_pos _ j hj]
theorem userM : (∀ w, (isAgg 42).run Tryz.prog w = .ok true w) ∧ (∀ w, (sizeOf 42).run Tryz.prog w = .ok 4 w) := ⟨fun _ => by kernel_rfl, fun _ => by kernel_rfl⟩
theorem e59 : ∀ args w, (callFunc 102 args).run Tryz.prog w = .ok (.enter 102 args) w := enters_of Tryz.func102 (by kernel_rfl) rfl
theorem sortUs_any (g cap base : Nat) (l : List UsrS) (W : World) (cur : Array Value) (hb : W.heap[g]? = some (.cells cur 42 (0, 0))) (hbase : base ≤ g) (h0 : l.length ≤ 1000000) (h1 : l.length ≤ cap) (h2 : cap ≤ maxLen) (h3 : cur.size = cap * 4) (h4 : cur.toList.take (l.length * 4) = l.flatMap encS) :
  Calls Tryz.prog 158 #[.slice (some ⟨g, 0, none⟩) l.length cap, .func (.func 102) #[] #[]] W fun e w' => e = .returned (.tuple #[]) ∧ ∃ l' : List UsrS, l'.Perm l ∧ l'.Pairwise (fun a b => a.1.n ≤ b.1.n) ∧ w'.ownsRow base 42 4 (.slice (some ⟨g, 0, none⟩) l.length cap) l.length (l'.flatMap encS) ∧ W.grownBy w' (some g) := by
 have hgl : g < W.heap.size := (Array.getElem?_eq_some_iff.1 hb).1
 have h := AnyQ.slices_SortFunc Tryz.sortUs 4 userM.1 userM.2 encS encS_len (fun x v hv => by
  unfold encS usC at hv
  simp only [List.mem_cons, List.not_mem_nil, or_false] at hv
  rcases hv with rfl | rfl | rfl | rfl <;> rfl) cfS swoS 102 #[] g 0 cap l.toArray W e59 (cmpLays g 0 l.toArray.size W) (holds_blkK hb h4) hgl (by simp only [List.size_toArray]; omega)
 refine (show Calls Tryz.prog 158 #[.slice (some ⟨g, 0, none⟩) l.length cap, .func (.func 102) #[] #[]] W _ from h).mono ?_
 rintro e w' ⟨rfl, d', n, os, hp, hs, rfl⟩
 obtain ⟨hsz, -, hperm⟩ := hp
 simp only [List.size_toArray] at hsz hperm hs
 have e1 : d'.extract 0 l.length = d' := by rw [← hsz]; exact Array.extract_size
 have e2 : l.toArray.extract 0 l.length = l.toArray := by simp
 rw [e1, e2] at hperm
 obtain ⟨l', rfl⟩ : ∃ l', d' = List.toArray l' := ⟨d'.toList, by simp⟩
 simp only [List.size_toArray] at hsz
 refine ⟨rfl, l', hperm, ?_, ?_, grown_sortK _⟩
 ·rw [List.pairwise_iff_getElem]
  intro i j hi hj hij
  have := hs i j (Nat.zero_le _) hij (by omega)
  rw [ltS_def] at this
  rw [getElem!_pos l'.toArray j (by simpa using hj), getElem!_pos l'.toArray i (by simpa using hi)] at this
  have h5 := of_decide_eq_false this
  simp only [List.getElem_toArray] at h5
  omega
 ·refine ⟨?_, .inr ⟨g, cap, _, rfl, hbase, heap_sortK _ hb, h1, h2, by simp [putCells, h3], ?_⟩⟩
  ·rw [flat_len encS_len, hsz]
  ·rw [← hsz]
   exact take_put cur l' (by omega)
theorem sortUs_none (p : Option Addr) (cap : Nat) (fv : Value) (w : World) : Calls Tryz.prog 158 #[.slice p 0 cap, fv] w fun e w' => e = .returned (.tuple #[]) ∧ w' = w := AnyF.slices_SortFunc_none Tryz.sortUs p cap fv w
/-- users whose numbers rise are one list -/
theorem rise_uniq {l us : List UsrP} (hp : l.Perm us) (h1 : l.Pairwise fun a b => a.n ≤ b.n) (h2 : us.Pairwise fun a b => a.n < b.n) : l = us := by
 have inj : ∀ x ∈ us, ∀ y ∈ us, x.n = y.n → x = y := by
  intro x hx y hy e
  obtain ⟨i, hi, rfl⟩ := List.getElem_of_mem hx
  obtain ⟨j, hj, rfl⟩ := List.getElem_of_mem hy
  have hr := List.pairwise_iff_getElem.1 h2
  rcases Nat.lt_trichotomy i j with h | h | h
  ·have := hr i j hi hj h; omega
  ·subst h; rfl
  ·have := hr j i hj hi h; omega
 refine List.Perm.eq_of_pairwise (le := fun a b => a.n ≤ b.n) ?_ h1 (h2.imp fun {a b} h => by omega) hp
 intro a b ha hb h3 h4
 exact inj a (hp.mem_iff.1 ha) b hb (by omega)
def UsersDid (W : World) (us : List UsrP) (e : Ending) (w' : World) : Prop := ∃ v, e = .returned v ∧ w'.ownsRow W.heap.size 42 4 v us.length (us.flatMap usC) ∧ Keeps W w'
theorem lift_us {l : List UsrP} (h : ∀ u ∈ l, 0 ≤ u.n ∧ u.n ≤ 1000000) : ∃ m : List UsrS, m.map (·.1) = l ∧ m.flatMap encS = l.flatMap usC := by
 induction l with
 |nil => exact ⟨[], rfl, rfl⟩
 |cons a l ih =>
  obtain ⟨m, h1, h2⟩ := ih (fun u hu => h u (List.mem_cons_of_mem _ hu))
  exact ⟨⟨a, h a (List.mem_cons_self ..)⟩ :: m, by simp [h1], by rw [List.flatMap_cons, List.flatMap_cons, h2]; rfl⟩
theorem flat_sub (m : List UsrS) : m.flatMap encS = (m.map (·.1)).flatMap usC := by
 induction m with
 |nil => rfl
 |cons a m ih => rw [List.flatMap_cons, List.map_cons, List.flatMap_cons, ih]; rfl
set_option maxRecDepth 100000 in
theorem sortedFunc_any (w : World) (b nn : Nat) (D : DataW Unit) (us : List UsrP) (hown : w.ownsMap Tryz.prog 9 usrElem b nn D) (hm : MapOf strL usrD D (us.map fun u => (u.name, u))) (hr : us.Pairwise fun a b => a.n < b.n) (hs : ∀ u ∈ us, 0 ≤ u.n ∧ u.n ≤ 1000000) (hl : us.length ≤ 1000000) :
  Calls Tryz.prog 101 #[.func (.func 108) #[] #[.pointer (some ⟨w.heap.size, 0, none⟩)], .func (.func 102) #[] #[]] (w.alloc (.cells #[.map (some b)] 81)) (UsersDid w us) := by
 have hbl := hown.lt
 have hsz : Maps.size D = us.length := by rw [hm.size, List.length_map]
 have hseq := (vals_stops 1 (by omega) w.heap.size b nn D (w.alloc (.cells #[.map (some b)] 81)) (by simp) (by simp) (by
   obtain ⟨es, clock, hb, Ft, hs, hD⟩ := hown
   exact ⟨es, clock, (Below.heap_alloc _ _ b hbl).trans hb, Ft, hs, hD⟩)).gives
 rw [hsz] at hseq
 have cC := (callsIn_wide (n := 3)).1 (collect_in 3 (by omega) 108 #[.pointer (some ⟨w.heap.size, 0, none⟩)] (enters_of Tryz.func108 (by kernel_rfl) rfl) _ us.length hl _ hseq)
 have CC := Lib.hid cC
 have HM := Lib.hid hm
 have HR := Lib.hid hr
 have HS := Lib.hid hs
 have HK := Lib.hid (show Keeps w (w.alloc (.cells #[.map (some b)] 81)) from (Keeps.refl _).alloc _)
 clear cC hseq hown hm hr hs
 generalize w.alloc (.cells #[.map (some b)] 81) = w1 at *
 go_enter Tryz.func101, Tryz.ntmps101
 go_wp2_with fail
 refine CC.out.mono ?_
 rintro e w2 ⟨v, ss, rfl, ⟨ps, hA, rfl⟩, hrow, hb⟩
 have hperm := allU_perm HM.out hA
 have hk2 : Keeps w w2 := HK.out.trans hb
 obtain ⟨m, hm1, hm2⟩ := lift_us (l := ps.map (·.2)) (fun u hu => HS.out u (hperm.mem_iff.1 hu))
 have HP := Lib.hid hperm
 have HM1 := Lib.hid hm1
 rw [← hm2] at hrow
 have hle : (ps.map (·.2)).length = m.length := by rw [← hm1, List.length_map]
 rw [hle] at hrow
 have HK2 := Lib.hid hk2
 have HSZ := Lib.hid HK.out.size
 have hml : m.length = us.length := by rw [← hle]; exact hperm.length_eq
 clear hA hperm hm1 hm2 hle hk2 CC hb
 rcases hrow.2 with ⟨rfl, hz⟩ | ⟨gb, cap, cur, rfl, hbase, hgb, r1, r2, r3, r4⟩
 ·have hu : us = [] := List.eq_nil_of_length_eq_zero (by omega)
  subst hu
  go_wp2_with fail
  refine (sortUs_none none 0 _ _).mono ?_
  rintro e w3 ⟨rfl, rfl⟩
  go_wp2_with fail
  go_ret
  exact ⟨_, rfl, World.ownsRow_nil _ _ _ 4, HK2.out⟩
 ·have CS := Lib.hid (sortUs_any gb cap w.heap.size m w2 cur hgb (Nat.le_trans HSZ.out hbase) (by omega) r1 r2 r3 r4)
  have HG := Lib.hid (Nat.le_trans HSZ.out hbase)
  clear hrow hgb r4 r1 r2 r3 hbase
  rw [hml] at CS ⊢
  go_wp2_with fail
  refine CS.out.mono ?_
  rintro e w3 ⟨rfl, l', hp, hpw, ho, hg⟩
  have e1 : l'.map (·.1) = us := rise_uniq ((hp.map _).trans (by rw [HM1.out]; exact HP.out)) (List.pairwise_map.2 hpw) HR.out
  rw [flat_sub, e1] at ho
  have HO := Lib.hid ho
  have HK3 := Lib.hid (HK2.out.grown hg (fun k e => by cases e; exact HG.out))
  clear ho hg hp hpw e1 CS
  go_wp2_with fail
  go_ret
  exact ⟨_, rfl, HO.out, HK3.out⟩
set_option maxRecDepth 100000 in
/-- Users -/
theorem users_any (w : World) (g b1 b2 n : Nat) (t : TabP) (h : TabAt w g b1 b2 n t) (hR : Right t) : Calls Tryz.prog 47 #[.pointer (some ⟨g, 0, none⟩)] w (UsersDid w t.us) := by
 obtain ⟨-, -, c2, -⟩ := h.cells
 obtain ⟨D, h1, h2⟩ := h.us
 have hnx := hR.nx
 have hul := hR.ul
 have CS := Lib.hid (sortedFunc_any w b1 n D t.us h1 h2 hR.num (fun u hu => by have := hR.lo u hu; omega) (by omega))
 have CV := Lib.hid ((callsIn_wide (n := 3)).1 (values_in 3 (some b1) w))
 clear h h1 h2 hR hnx hul
 go_enter Tryz.func47, Tryz.ntmps47
 go_wp2_with fail
 refine CV.out.mono ?_
 rintro e w1 ⟨rfl, rfl⟩
 go_wp2_with fail
 refine CS.out.mono ?_
 rintro e w2 ⟨v, rfl, ho, hk⟩
 have HO := Lib.hid ho
 have HK := Lib.hid hk
 obtain ⟨p, c, rfl, -, -⟩ := Frm.ownsRow_form ho
 clear ho hk
 go_wp2_with fail
 go_ret
 exact ⟨_, rfl, HO.out, HK.out⟩
end Usr
end Go.Proofs.YtklbemkafdccgaaGreat

/- users: User: a range over maps.Values that leaves early. -/
namespace Go.Proofs.YtklbemkafdccgaaGreat
open Go.RowKit Go.Maps Go.Sort Go.Shelf
namespace Usr
open Adr (Str)
open Mp
def ukRec (ac bd : Code) (tm : Array Value) (fn : FuncId) (D : Nat) (st : LoopState) (pend : Option Code) : Loop :=
 {state := st, pending := pend, fn, tmps := tm, params := #[12], assign := ac, body := bd, defers := D }
structure UkAt (ac bd : Code) (tm : Array Value) (w0 : World) (fn : FuncId) (num : Int) (Bn Br Bb l D : Nat) (res : UsrP) (ok : Bool) (st : LoopState) (pend : Option Code) (W : World) : Prop where
 cn : Blk W Bn 3 #[.int .i64 num]
 cr : Blk W Br 42 (usrA res)
 cb : Blk W Bb 4 #[.bool ok]
 L : W.heap[l]? = some (.loop (ukRec ac bd tm fn D st pend))
 K : W.heap[D]? = some (.deferred (some []))
 below : Below w0.heap.size w0 W
theorem uk_abides {ac bd : Code} {tm : Array Value} {w0 : World} {fn : FuncId} {num : Int} {Bn Br Bb l D : Nat} {res : UsrP} {ok : Bool} {st : LoopState} {pend : Option Code} {W W' : World} {row : Option Nat} {B : Nat} (hB : w0.heap.size ≤ B) (h : UkAt ac bd tm w0 fn num Bn Br Bb l D res ok st pend W)
  (hg : W.grownBy W' row) (hrow : ∀ r, row = some r → B ≤ r ∧ ∃ o : Obj, W.heap[r]? = some o ∧ o.isWalk = true) : UkAt ac bd tm w0 fn num Bn Br Bb l D res ok st pend W' := by
 have hrow' : ∀ r, row = some r → ∃ o : Obj, W.heap[r]? = some o ∧ o.isWalk = true := fun r e => (hrow r e).2
 exact ⟨(grownBy_keeps hg hrow' h.cn rfl).trans h.cn, (grownBy_keeps hg hrow' h.cr rfl).trans h.cr, (grownBy_keeps hg hrow' h.cb rfl).trans h.cb, (grownBy_keeps hg hrow' h.L rfl).trans h.L, (grownBy_keeps hg hrow' h.K rfl).trans h.K, h.below.grown hg h.below.size (fun k e => Nat.le_trans hB (hrow k e).1)⟩
theorem Blk.putO {w : World} {g l : Nat} {t : TypeId} {cs : Array Value} (h : Blk w g t cs) (o : Obj) (hn : g ≠ l) : Blk (w.putObj l o) g t cs := (World.putObj_heap_other hn).trans h
set_option maxRecDepth 100000 in
set_option maxHeartbeats 2000000 in
theorem ukYield (ac bd : Code) (has : ac = at_ [true, false, true, true, false] (Tryz.f14.body.getD .skip)) (hbd : bd = at_ [true, false, true, true, true] (Tryz.f14.body.getD .skip)) (m : Nat) (w0 : World) (fn : FuncId) (num : Int) (Bn Br Bb l D : Nat)
  (v0 v1 v2 v7 v8 v9 v10 v11 : Value) (tm : Array Value) (htm : tm = #[v0, v1, v2, .pointer (some ⟨Bn, 0, none⟩), .pointer (some ⟨Br, 0, none⟩), .pointer (some ⟨Bb, 0, none⟩), undef, v7, v8, v9, v10, v11, undef, undef, undef, undef, undef, undef, undef])
  (hnl : Bn ≠ l) (hrl : Br ≠ l) (hbl : Bb ≠ l) (hDl : D ≠ l) (hDr : D ≠ Br) (hDb : D ≠ Bb) (hnr : Bn ≠ Br) (hnb : Bn ≠ Bb) (hrb : Br ≠ Bb) (h0r : w0.heap.size ≤ Br) (h0b : w0.heap.size ≤ Bb) (h0l : w0.heap.size ≤ l)
  (pre : List UsrP) (x : UsrP) (W : World) (hp : ∀ y ∈ pre, y.n ≠ num) (h : UkAt ac bd tm w0 fn num Bn Br Bb l D zeroU false .ready none W) :
  YieldAt Fence.wide m Tryz.prog l #[usrV x] W fun e W' =>
   (e = .returned (.bool true) ∧ ((∀ y ∈ pre ++ [x], y.n ≠ num) ∧ UkAt ac bd tm w0 fn num Bn Br Bb l D zeroU false .ready none W') ∧ KeepsWalks W W') ∨
   (e = .returned (.bool false) ∧ ∃ u, (u ∈ pre ++ [x] ∧ u.n = num) ∧ UkAt ac bd tm w0 fn num Bn Br Bb l D u true .done (some .ret) W') := by
 refine ⟨fn, #[v0, v1, v2, .pointer (some ⟨Bn, 0, none⟩), .pointer (some ⟨Br, 0, none⟩), .pointer (some ⟨Bb, 0, none⟩), undef, v7, v8, v9, v10, v11, usrV x, undef, undef, undef, undef, undef, undef], ac, bd, by simpa [ukRec, htm] using run_yield (P := Tryz.prog) (args := #[usrV x]) h.L rfl, roundIn_of_wpIn trivial ?_⟩
 obtain ⟨un, unm, ub, uc⟩ := x
 unfold usrV usrA
 simp only
 obtain ⟨Wa, hWa⟩ : ∃ Wa, W.alloc (.cells #[.int .i64 un, .string (bstr unm), .int .i64 ub, .int .i64 uc] 42) = Wa := ⟨_, rfl⟩
 obtain ⟨q, hq⟩ : ∃ q, W.heap.size = q := ⟨_, rfl⟩
 have hga : W.grownBy Wa none := by rw [← hWa]; exact ⟨rfl, rfl, rfl, by simp, fun k hk _ => Below.heap_alloc _ _ k hk⟩
 have hka : KeepsWalks W Wa := by rw [← hWa]; exact KeepsWalks.alloc _ _
 have hxa : Blk Wa q 42 #[.int .i64 un, .string (bstr unm), .int .i64 ub, .int .i64 uc] := by rw [← hWa, ← hq]; exact World.alloc_heap_new W _
 have hlW : l < q := by rw [← hq]; exact (Array.getElem?_eq_some_iff.1 h.L).1
 have hLa : Wa.heap[l]? = some (.loop (ukRec ac bd tm fn D .ready none)) := (hga.block l (by omega) (by simp)).trans h.L
 have hl : l < Wa.heap.size := (Array.getElem?_eq_some_iff.1 hLa).1
 have hbr := run_beginRound (P := Tryz.prog) hLa rfl
 obtain ⟨W2, hW2⟩ : ∃ W2, Wa.putObj l (.loop { ukRec ac bd tm fn D .ready none with state := .busy }) = W2 := ⟨_, rfl⟩
 rw [hW2] at hbr
 have hk2 : KeepsWalks W W2 := by rw [← hW2]; exact hka.trans (KeepsWalks.putObj _ hLa rfl)
 have hn2 : Blk W2 Bn 3 #[.int .i64 num] := by rw [← hW2]; exact Blk.putO (h.cn.grown hga (by simp)) _ hnl
 have hr2 : Blk W2 Br 42 (usrA zeroU) := by rw [← hW2]; exact Blk.putO (h.cr.grown hga (by simp)) _ hrl
 have hb2 : Blk W2 Bb 4 #[.bool false] := by rw [← hW2]; exact Blk.putO (h.cb.grown hga (by simp)) _ hbl
 have hx2 : Blk W2 q 42 #[.int .i64 un, .string (bstr unm), .int .i64 ub, .int .i64 uc] := by rw [← hW2]; exact Blk.putO hxa _ (by omega)
 have hK2 : W2.heap[D]? = some (.deferred (some [])) := by rw [← hW2]; exact (World.putObj_heap_other hDl).trans ((hga.block D (Array.getElem?_eq_some_iff.1 h.K).1 (by simp)).trans h.K)
 have hL2 : W2.heap[l]? = some (.loop { ukRec ac bd tm fn D .ready none with state := .busy }) := by rw [← hW2]; exact World.putObj_heap_same hl
 have hbw : Below w0.heap.size w0 W2 := by
  rw [← hW2]
  exact (h.below.grown hga h.below.size (fun k e => by cases e)).grown (grownBy_putObj_a _ _ _) (h.below.grown hga h.below.size (fun k e => by cases e)).size (fun k e => by cases e; exact h0l)
 have hqr : Br < q := by rw [← hq]; exact h.cr.lt
 have n0 : W2.cell? ⟨Bn, 0, none⟩ = some (.int .i64 num) := by rw [hn2.cell]; rfl
 have x0 : W2.cell? ⟨q, 0, none⟩ = some (.int .i64 un) := by rw [hx2.cell]; rfl
 have x1 : W2.cell? ⟨q, 1, none⟩ = some (.string (bstr unm)) := by rw [hx2.cell]; rfl
 have x2 : W2.cell? ⟨q, 2, none⟩ = some (.int .i64 ub) := by rw [hx2.cell]; rfl
 have x3 : W2.cell? ⟨q, 3, none⟩ = some (.int .i64 uc) := by rw [hx2.cell]; rfl
 have r0 : W2.cell? ⟨Br, 0, none⟩ = some (.int .i64 0) := by rw [hr2.cell]; rfl
 have r1 : W2.cell? ⟨Br, 1, none⟩ = some (.string (bstr [])) := by rw [hr2.cell]; rfl
 have r2 : W2.cell? ⟨Br, 2, none⟩ = some (.int .i64 0) := by rw [hr2.cell]; rfl
 have r3 : W2.cell? ⟨Br, 3, none⟩ = some (.int .i64 0) := by rw [hr2.cell]; rfl
 have f0 : W2.frozen? ⟨Br, 0, none⟩ = false := hr2.frozen 0
 have f1 : W2.frozen? ⟨Br, 1, none⟩ = false := hr2.frozen 1
 have f2 : W2.frozen? ⟨Br, 2, none⟩ = false := hr2.frozen 2
 have f3 : W2.frozen? ⟨Br, 3, none⟩ = false := hr2.frozen 3
 have b0 : W2.cell? ⟨Bb, 0, none⟩ = some (.bool false) := by rw [hb2.cell]; rfl
 have g0 : W2.frozen? ⟨Bb, 0, none⟩ = false := hb2.frozen 0
 clear hW2
 have HB := Lib.hid (And.intro hn2 (And.intro hr2 hb2))
 have HL := Lib.hid (And.intro hL2 hK2)
 have HW := Lib.hid (And.intro hbw hk2)
 have HP := Lib.hid hp
 have HAS := Lib.hid has
 have HBD := Lib.hid hbd
 generalize hA : UkAt ac bd tm w0 fn num Bn Br Bb l D = A
 have HA := Lib.hid hA
 clear hA has hbd h hn2 hr2 hb2 hL2 hK2 hbw hk2 hp htm hxa hx2 hga hka hLa hl
 rw [HAS.out]
 dsimp only [at_, Tryz.f14, Option.getD]
 gi_wp2_with gi_round_op_a
 rw [HBD.out]
 dsimp only [at_, Tryz.f14, Option.getD]
 clear hbr hWa hq
 by_cases he : un = num
 ·subst he
  gi_wp2_with gi_round_op_a
  obtain ⟨W3, hW3⟩ : ∃ W3, ((((W2.setCell ⟨Br, 0, none⟩ (.int .i64 un)).setCell ⟨Br, 1, none⟩ (.string (bstr unm))).setCell ⟨Br, 2, none⟩ (.int .i64 ub)).setCell ⟨Br, 3, none⟩ (.int .i64 uc)).setCell ⟨Bb, 0, none⟩ (.bool true) = W3 := ⟨_, rfl⟩
  rw [hW3]
  have hn3 : Blk W3 Bn 3 #[.int .i64 un] := by rw [← hW3]; exact ((((HB.out.1.far hnr _).far hnr _).far hnr _).far hnr _).far hnb _
  have hr3 : Blk W3 Br 42 (usrA ⟨un, unm, ub, uc⟩) := by rw [← hW3]; exact ((((HB.out.2.1.set_ 0 _).set_ 1 _).set_ 2 _).set_ 3 _).far hrb _
  have hb3 : Blk W3 Bb 4 #[.bool true] := by rw [← hW3]; exact ((((HB.out.2.2.far (Ne.symm hrb) _).far (Ne.symm hrb) _).far (Ne.symm hrb) _).far (Ne.symm hrb) _).set_ 0 _
  have hoth : ∀ k, k ≠ Br → k ≠ Bb → W3.heap[k]? = W2.heap[k]? := by
   intro k h1 h2
   rw [← hW3, Below.heap_setCell _ _ _ k h2, Below.heap_setCell _ _ _ k h1, Below.heap_setCell _ _ _ k h1, Below.heap_setCell _ _ _ k h1, Below.heap_setCell _ _ _ k h1]
  have hL3 := (hoth l (Ne.symm hrl) (Ne.symm hbl)).trans HL.out.1
  have hK3 := (hoth D hDr hDb).trans HL.out.2
  have hl3 : l < W3.heap.size := (Array.getElem?_eq_some_iff.1 hL3).1
  have hbw3 : Below w0.heap.size w0 W3 := by
   rw [← hW3]
   exact ((((HW.out.1.setCell h0r _).setCell h0r _).setCell h0r _).setCell h0r _).setCell h0b _
  rw [← HA.out]
  exact ⟨_, _, run_endRound (some .ret) hL3, .inr ⟨rfl, ⟨un, unm, ub, uc⟩, ⟨by simp, rfl⟩, Blk.putO hn3 _ hnl, Blk.putO hr3 _ hrl, Blk.putO hb3 _ hbl, World.putObj_heap_same hl3, (World.putObj_heap_other hDl).trans hK3, hbw3.grown (grownBy_putObj_a _ _ _) hbw3.size (fun k e => by cases e; exact h0l)⟩⟩
 ·have e1 : (un == num) = false := by simp [he]
  gi_wp2_with gi_round_op_a
  have hl2 : l < W2.heap.size := (Array.getElem?_eq_some_iff.1 HL.out.1).1
  rw [← HA.out]
  exact ⟨_, _, run_endRound none HL.out.1, .inl ⟨rfl, ⟨fun y hy => hy.elim (HP.out y) (fun e => by subst e; exact he), Blk.putO HB.out.1 _ hnl, Blk.putO HB.out.2.1 _ hrl, Blk.putO HB.out.2.2 _ hbl, World.putObj_heap_same hl2, (World.putObj_heap_other hDl).trans HL.out.2, HW.out.1.grown (grownBy_putObj_a _ _ _) HW.out.1.size (fun k e => by cases e; exact h0l)⟩, HW.out.2.trans (KeepsWalks.putObj _ HL.out.1 rfl)⟩⟩
def findN (t : TabP) (num : Int) : Option UsrP := t.us.find? fun u => decide (u.n = num)
theorem findN_none {t : TabP} {num : Int} (h : ∀ u ∈ t.us, u.n ≠ num) : findN t num = none := by
 unfold findN
 rw [List.find?_eq_none]
 intro u hu
 simp only [decide_eq_true_eq]
 exact h u hu
theorem findN_some {t : TabP} (hR : Right t) {num : Int} {u : UsrP} (hu : u ∈ t.us) (hn : u.n = num) : findN t num = some u := by
 unfold findN
 cases hq : t.us.find? (fun u => decide (u.n = num)) with
 |none => have := List.find?_eq_none.1 hq u hu; simp [hn] at this
 |some x =>
  have h1 := List.mem_of_find?_eq_some hq
  have h2 := List.find?_some hq
  simp only [decide_eq_true_eq] at h2
  congr 1
  have inj := hR.num
  obtain ⟨i, hi, rfl⟩ := List.getElem_of_mem h1
  obtain ⟨j, hj, rfl⟩ := List.getElem_of_mem hu
  have hr := List.pairwise_iff_getElem.1 inj
  rcases Nat.lt_trichotomy i j with h | h | h
  ·have := hr i j hi hj h; omega
  ·subst h; rfl
  ·have := hr j i hj hi h; omega
theorem partU_mem {D : DataW Unit} {us : List UsrP} (hm : MapOf strL usrD D (us.map fun u => (u.name, u))) {ps : List (Str × UsrP)} (h : PartU D ps) {u : UsrP} (hu : u ∈ ps.map (·.2)) : u ∈ us := by
 obtain ⟨p, hp, rfl⟩ := List.mem_map.1 hu
 have h1 := h.2.1 p.1 (List.mem_map.2 ⟨p, hp, rfl⟩)
 have h2 := hm.has strKind p.1
 rw [show Maps.has D (strL p.1) = true from h1] at h2
 obtain ⟨u, hu⟩ := Option.isSome_iff_exists.1 h2.symm
 obtain ⟨x, hx, he⟩ := List.mem_map.1 ((look_some hm.nd).1 hu)
 simp only [Prod.mk.injEq] at he
 exact (valAt_mem hm (h.2.2 p hp) (List.mem_map.2 ⟨x, hx, he.1⟩)).1
set_option maxRecDepth 100000 in
set_option maxHeartbeats 2000000 in
theorem user_in (w : World) (g b1 b2 n : Nat) (t : TabP) (h : TabAt w g b1 b2 n t) (hR : Right t) (num : Int) : CallsIn Fence.wide 4 Tryz.prog 14 #[.pointer (some ⟨g, 0, none⟩), .int .i64 num] w fun e w' => e = .returned (.tuple #[usrV ((findN t num).getD zeroU), .bool (findN t num).isSome]) ∧ Keeps w w' := by
 obtain ⟨-, -, c2, -⟩ := h.cells
 obtain ⟨D, hown, hmap⟩ := h.us
 have hbl := hown.lt
 have hgl := h.lt.1
 obtain ⟨ac, hac⟩ : ∃ ac, ac = at_ [true, false, true, true, false] (Tryz.f14.body.getD .skip) := ⟨_, rfl⟩
 obtain ⟨bd, hbd⟩ : ∃ bd, bd = at_ [true, false, true, true, true] (Tryz.f14.body.getD .skip) := ⟨_, rfl⟩
 have HAC := Lib.hid hac
 have HBD := Lib.hid hbd
 have hac' := hac
 have hbd' := hbd
 dsimp only [at_, Tryz.f14, Option.getD] at hac' hbd'
 have HAP := Lib.hid hac'
 have HBP := Lib.hid hbd'
 clear hac hbd hac' hbd'
 refine callsIn_of_wp_marks Tryz.func14 rfl trivial ?_ rfl
 simp only [Tryz.ntmps14, List.size_toArray, List.length_cons, List.length_nil, Nat.reduceAdd, Nat.reduceSub, Array.replicate_succ, Array.replicate_zero, List.push_toArray, List.append_toArray, List.nil_append, List.cons_append]
 obtain ⟨wa, hwa⟩ : ∃ wa, ((w.alloc (.cells #[.int .i64 num] 3)).alloc (.cells #[.int .i64 0, .string ⟨#[]⟩, .int .i64 0, .int .i64 0] 42)).alloc (.cells #[.bool false] 4) = wa := ⟨_, rfl⟩
 have hsa : wa.heap.size = w.heap.size + 3 := by rw [← hwa]; simp
 have hka : Keeps w wa := by rw [← hwa]; exact (((Keeps.refl _).alloc _).alloc _).alloc _
 have hna : Blk wa w.heap.size 3 #[.int .i64 num] := by rw [← hwa]; exact ((Blk.new _ _ _ rfl).alloc _).alloc _
 have hra : Blk wa (w.heap.size + 1) 42 (usrA zeroU) := by rw [← hwa]; exact (Blk.new _ _ _ (by simp)).alloc _
 have hba : Blk wa (w.heap.size + 1 + 1) 4 #[.bool false] := by rw [← hwa]; exact Blk.new _ _ _ (by simp)
 have c2a : wa.cell? ⟨g, 2, none⟩ = some (.map (some b1)) := (hka.cell (p := ⟨g, 2, none⟩) hgl).trans c2
 have hfv : Fence.wide.fn 51 := trivial
 gi_wp2_with (gi_at_call 51; refine (values_in _ _ _).mono ?_; rintro e w' ⟨rfl, rfl⟩)
 rw [← HAP.out, ← HBP.out]
 refine wpIn_rangeFunc ?_
 intro fn hfn
 rw [show Fence.wide.round = none from rfl]
 obtain ⟨W0, hW0⟩ : ∃ W0, wa.alloc (.cells #[.map (some b1)] 81) = W0 := ⟨_, rfl⟩
 have hs0 : W0.heap.size = w.heap.size + 4 := by rw [← hW0]; simp [hsa]
 have hm0 : Blk W0 (w.heap.size + 3) 81 #[.map (some b1)] := by rw [← hW0]; exact Blk.new _ _ _ hsa.symm
 have hk0 : Keeps w W0 := by rw [← hW0]; exact hka.alloc _
 have hka0 : Keeps wa W0 := by rw [← hW0]; exact (Keeps.refl _).alloc _
 rw [hW0]
 obtain ⟨tm, htm⟩ : ∃ tm : Array Value, tm = #[.pointer (some ⟨g, 0, none⟩), .int .i64 num, undef, .pointer (some ⟨w.heap.size, 0, none⟩), .pointer (some ⟨w.heap.size + 1, 0, none⟩), .pointer (some ⟨w.heap.size + 1 + 1, 0, none⟩), undef, .pointer (some ⟨g, 0, none⟩), .pointer (some ⟨g, 0, none⟩), .pointer (some ⟨g, 2, none⟩), .map (some b1), .func (.func 108) #[] #[.pointer (some ⟨w.heap.size + 3, 0, none⟩)], undef, undef, undef, undef, undef, undef, undef] := ⟨_, rfl⟩
 obtain ⟨W1, hW1⟩ : ∃ W1, (W0.alloc (.deferred (some []))).alloc (.loop (ukRec ac bd tm fn W0.heap.size .ready none)) = W1 := ⟨_, rfl⟩
 have hold : ∀ k, k < W0.heap.size → W1.heap[k]? = W0.heap[k]? := fun k hk => by
  rw [← hW1]; exact (Below.heap_alloc _ _ k (by simp; omega)).trans (Below.heap_alloc _ _ k hk)
 have hk01 : Keeps W0 W1 := by rw [← hW1]; exact ((Keeps.refl _).alloc _).alloc _
 have hs1 : W1.heap.size = W0.heap.size + 2 := by rw [← hW1]; simp
 have hb1 : Below w.heap.size w W1 := hk0.trans hk01
 have hM : UkAt ac bd tm w fn num w.heap.size (w.heap.size + 1) (w.heap.size + 1 + 1) (W0.heap.size + 1) W0.heap.size zeroU false .ready none W1 :=
  ⟨(hna.keeps hka0).keeps hk01, (hra.keeps hka0).keeps hk01, (hba.keeps hka0).keeps hk01,
   by rw [← hW1]; have := World.alloc_heap_new (W0.alloc (.deferred (some []))) (.loop (ukRec ac bd tm fn W0.heap.size .ready none)); rwa [World.size_alloc] at this,
   by rw [← hW1]; exact (Below.heap_alloc _ _ _ (by simp)).trans (World.alloc_heap_new W0 _), hb1⟩
 have hm1 : W1.cell? ⟨w.heap.size + 3, 0, none⟩ = some (.map (some b1)) := by rw [(hm0.keeps hk01).cell]; rfl
 have hown1 : W1.ownsMap Tryz.prog 9 usrElem b1 n D := map_keepsS hown (hk0.trans hk01)
 have hszD : Maps.size D = t.us.length := by rw [hmap.size, List.length_map]
 have HT := Lib.hid hmap
 have HR := Lib.hid hR
 refine ⟨W0.heap.size + 1, [{ target := .collected W0.heap.size, args := #[] }], W1, { target := .fn (.func 108) #[.pointer (some ⟨w.heap.size + 3, 0, none⟩)], args := #[.func (.yield (W0.heap.size + 1)) #[] #[]] }, W1, 108,
  #[.func (.yield (W0.heap.size + 1)) #[] #[], .pointer (some ⟨w.heap.size + 3, 0, none⟩)], W1, ?_, ?_, ?_, ?_, fun _ => by omega, ?_⟩
 ·rw [← hW1, htm]; exact run_enterLoop_outer _ _ _ _ _
 ·simp [resolve, go_sem]
 ·intro f' hf'; trivial
 ·simp [invoke, go_sem]
 ·refine (vals_stops (4 - 1) (by omega) (w.heap.size + 3) b1 n D W1 (by omega) hm1 hown1 (W0.heap.size + 1)
   (fun pre W => (∀ y ∈ pre, y.n ≠ num) ∧ UkAt ac bd tm w fn num w.heap.size (w.heap.size + 1) (w.heap.size + 1 + 1) (W0.heap.size + 1) W0.heap.size zeroU false .ready none W)
   (fun pre W => ∃ u, (u ∈ pre ∧ u.n = num) ∧ UkAt ac bd tm w fn num w.heap.size (w.heap.size + 1) (w.heap.size + 1 + 1) (W0.heap.size + 1) W0.heap.size u true .done (some .ret) W) W1 (Below.refl _ _)
   (fun s A B row hs hg hr => ⟨hs.1, uk_abides hb1.size hs.2 hg hr⟩) (fun s A B row ⟨u, hs1, hs2⟩ hg hr => ⟨u, hs1, uk_abides hb1.size hs2 hg hr⟩)
   (fun pre x W hj _ => ukYield ac bd HAC.out HBD.out (4 - 1 - 1) w fn num w.heap.size (w.heap.size + 1) (w.heap.size + 1 + 1) (W0.heap.size + 1) W0.heap.size _ _ _ _ _ _ _ _ tm htm (by omega) (by omega) (by omega) (by omega) (by omega) (by omega) (by omega) (by omega) (by omega) (by omega) (by omega) (by omega) pre x W hj.1 hj.2)
   ⟨by simp, hM⟩).mono ?_
  rintro e W2 ⟨⟨v, rfl⟩, (⟨xs, ⟨ps, hA, rfl⟩, hne, h2⟩ | ⟨pre, ⟨ps, hA, rfl⟩, u, ⟨hin, hun⟩, h2⟩)⟩
  ·have hF : findN t num = none := findN_none (fun u hu => hne u ((allU_perm HT.out hA).mem_iff.2 hu))
   have HF := Lib.hid hF
   have hend := run_endLoop (P := Tryz.prog) h2.L (by simp [ukRec])
   obtain ⟨W3, hW3⟩ : ∃ W3, W2.putObj (W0.heap.size + 1) (.loop { ukRec ac bd tm fn W0.heap.size .ready none with state := .exhausted }) = W3 := ⟨_, rfl⟩
   rw [hW3] at hend
   have hr3 : Blk W3 (w.heap.size + 1) 42 (usrA zeroU) := by rw [← hW3]; exact Blk.putO h2.cr _ (by omega)
   have hb3 : Blk W3 (w.heap.size + 1 + 1) 4 #[.bool false] := by rw [← hW3]; exact Blk.putO h2.cb _ (by omega)
   have hK3 : W3.heap[W0.heap.size]? = some (.deferred (some [])) := by rw [← hW3]; exact (World.putObj_heap_other (by omega)).trans h2.K
   have hbw3 : Below w.heap.size w W3 := by rw [← hW3]; exact h2.below.grown (grownBy_putObj_a _ _ _) h2.below.size (fun k e => by cases e; omega)
   clear hW3 hA hne hF
   refine ⟨none, W3, hend, ?_⟩
   have r0 : W3.cell? ⟨w.heap.size + 1, 0, none⟩ = some (.int .i64 0) := by rw [hr3.cell]; rfl
   have r1 : W3.cell? ⟨w.heap.size + 1, 1, none⟩ = some (.string (bstr [])) := by rw [hr3.cell]; rfl
   have r2 : W3.cell? ⟨w.heap.size + 1, 2, none⟩ = some (.int .i64 0) := by rw [hr3.cell]; rfl
   have r3 : W3.cell? ⟨w.heap.size + 1, 3, none⟩ = some (.int .i64 0) := by rw [hr3.cell]; rfl
   have f0 : W3.frozen? ⟨w.heap.size + 1, 0, none⟩ = false := hr3.frozen 0
   have f1 : W3.frozen? ⟨w.heap.size + 1, 1, none⟩ = false := hr3.frozen 1
   have f2 : W3.frozen? ⟨w.heap.size + 1, 2, none⟩ = false := hr3.frozen 2
   have f3 : W3.frozen? ⟨w.heap.size + 1, 3, none⟩ = false := hr3.frozen 3
   have b0 : W3.cell? ⟨w.heap.size + 1 + 1, 0, none⟩ = some (.bool false) := by rw [hb3.cell]; rfl
   have g0 : W3.frozen? ⟨w.heap.size + 1 + 1, 0, none⟩ = false := hb3.frozen 0
   gi_wp2
   obtain ⟨W4, hW4⟩ : ∃ W4, ((((W3.setCell ⟨w.heap.size + 1, 0, none⟩ (.int .i64 0)).setCell ⟨w.heap.size + 1, 1, none⟩ (.string ⟨#[]⟩)).setCell ⟨w.heap.size + 1, 2, none⟩ (.int .i64 0)).setCell ⟨w.heap.size + 1, 3, none⟩ (.int .i64 0)).setCell ⟨w.heap.size + 1 + 1, 0, none⟩ (.bool false) = W4 := ⟨_, rfl⟩
   rw [hW4]
   have hr4 : Blk W4 (w.heap.size + 1) 42 (usrA zeroU) := by rw [← hW4]; exact ((((hr3.set_ 0 _).set_ 1 _).set_ 2 _).set_ 3 _).far (by simp) _
   have hb4 : Blk W4 (w.heap.size + 1 + 1) 4 #[.bool false] := by rw [← hW4]; exact ((((hb3.far (by simp) _).far (by simp) _).far (by simp) _).far (by simp) _).set_ 0 _
   have hK4 : W4.heap[W0.heap.size]? = some (.deferred (some [])) := by
    rw [← hW4, Below.heap_setCell _ _ _ _ (by simp; omega), Below.heap_setCell _ _ _ _ (by simp; omega), Below.heap_setCell _ _ _ _ (by simp; omega), Below.heap_setCell _ _ _ _ (by simp; omega), Below.heap_setCell _ _ _ _ (by simp; omega)]
    exact hK3
   have hbw4 : Below w.heap.size w W4 := by
    rw [← hW4]
    exact ((((hbw3.setCell (by simp) _).setCell (by simp) _).setCell (by simp) _).setCell (by simp) _).setCell (by simp; omega) _
   clear hW4 r0 r1 r2 r3 f0 f1 f2 f3 b0 g0
   rw [← hs0]
   refine ⟨by simp, .inl ⟨_, _, rfl, run_takeDeferred hK4, ?_⟩⟩
   have hr5 := Blk.putO hr4 (.deferred none) (show w.heap.size + 1 ≠ W0.heap.size by omega)
   have hb5 := Blk.putO hb4 (.deferred none) (show w.heap.size + 1 + 1 ≠ W0.heap.size by omega)
   have hbw5 : Below w.heap.size w (W4.putObj W0.heap.size (.deferred none)) := hbw4.grown (grownBy_putObj_a _ _ _) hbw4.size (fun k e => by cases e; omega)
   have q0 : (W4.putObj W0.heap.size (.deferred none)).cell? ⟨w.heap.size + 1, 0, none⟩ = some (.int .i64 zeroU.n) := by rw [hr5.cell]; rfl
   have q1 : (W4.putObj W0.heap.size (.deferred none)).cell? ⟨w.heap.size + 1, 1, none⟩ = some (.string (bstr zeroU.name)) := by rw [hr5.cell]; rfl
   have q2 : (W4.putObj W0.heap.size (.deferred none)).cell? ⟨w.heap.size + 1, 2, none⟩ = some (.int .i64 zeroU.lb) := by rw [hr5.cell]; rfl
   have q3 : (W4.putObj W0.heap.size (.deferred none)).cell? ⟨w.heap.size + 1, 3, none⟩ = some (.int .i64 zeroU.lc) := by rw [hr5.cell]; rfl
   have c0 : (W4.putObj W0.heap.size (.deferred none)).cell? ⟨w.heap.size + 1 + 1, 0, none⟩ = some (.bool false) := by rw [hb5.cell]; rfl
   refine ⟨.tuple #[usrV zeroU, .bool false], ?_, by rw [HF.out]; rfl, hbw5⟩
   simp [results, Tryz.f14, go_sem, q0, q1, q2, q3, c0, usrV, usrA]
  ·have hu : u ∈ t.us := partU_mem HT.out hA hin
   have hF : findN t num = some u := findN_some HR.out hu hun
   have HF := Lib.hid hF
   have hend := run_endLoop (P := Tryz.prog) h2.L (by simp [ukRec])
   obtain ⟨W3, hW3⟩ : ∃ W3, W2.putObj (W0.heap.size + 1) (.loop { ukRec ac bd tm fn W0.heap.size .done (some .ret) with state := .exhausted }) = W3 := ⟨_, rfl⟩
   rw [hW3] at hend
   have hr3 : Blk W3 (w.heap.size + 1) 42 (usrA u) := by rw [← hW3]; exact Blk.putO h2.cr _ (by omega)
   have hb3 : Blk W3 (w.heap.size + 1 + 1) 4 #[.bool true] := by rw [← hW3]; exact Blk.putO h2.cb _ (by omega)
   have hK3 : W3.heap[W0.heap.size]? = some (.deferred (some [])) := by rw [← hW3]; exact (World.putObj_heap_other (by omega)).trans h2.K
   have hbw3 : Below w.heap.size w W3 := by rw [← hW3]; exact h2.below.grown (grownBy_putObj_a _ _ _) h2.below.size (fun k e => by cases e; omega)
   clear hW3 hA hin hF hu
   refine ⟨some .ret, W3, hend, ?_⟩
   gi_wp2
   rw [← hs0]
   refine ⟨by simp, .inl ⟨_, _, rfl, run_takeDeferred hK3, ?_⟩⟩
   have hr5 := Blk.putO hr3 (.deferred none) (show w.heap.size + 1 ≠ W0.heap.size by omega)
   have hb5 := Blk.putO hb3 (.deferred none) (show w.heap.size + 1 + 1 ≠ W0.heap.size by omega)
   have hbw5 : Below w.heap.size w (W3.putObj W0.heap.size (.deferred none)) := hbw3.grown (grownBy_putObj_a _ _ _) hbw3.size (fun k e => by cases e; omega)
   have q0 : (W3.putObj W0.heap.size (.deferred none)).cell? ⟨w.heap.size + 1, 0, none⟩ = some (.int .i64 u.n) := by rw [hr5.cell]; rfl
   have q1 : (W3.putObj W0.heap.size (.deferred none)).cell? ⟨w.heap.size + 1, 1, none⟩ = some (.string (bstr u.name)) := by rw [hr5.cell]; rfl
   have q2 : (W3.putObj W0.heap.size (.deferred none)).cell? ⟨w.heap.size + 1, 2, none⟩ = some (.int .i64 u.lb) := by rw [hr5.cell]; rfl
   have q3 : (W3.putObj W0.heap.size (.deferred none)).cell? ⟨w.heap.size + 1, 3, none⟩ = some (.int .i64 u.lc) := by rw [hr5.cell]; rfl
   have c0 : (W3.putObj W0.heap.size (.deferred none)).cell? ⟨w.heap.size + 1 + 1, 0, none⟩ = some (.bool true) := by rw [hb5.cell]; rfl
   refine ⟨.tuple #[usrV u, .bool true], ?_, by rw [HF.out]; rfl, hbw5⟩
   simp [results, Tryz.f14, go_sem, q0, q1, q2, q3, c0, usrV, usrA]
/-- User -/
theorem user_any (w : World) (g b1 b2 n : Nat) (t : TabP) (h : TabAt w g b1 b2 n t) (hR : Right t) (num : Int) : Calls Tryz.prog 14 #[.pointer (some ⟨g, 0, none⟩), .int .i64 num] w fun e w' => e = .returned (.tuple #[usrV ((findN t num).getD zeroU), .bool (findN t num).isSome]) ∧ Keeps w w' :=
 callsIn_wide.1 (user_in w g b1 b2 n t h hR num)
end Usr
end Go.Proofs.YtklbemkafdccgaaGreat

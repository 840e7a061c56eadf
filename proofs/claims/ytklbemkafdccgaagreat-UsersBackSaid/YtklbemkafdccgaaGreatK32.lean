/- Several texts in one: UsVals, UsColl. -/
import Derived.Test.YtklbemkafdccgaaGreatK17
import Derived.RangeFuncStops
import Derived.RangeFuncLeaves
/- users: maps.Values of the users, and its iterator, for every loop body. -/
namespace Go.Proofs.YtklbemkafdccgaaGreat
open Go.RowKit Go.Maps Go.Sort Go.Shelf
namespace Usr
open Adr (Str)
open Mp
/-- the pairs that have come: each one's second is the map's value at its first -/
def ValAtU (D0 : DataW Unit) (p : Str × UsrP) : Prop := ∀ zd, D0.atKey (.string p.1) zd = usrD p.2
def AllU (D0 : DataW Unit) (ps : List (Str × UsrP)) : Prop := (ps.map (·.1)).Perm (strKeys D0) ∧ ∀ p ∈ ps, ValAtU D0 p
def PartU (D0 : DataW Unit) (ps : List (Str × UsrP)) : Prop := (ps.map (·.1)).Nodup ∧ (∀ x ∈ ps.map (·.1), Maps.has D0 (.string x) = true) ∧ ∀ p ∈ ps, ValAtU D0 p
theorem usrElem_some {v : Value} {y : DataW Unit × List MemPlace} (h : usrElem v = some y) : ∃ u, v = usrV u ∧ y.1 = usrD u := by
 unfold usrElem at h
 split at h
 ·rename_i cs
  cases hl : usrOfL cs.toList with
  |none => rw [hl] at h; cases h
  |some e' =>
   rw [hl] at h
   simp only [Option.map_some, Option.some.injEq] at h
   subst h
   have h2 := usrOfL_inv hl
   refine ⟨e', ?_, rfl⟩
   unfold usrV usrA
   congr 1
   apply Array.toList_inj.1
   rw [h2]
 ·cases h
theorem usrV_inj {a b : UsrP} (h : usrV a = usrV b) : a = b := by
 cases a; cases b
 simp [usrV, usrA] at h
 obtain ⟨h1, h2, h3, h4⟩ := h
 have h2' := congrArg ByteArray.toList h2
 rw [bstr_toList, bstr_toList] at h2'
 rw [h1, h2', h3, h4]
theorem name_injU {l : List UsrP} (hn : (l.map (·.name)).Nodup) {x a : UsrP} (h1 : x ∈ l) (h : a ∈ l) (e : x.name = a.name) : x = a := by
 induction l with
 |nil => cases h
 |cons b l ih =>
  rw [List.map_cons, List.nodup_cons] at hn
  rcases List.mem_cons.1 h1 with e1 | k1
  ·rcases List.mem_cons.1 h with e2 | k2
   ·rw [e1, e2]
   ·subst e1; exact absurd (List.mem_map.2 ⟨a, k2, e.symm⟩) hn.1
  ·rcases List.mem_cons.1 h with e2 | k2
   ·subst e2; exact absurd (List.mem_map.2 ⟨x, k1, e⟩) hn.1
   ·exact ih hn.2 k1 k2
set_option maxRecDepth 100000 in
set_option maxHeartbeats 1000000 in
theorem values1S_in (n : Nat) (hn : 1 ≤ n) (l Bm b nn : Nat) (D0 : DataW Unit) (J Jx : List UsrP → World → Prop)
  (hY : ∀ pre x W, J pre W → pre.length < Maps.size D0 → YieldAt Fence.wide (n - 1) Tryz.prog l #[usrV x] W fun e W' =>
   (e = .returned (.bool true) ∧ J (pre ++ [x]) W' ∧ KeepsWalks W W') ∨ (e = .returned (.bool false) ∧ Jx (pre ++ [x]) W'))
  (W : World) (hJ : AbidesFrom W.heap.size J) (hm : W.cell? ⟨Bm, 0, none⟩ = some (.map (some b))) (hown : W.ownsMap Tryz.prog 9 usrElem b nn D0) (h0 : J [] W) :
  CallsIn Fence.wide n Tryz.prog 108 #[.func (.yield l) #[] #[], .pointer (some ⟨Bm, 0, none⟩)] W fun e W' => (∃ v, e = .returned v) ∧
   ((∃ ps, AllU D0 ps ∧ J (ps.map (·.2)) W') ∨ (∃ ps, PartU D0 ps ∧ Jx (ps.map (·.2)) W')) := by
 refine callsIn_of_wp Tryz.func108 rfl trivial ?_ rfl
 simp only [Tryz.ntmps108, List.size_toArray, List.length_cons, List.length_nil, Nat.reduceAdd, Nat.reduceSub, Array.replicate_succ, Array.replicate_zero, List.push_toArray, List.append_toArray, List.nil_append, List.cons_append]
 gi_wp2_with (first
  |(gi_at_range; refine wpListIn_range_own _ rfl _ 81 rfl 9 42 strKeyed Tryz.underlying81 _ b nn _ rfl hown ?_; intro w0 hrg0 hg0 hs0)
  |gi_in)
 go_frame
 gi_loopw [4, 12, 13, 14] (fun _ _ _ _ wr => ∃ (left : Lit → Bool) (cnt : Nat) (ps : List (Str × UsrP)), wr.ranges Tryz.prog 9 usrElem b W.heap.size nn D0 left cnt ∧ ps.length + cnt ≤ Maps.size D0 ∧ Collected D0 left (ps.map (·.1)) ∧ (∀ p ∈ ps, ValAtU D0 p) ∧ J (ps.map (·.2)) wr)
  (fun _ _ _ _ wr => wr.rangeLeft b W.heap.size)
 case atStart =>
  exact ⟨_, _, [], hrg0, by simp, Collected.start D0, by simp, hJ [] W w0 none h0 hg0 (fun r e => by cases e)⟩
 case round =>
  obtain ⟨left, cnt, ps, hrg, hcs, hC, hV, hJs⟩ := hrel
  gi_wp2_with (first
   |(gi_at_next; refine wpListIn_next_ranges _ rfl _ rfl 9 strKeyed usrElem encStr usrV (fun key kl hk => by obtain ⟨x, hx, _⟩ := Maps.keyOf_str Tryz.underlying9 hk; exact ⟨x, hx⟩) (fun v y hv => by obtain ⟨c, rfl, _⟩ := usrElem_some hv; exact ⟨c, rfl⟩) b W.heap.size nn _ _ _ rfl hrg ?_ ?_)
   |gi_in)
  ·intro hc0 hl0
   gi_wp2
   go_end0
   exact ⟨⟨_, rfl⟩, .inl ⟨ps, ⟨hC.perm hown strKeyed Tryz.underlying9 hl0, hV⟩, hJs⟩⟩
  ·intro x c kl yd yp w2 cnt2 hkey hlk hv hat hrg2 hlt hg2 hs2 hen
   obtain ⟨x', ex, rfl, _⟩ := Maps.keyOf_str Tryz.underlying9 hkey
   obtain rfl : x = x' := encStr_inj ex
   obtain ⟨c', ec, ez⟩ := usrElem_some hv
   obtain rfl : c = c' := usrV_inj ec
   have HV := Lib.hid hV
   have HAT := Lib.hid (show ValAtU D0 (x, c) from fun zd => (hat zd).trans ez)
   have HC2 := Lib.hid (hC.step hlk hat)
   have HY := Lib.hid hY
   have HJJ := Lib.hid (fun w4 (hg : w2.grownBy w4 none) => hJ _ w2 w4 none (hJ _ wr w2 (some W.heap.size) hJs hg2 (fun r e => by cases e; exact ⟨Nat.le_refl _, hrg.iter_walk⟩)) hg (fun r e => by cases e))
   obtain ⟨un, unm, ub, uc⟩ := c
   unfold usrV usrA at hen ⊢
   simp only at hen ⊢
   clear hs2 hV hat ez hv ec hC hY hJ hJs hg2
   have hY := HY.out (ps.map (·.2)) ⟨un, unm, ub, uc⟩ (w2.alloc (.cells #[.int .i64 un, .string (bstr unm), .int .i64 ub, .int .i64 uc] 42)) (HJJ.out (w2.alloc (.cells #[.int .i64 un, .string (bstr unm), .int .i64 ub, .int .i64 uc] 42)) ⟨rfl, rfl, rfl, by simp, fun k hk _ => Below.heap_alloc _ _ k hk⟩) (by simp; omega)
   obtain ⟨fn, tmps, assign, body, hy, hR⟩ := hY
   unfold usrV usrA at hy
   simp only at hy
   gi_wp2
   refine hR.mono ?_
   rintro e W3 (⟨rfl, hJ3, hk3⟩ | ⟨rfl, hJx3⟩)
   ·gi_wp2
    have hrg3 := hrg2.of_walks ((KeepsWalks.alloc _ _).trans hk3)
    go_roundw
    case rel => exact ⟨_, cnt2, ps ++ [(x, ⟨un, unm, ub, uc⟩)], hrg3, by simp; omega, by simpa using HC2.out, fun p hp => (List.mem_append.1 hp).elim (HV.out p) (fun e => by simp at e; subst e; exact HAT.out), by simpa using hJ3⟩
    case measure => rw [hrg3.left_eq, hrg.left_eq]; exact hlt
   ·gi_wp2
    refine bodyPost_ret (results_none rfl _ _ _) rfl ?_
    exact ⟨⟨_, rfl⟩, .inr ⟨ps ++ [(x, ⟨un, unm, ub, uc⟩)], ⟨by simpa using HC2.out.1, fun y hy => ((HC2.out.2 y).1 (by simpa using hy)).1, fun p hp => (List.mem_append.1 hp).elim (HV.out p) (fun e => by simp at e; subst e; exact HAT.out)⟩, by simpa using hJx3⟩⟩
theorem vals_stops (n : Nat) (hn : 1 ≤ n) (Bm b nn : Nat) (D0 : DataW Unit) (w : World) (hBm : Bm < w.heap.size) (hm : w.cell? ⟨Bm, 0, none⟩ = some (.map (some b))) (hown : w.ownsMap Tryz.prog 9 usrElem b nn D0) :
  SeqStops Fence.wide n Tryz.prog 108 #[.pointer (some ⟨Bm, 0, none⟩)] usrV (fun xs => ∃ ps, AllU D0 ps ∧ xs = ps.map (·.2)) (fun pre => ∃ ps, PartU D0 ps ∧ pre = ps.map (·.2)) (Maps.size D0) w := fun l J Jx W hW hJ _ hY h0 => by
 have hown' : W.ownsMap Tryz.prog 9 usrElem b nn D0 := by
  have hbl := hown.lt
  obtain ⟨es, clock, hb, Ft, hs, hD⟩ := hown
  exact ⟨es, clock, (hW.block b hbl).trans hb, Ft, hs, hD⟩
 refine (values1S_in n hn l Bm b nn D0 J Jx hY W hJ ((hW.cell (p := ⟨Bm, 0, none⟩) hBm).trans hm) hown' h0).mono ?_
 rintro e W' ⟨hv, ⟨ps, h1, h2⟩ | ⟨ps, h1, h2⟩⟩
 ·exact ⟨hv, .inl ⟨_, ⟨ps, h1, rfl⟩, h2⟩⟩
 ·exact ⟨hv, .inr ⟨_, ⟨ps, h1, rfl⟩, h2⟩⟩
theorem values_in (n : Nat) (mb : Option Nat) (w : World) : CallsIn Fence.wide n Tryz.prog 51 #[.map mb] w fun e w' => e = .returned (.func (.func 108) #[] #[.pointer (some ⟨w.heap.size, 0, none⟩)]) ∧ w' = w.alloc (.cells #[.map mb] 81) := by
 refine callsIn_of_wp Tryz.func51 rfl trivial ?_ rfl
 simp only [Tryz.ntmps51, List.size_toArray, List.length_cons, List.length_nil, Nat.reduceAdd, Nat.reduceSub, Array.replicate_succ, Array.replicate_zero, List.push_toArray, List.append_toArray, List.nil_append, List.cons_append]
 gi_wp2
 go_ret
 exact ⟨rfl, rfl⟩
/-! ### what has come, as the table's users -/
theorem valAt_mem {D : DataW Unit} {us : List UsrP} (hm : MapOf strL usrD D (us.map fun u => (u.name, u))) {p : Str × UsrP} (h : ValAtU D p) (hk : p.1 ∈ us.map (·.name)) : p.2 ∈ us ∧ p.1 = p.2.name := by
 have h1 := hm.at_ strKind p.1 zeroU
 rw [h (usrD zeroU)] at h1
 have h2 := usrD_inj h1
 obtain ⟨u, hu, hn⟩ := List.mem_map.1 hk
 have hmem : (p.1, u) ∈ us.map fun u => (u.name, u) := List.mem_map.2 ⟨u, hu, by rw [hn]⟩
 rw [(look_some hm.nd).2 hmem] at h2
 simp only [Option.getD_some] at h2
 rw [h2]
 exact ⟨hu, hn.symm⟩
theorem keys_us {D : DataW Unit} {us : List UsrP} (hm : MapOf strL usrD D (us.map fun u => (u.name, u))) : (strKeys D).Perm (us.map (·.name)) := by
 have := hm.keys
 rwa [List.map_map] at this
/-- all have come: the table's users, in some order -/
theorem allU_perm {D : DataW Unit} {us : List UsrP} (hm : MapOf strL usrD D (us.map fun u => (u.name, u))) {ps : List (Str × UsrP)} (h : AllU D ps) : (ps.map (·.2)).Perm us := by
 have hk : (ps.map (·.1)).Perm (us.map (·.name)) := h.1.trans (keys_us hm)
 have hnu : (us.map (·.name)).Nodup := by have := hm.nd; rwa [List.map_map] at this
 have hin : ∀ p ∈ ps, p.2 ∈ us ∧ p.1 = p.2.name := fun p hp => valAt_mem hm (h.2 p hp) (hk.mem_iff.1 (List.mem_map.2 ⟨p, hp, rfl⟩))
 have hn2 : ((ps.map (·.2)).map (·.name)).Nodup := by
  have e : (ps.map (·.2)).map (·.name) = ps.map (·.1) := by
   rw [List.map_map]
   exact List.map_congr_left fun p hp => (hin p hp).2.symm
  rw [e]
  exact hk.nodup_iff.2 hnu
 have hnd : ∀ {l : List UsrP}, (l.map (·.name)).Nodup → l.Nodup := fun {l} h => by
  induction l with
  |nil => simp
  |cons a l ih =>
   rw [List.map_cons, List.nodup_cons] at h
   exact List.nodup_cons.2 ⟨fun hx => h.1 (List.mem_map.2 ⟨a, hx, rfl⟩), ih h.2⟩
 refine (List.perm_ext_iff_of_nodup (hnd hn2) (hnd hnu)).2 fun u => ?_
 constructor
 ·intro hu
  obtain ⟨p, hp, rfl⟩ := List.mem_map.1 hu
  exact (hin p hp).1
 ·intro hu
  have hx := hk.mem_iff.2 (List.mem_map.2 ⟨u, hu, rfl⟩)
  obtain ⟨p, hp, he⟩ := List.mem_map.1 hx
  have h1 := hin p hp
  have : p.2 = u := name_injU hnu h1.1 hu (h1.2.symm.trans he)
  exact List.mem_map.2 ⟨p, hp, this⟩
end Usr
end Go.Proofs.YtklbemkafdccgaaGreat

/- users: slices.AppendSeq, slices.Collect of users, against whatever iterator. -/
namespace Go.Proofs.YtklbemkafdccgaaGreat
open Go.RowKit Go.Maps Go.Sort Go.Shelf
namespace Usr
open Adr (Str)
open Mp
/-- a part of a function's code, by its path; a range over a function: how its values are laid, its body -/
def at_ : List Bool → Code → Code
 | [], c => c
 |false :: p, .seq a _ => at_ p a
 |true :: p, .seq _ b => at_ p b
 |false :: p, .cond _ a _ => at_ p a
 |true :: p, .cond _ _ b => at_ p b
 |false :: p, .rangeFunc _ _ a _ => at_ p a
 |true :: p, .rangeFunc _ _ _ b => at_ p b
 | _ :: p, .block _ c => at_ p c
 | _ :: p, .loop c => at_ p c
 | _ :: _, c => c
def usC (u : UsrP) : List Value := [.int .i64 u.n, .string (bstr u.name), .int .i64 u.lb, .int .i64 u.lc]
theorem usC_len (u : UsrP) : (usC u).length = 4 := rfl
/-- The loop's record: the temporaries as they stood at the entering: the slice boxed in block Bs; sv: the iterator's value. -/
def apRec (ac bd : Code) (fn : FuncId) (sv : Value) (Bs D : Nat) (st : LoopState) (pend : Option Code) : Loop :=
 {state := st, pending := pend, fn, tmps := #[.slice none 0 0, sv, .pointer (some ⟨Bs, 0, none⟩), undef, .slice none 0 0, undef, sv, undef, undef, undef, undef, undef, undef], params := #[7], assign := ac, body := bd, defers := D }
structure ApAt (ac bd : Code) (w0 : World) (fn : FuncId) (sv : Value) (Bs l D : Nat) (ss : List UsrP) (W : World) : Prop where
 box : ∃ v, W.heap[Bs]? = some (.cells #[v] 29 (0, 0)) ∧ W.ownsRow w0.heap.size 42 4 v ss.length (ss.flatMap usC)
 L : W.heap[l]? = some (.loop (apRec ac bd fn sv Bs D .ready none))
 K : W.heap[D]? = some (.deferred (some []))
 below : Below w0.heap.size w0 W
theorem ap_abides (ac bd : Code) (w0 : World) (fn : FuncId) (sv : Value) (Bs l D B : Nat) (hB : w0.heap.size ≤ B) : AbidesFrom B (ApAt ac bd w0 fn sv Bs l D) := fun s W W' row h hg hrow => by
 have hrow' : ∀ r, row = some r → ∃ o : Obj, W.heap[r]? = some o ∧ o.isWalk = true := fun r e => (hrow r e).2
 obtain ⟨v, hv, hr⟩ := h.box
 exact ⟨⟨v, (grownBy_keeps hg hrow' hv rfl).trans hv, ownsRow_abides_a hr hg hrow'⟩, (grownBy_keeps hg hrow' h.L rfl).trans h.L, (grownBy_keeps hg hrow' h.K rfl).trans h.K,
  h.below.grown hg h.below.size (fun k e => Nat.le_trans hB (hrow k e).1)⟩
theorem uok : ElemOkS Tryz.prog 29 42 4 40 := elemOkS (z := .agg #[.int .i64 0, .string (bstr []), .int .i64 0, .int .i64 0]) Tryz.underlying29 (by kernel_rfl) rfl
set_option maxRecDepth 100000 in
set_option maxHeartbeats 2000000 in
theorem apYield (ac bd : Code) (has : ac = at_ [true, false, true, true, false] (Tryz.f196.body.getD .skip)) (hbd : bd = at_ [true, false, true, true, true] (Tryz.f196.body.getD .skip)) (m : Nat) (w0 : World) (fn : FuncId) (sv : Value) (Bs l D : Nat) (hBl : Bs ≠ l) (hDl : D ≠ l) (hDB : D ≠ Bs) (h0B : w0.heap.size ≤ Bs) (h0l : w0.heap.size ≤ l)
  (N : Nat) (hN : N ≤ 1000000) (ss : List UsrP) (x : UsrP) (W : World) (h : ApAt ac bd w0 fn sv Bs l D ss W) (hlen : ss.length < N) :
  YieldAt Fence.wide m Tryz.prog l #[usrV x] W fun e W' => e = .returned (.bool true) ∧ ApAt ac bd w0 fn sv Bs l D (ss ++ [x]) W' ∧ KeepsWalks W W' := by
 have hne : (29 : TypeId) ≠ 42 := by decide
 obtain ⟨i0, z0, hi, hz0, hz1, hz2, hz3⟩ := uok.hi
 obtain ⟨v, hv, hrow⟩ := h.box
 refine ⟨fn, #[.slice none 0 0, sv, .pointer (some ⟨Bs, 0, none⟩), undef, .slice none 0 0, undef, sv, usrV x, undef, undef, undef, undef, undef], ac, bd, by simpa [apRec] using run_yield (P := Tryz.prog) (args := #[usrV x]) h.L rfl, roundIn_of_wpIn trivial ?_⟩
 obtain ⟨un, unm, ub, uc⟩ := x
 unfold usrV usrA
 simp only
 obtain ⟨Wa, hWa⟩ : ∃ Wa, W.alloc (.cells #[.int .i64 un, .string (bstr unm), .int .i64 ub, .int .i64 uc] 42) = Wa := ⟨_, rfl⟩
 obtain ⟨q, hq⟩ : ∃ q, W.heap.size = q := ⟨_, rfl⟩
 have hga : W.grownBy Wa none := by rw [← hWa]; exact ⟨rfl, rfl, rfl, by simp, fun k hk _ => Below.heap_alloc _ _ k hk⟩
 have hka : KeepsWalks W Wa := by rw [← hWa]; exact KeepsWalks.alloc _ _
 have hxa : Wa.heap[q]? = some (.cells #[.int .i64 un, .string (bstr unm), .int .i64 ub, .int .i64 uc] 42 (0, 0)) := by rw [← hWa, ← hq]; exact World.alloc_heap_new W _
 have hlW : l < W.heap.size := (Array.getElem?_eq_some_iff.1 h.L).1
 have hLa : Wa.heap[l]? = some (.loop (apRec ac bd fn sv Bs D .ready none)) := (hga.block l hlW (by simp)).trans h.L
 have hva : Wa.heap[Bs]? = some (.cells #[v] 29 (0, 0)) := (hga.block Bs (Array.getElem?_eq_some_iff.1 hv).1 (by simp)).trans hv
 have hKa : Wa.heap[D]? = some (.deferred (some [])) := (hga.block D (Array.getElem?_eq_some_iff.1 h.K).1 (by simp)).trans h.K
 have hrowa : Wa.ownsRow w0.heap.size 42 4 v ss.length (ss.flatMap usC) := by rw [← hWa]; exact hrow.alloc _
 have hba : Below w0.heap.size w0 Wa := by rw [← hWa]; exact h.below.alloc h.below.size _
 have hqv : some q ≠ v.ownBlock := by
  intro e
  have := (hrow.lt q e.symm).2
  omega
 have hlq : l ≠ q := by omega
 have hBq : Bs ≠ q := by have := (Array.getElem?_eq_some_iff.1 hv).1; omega
 have hl : l < Wa.heap.size := (Array.getElem?_eq_some_iff.1 hLa).1
 have hbr := run_beginRound (P := Tryz.prog) hLa rfl
 obtain ⟨W2, hW2⟩ : ∃ W2, Wa.putObj l (.loop { apRec ac bd fn sv Bs D .ready none with state := .busy }) = W2 := ⟨_, rfl⟩
 rw [hW2] at hbr
 have hg2 : Wa.grownBy W2 (some l) := by rw [← hW2]; exact grownBy_putObj_a _ _ _
 have hk2 : KeepsWalks W W2 := by rw [← hW2]; exact hka.trans (KeepsWalks.putObj _ hLa rfl)
 have hv2 : W2.heap[Bs]? = some (.cells #[v] 29 (0, 0)) := by rw [← hW2]; exact (World.putObj_heap_other hBl).trans hva
 have hx2 : W2.heap[q]? = some (.cells #[.int .i64 un, .string (bstr unm), .int .i64 ub, .int .i64 uc] 42 (0, 0)) := by rw [← hW2]; exact (World.putObj_heap_other (Ne.symm hlq)).trans hxa
 have hK2 : W2.heap[D]? = some (.deferred (some [])) := by rw [← hW2]; exact (World.putObj_heap_other hDl).trans hKa
 have hL2 : W2.heap[l]? = some (.loop { apRec ac bd fn sv Bs D .ready none with state := .busy }) := by rw [← hW2]; exact World.putObj_heap_same hl
 have hrow2 : W2.ownsRow w0.heap.size 42 4 v ss.length (ss.flatMap usC) := hrowa.kept hg2 (ownsRow_ne_a hrowa hLa (fun cur e => by first | cases e | exact hne (Obj.cells.inj e).2.1))
 have hb2 : Below w0.heap.size w0 W2 := hba.grown hg2 hba.size (fun k e => by cases e; exact h0l)
 obtain ⟨hc2, hf2⟩ := cell_of_box_a hv2
 have hBlt : Bs < W2.heap.size := (Array.getElem?_eq_some_iff.1 hv2).1
 have hl2 : l < W2.heap.size := (Array.getElem?_eq_some_iff.1 hL2).1
 have hDlt : D < W2.heap.size := (Array.getElem?_eq_some_iff.1 hK2).1
 have hqlt : q < W2.heap.size := (Array.getElem?_eq_some_iff.1 hx2).1
 have x0 : W2.cell? ⟨q, 0, none⟩ = some (.int .i64 un) := by simp [World.cell?, hx2]
 have x1 : W2.cell? ⟨q, 1, none⟩ = some (.string (bstr unm)) := by simp [World.cell?, hx2]
 have x2 : W2.cell? ⟨q, 2, none⟩ = some (.int .i64 ub) := by simp [World.cell?, hx2]
 have x3 : W2.cell? ⟨q, 3, none⟩ = some (.int .i64 uc) := by simp [World.cell?, hx2]
 have ne_of : ∀ {j : Nat} {o : Obj}, W2.heap[j]? = some o → (∀ cur, o ≠ .cells cur 42 (0, 0)) → some j ≠ v.ownBlock := fun hj hno => by
  rcases ownsRow_ne_a hrow2 hj hno with e | e
  ·rw [e]; simp
  ·exact fun e' => e e'.symm
 clear hW2 h hrow
 have HAS := Lib.hid has
 have HBD := Lib.hid hbd
 generalize hA : ApAt ac bd w0 fn sv Bs l D = A
 have HA := Lib.hid hA
 clear hA has hbd
 rw [HAS.out]
 dsimp only [at_, Tryz.f196, Option.getD]
 gi_wp2_with gi_round_op_a
 rw [HBD.out]
 dsimp only [at_, Tryz.f196, Option.getD]
 clear hbr hWa hq
 have HHC := Lib.hid (show ∀ j u, ([.int .i64 un, .string (bstr unm), .int .i64 ub, .int .i64 uc] : List Value)[j]? = some u → (W2.alloc (.cells #[.int .i64 un, .string (bstr unm), .int .i64 ub, .int .i64 uc] 42)).cell? ((⟨W2.heap.size, 0, none⟩ : Addr).add j) = some u from fun j u hu => by
  rw [Go.WideShapes.add_plain, Nat.zero_add, cell_alloc_new]
  simpa using hu)
 gi_wp2_with (first
  |(gi_at_builtin; refine wpListIn_append_own _ rfl _ _ 29 rfl w0.heap.size 42 i0 z0 4 40 Tryz.underlying29 hi hz0 hz1 hz2 hz3 (by decide) _ _ _ rfl (hrow2.alloc _) ⟨W2.heap.size, 0, none⟩ 1 1 [.int .i64 un, .string (bstr unm), .int .i64 ub, .int .i64 uc] rfl rfl HHC.out (by simp [Value.oneCell']) (by unfold maxLen; omega) (by omega) (by have := hb2.size; simp; omega) ?_; intro v' w3 hown' hg3 hnil3
    have hv3 : w3.heap[Bs]? = some (.cells #[v] 29 (0, 0)) := (hg3.block Bs (by simp; omega) (ne_of hv2 (fun cur e => by first | cases e | exact hne (Obj.cells.inj e).2.1))).trans ((Below.heap_alloc _ _ Bs hBlt).trans hv2)
    obtain ⟨hc3, hf3⟩ := cell_of_box_a hv3
    obtain ⟨g', cap', cur', rfl, hbase', hgb', hr1, hr2, hr3, hr4⟩ : ∃ g' cap' cur', v' = .slice (some ⟨g', 0, none⟩) (ss.length + 1) cap' ∧ w0.heap.size ≤ g' ∧ w3.heap[g']? = some (.cells cur' 42 (0, 0)) ∧ ss.length + 1 ≤ cap' ∧ cap' ≤ maxLen ∧ cur'.size = cap' * 4 ∧ cur'.toList.take ((ss.length + 1) * 4) = ss.flatMap usC ++ [.int .i64 un, .string (bstr unm), .int .i64 ub, .int .i64 uc] := by
     rcases hown'.2 with ⟨_, h0⟩ | h'
     ·exact absurd h0 (by omega)
     ·exact h'
    go_frame)
  |gi_round_op_a)
 have hg3' : (W2.alloc (.cells #[.int .i64 un, .string (bstr unm), .int .i64 ub, .int .i64 uc] 42)).grownBy w3 v.ownBlock := hg3
 have hL3 : w3.heap[l]? = some (.loop { apRec ac bd fn sv Bs D .ready none with state := .busy }) := (hg3'.block l (by simp; omega) (ne_of hL2 (fun cur e => by first | cases e | exact hne (Obj.cells.inj e).2.1))).trans ((Below.heap_alloc _ _ l hl2).trans hL2)
 have hK3 : w3.heap[D]? = some (.deferred (some [])) := (hg3'.block D (by simp; omega) (ne_of hK2 (fun cur e => by first | cases e | exact hne (Obj.cells.inj e).2.1))).trans ((Below.heap_alloc _ _ D hDlt).trans hK2)
 obtain ⟨w4, hw4⟩ : ∃ w4, w3.setCell ⟨Bs, 0, none⟩ (.slice (some ⟨g', 0, none⟩) (ss.length + 1) cap') = w4 := ⟨_, rfl⟩
 rw [hw4]
 have hg4 : w3.grownBy w4 (some Bs) := by rw [← hw4]; exact grownBy_setCell0_a _ _ _
 have hv4 : w4.heap[Bs]? = some (.cells #[.slice (some ⟨g', 0, none⟩) (ss.length + 1) cap'] 29 (0, 0)) := by rw [← hw4]; exact heap_setCell_box_a _ hv3
 have hL4 : w4.heap[l]? = some (.loop { apRec ac bd fn sv Bs D .ready none with state := .busy }) := (hg4.block l (Array.getElem?_eq_some_iff.1 hL3).1 (fun e => hBl (by cases e; rfl))).trans hL3
 have hK4 : w4.heap[D]? = some (.deferred (some [])) := (hg4.block D (Array.getElem?_eq_some_iff.1 hK3).1 (fun e => hDB (by cases e; rfl))).trans hK3
 have hrow4 := hown'.kept hg4 (ownsRow_ne_a hown' hv3 (fun cur e => by first | cases e | exact hne (Obj.cells.inj e).2.1))
 have hl4 : l < w4.heap.size := (Array.getElem?_eq_some_iff.1 hL4).1
 have hb3 : Below w0.heap.size w0 w3 := (hb2.alloc hb2.size _).grown hg3' (by have := hb2.size; simp; omega) (fun k e => (hrow2.lt k e).1)
 have hb4 : Below w0.heap.size w0 w4 := hb3.grown hg4 hb3.size (fun k e => by cases e; exact h0B)
 have hk4 : KeepsWalks W w4 := ((hk2.trans (KeepsWalks.alloc _ _)).trans (KeepsWalks.of_grownBy hg3' (ownsRow_not_walk_a (hrow2.alloc _)))).trans (by rw [← hw4]; exact KeepsWalks.setCell _ _ _)
 clear hw4
 rw [← HA.out]
 refine ⟨_, _, run_endRound none hL4, rfl, ⟨⟨_, (World.putObj_heap_other hBl).trans hv4, ?_⟩, World.putObj_heap_same hl4, (World.putObj_heap_other hDl).trans hK4, hb4.grown (grownBy_putObj_a _ _ _) hb4.size (fun k e => by cases e; exact h0l)⟩, hk4.trans (KeepsWalks.putObj _ hL4 rfl)⟩
 have := hrow4.kept (grownBy_putObj_a w4 l (.loop { { apRec ac bd fn sv Bs D .ready none with state := .busy } with state := if (none : Option Code).isNone then .ready else .done, pending := none })) (ownsRow_ne_a hrow4 hL4 (fun cur e => by first | cases e | exact hne (Obj.cells.inj e).2.1))
 simpa [usC] using this
set_option maxRecDepth 100000 in
set_option maxHeartbeats 2000000 in
/-- slices.AppendSeq(nil, seq) -/
theorem appendSeq_in (n : Nat) (hn : 2 ≤ n) (g : Nat) (lb : Array Value) (eg : ∀ args w, (callFunc g args).run Tryz.prog w = .ok (.enter g args) w)
  (S : List UsrP → Prop) (N : Nat) (hN : N ≤ 1000000) (w : World) (hseq : SeqGives Fence.wide (n - 1) Tryz.prog g lb usrV S N w) :
  CallsIn Fence.wide n Tryz.prog 196 #[.slice none 0 0, .func (.func g) #[] lb] w fun e w' => ∃ (v : Value) (ss : List UsrP), e = .returned v ∧ S ss ∧ w'.ownsRow w.heap.size 42 4 v ss.length (ss.flatMap usC) ∧ Below w.heap.size w w' := by
 have h1 : 1 ≤ n := by omega
 have hne : (29 : TypeId) ≠ 42 := by decide
 obtain ⟨ac, hac⟩ : ∃ ac, ac = at_ [true, false, true, true, false] (Tryz.f196.body.getD .skip) := ⟨_, rfl⟩
 obtain ⟨bd, hbd⟩ : ∃ bd, bd = at_ [true, false, true, true, true] (Tryz.f196.body.getD .skip) := ⟨_, rfl⟩
 have HAC := Lib.hid hac
 have HBD := Lib.hid hbd
 have hac' := hac
 have hbd' := hbd
 dsimp only [at_, Tryz.f196, Option.getD] at hac' hbd'
 have HAP := Lib.hid hac'
 have HBP := Lib.hid hbd'
 clear hac hbd hac' hbd'
 refine callsIn_of_wp_marks Tryz.func196 rfl trivial ?_ rfl
 simp only [Tryz.ntmps196, List.size_toArray, List.length_cons, List.length_nil, Nat.reduceAdd, Nat.reduceSub, Array.replicate_succ, Array.replicate_zero, List.push_toArray, List.append_toArray, List.nil_append, List.cons_append]
 gi_wp2
 rw [← HAP.out, ← HBP.out]
 refine wpIn_rangeFunc ?_
 intro fn hfn
 rw [show Fence.wide.round = none from rfl]
 obtain ⟨W0, hW0⟩ : ∃ W0, w.alloc (.cells #[.slice none 0 0] 29) = W0 := ⟨_, rfl⟩
 have hs0 : W0.heap.size = w.heap.size + 1 := by rw [← hW0]; simp
 have hv0 : W0.heap[w.heap.size]? = some (.cells #[.slice none 0 0] 29 (0, 0)) := by rw [← hW0]; exact World.alloc_heap_new w _
 have hb0 : Below w.heap.size w W0 := by rw [← hW0]; exact (Below.refl _ w).alloc (Nat.le_refl _) _
 rw [hW0]
 obtain ⟨W1, hW1⟩ : ∃ W1, (W0.alloc (.deferred (some []))).alloc (.loop (apRec ac bd fn (.func (.func g) #[] lb) w.heap.size W0.heap.size .ready none)) = W1 := ⟨_, rfl⟩
 have hold : ∀ k, k < W0.heap.size → W1.heap[k]? = W0.heap[k]? := fun k hk => by
  rw [← hW1]; exact (Below.heap_alloc _ _ k (by simp; omega)).trans (Below.heap_alloc _ _ k hk)
 have hb1 : Below w.heap.size w W1 := by rw [← hW1]; exact (hb0.alloc hb0.size _).alloc (by have := hb0.size; simp; omega) _
 have hs1 : W1.heap.size = W0.heap.size + 2 := by rw [← hW1]; simp
 have hM : ApAt ac bd w fn (.func (.func g) #[] lb) w.heap.size (W0.heap.size + 1) W0.heap.size [] W1 :=
  ⟨⟨_, (hold w.heap.size (by omega)).trans hv0, ⟨rfl, .inl ⟨rfl, rfl⟩⟩⟩,
   by rw [← hW1]; have := World.alloc_heap_new (W0.alloc (.deferred (some []))) (.loop (apRec ac bd fn (.func (.func g) #[] lb) w.heap.size W0.heap.size .ready none)); rwa [World.size_alloc] at this,
   by rw [← hW1]; exact (Below.heap_alloc _ _ _ (by simp)).trans (World.alloc_heap_new W0 _), hb1⟩
 refine ⟨W0.heap.size + 1, [{ target := .collected W0.heap.size, args := #[] }], W1, { target := .fn (.func g) lb, args := #[.func (.yield (W0.heap.size + 1)) #[] #[]] }, W1, g,
  #[.func (.yield (W0.heap.size + 1)) #[] #[]] ++ lb, W1, ?_, ?_, ?_, ?_, fun _ => h1, ?_⟩
 ·rw [← hW1]; exact run_enterLoop_outer _ _ _ _ _
 ·simp [resolve, go_sem]
 ·intro f' hf'; trivial
 ·simp [invoke, go_sem, eg]
 ·refine (hseq (W0.heap.size + 1) (ApAt ac bd w fn (.func (.func g) #[] lb) w.heap.size (W0.heap.size + 1) W0.heap.size) W1 hb1 (ap_abides ac bd _ _ _ _ _ _ _ hb1.size)
   (fun pre x W hJ hl => apYield ac bd HAC.out HBD.out (n - 1 - 1) w fn _ w.heap.size (W0.heap.size + 1) W0.heap.size (by omega) (by omega) (by omega) (Nat.le_refl _) (by omega) N hN pre x W hJ hl) hM).mono ?_
  rintro e W2 ⟨⟨v0, rfl⟩, ss, hS, h2⟩
  obtain ⟨v, hv, hrow⟩ := h2.box
  have hend := run_endLoop (P := Tryz.prog) h2.L (by simp [apRec])
  obtain ⟨W3, hW3⟩ : ∃ W3, W2.putObj (W0.heap.size + 1) (.loop { apRec ac bd fn (.func (.func g) #[] lb) w.heap.size W0.heap.size .ready none with state := .exhausted }) = W3 := ⟨_, rfl⟩
  rw [hW3] at hend
  have hg3 : W2.grownBy W3 (some (W0.heap.size + 1)) := by rw [← hW3]; exact grownBy_putObj_a _ _ _
  have hv3 : W3.heap[w.heap.size]? = some (.cells #[v] 29 (0, 0)) := by rw [← hW3]; exact (World.putObj_heap_other (by omega)).trans hv
  have hK3 : W3.heap[W0.heap.size]? = some (.deferred (some [])) := by rw [← hW3]; exact (World.putObj_heap_other (by omega)).trans h2.K
  have hrow3 := hrow.kept hg3 (ownsRow_ne_a hrow h2.L (fun cur e => by first | cases e | exact hne (Obj.cells.inj e).2.1))
  have hb3 : Below w.heap.size w W3 := h2.below.grown hg3 h2.below.size (fun k e => by cases e; omega)
  obtain ⟨hc3, hf3⟩ := cell_of_box_a hv3
  clear hW3
  refine ⟨none, W3, hend, ?_⟩
  gi_wp2
  rw [← hs0]
  refine ⟨by simp, .inl ⟨_, _, rfl, run_takeDeferred hK3, ?_⟩⟩
  exact ⟨_, results_tmp rfl _ _ _, v, ss, rfl, hS, hrow3.kept (grownBy_putObj_a _ _ _) (ownsRow_ne_a hrow3 hK3 (fun cur e => by first | cases e | exact hne (Obj.cells.inj e).2.1)), hb3.grown (grownBy_putObj_a _ _ _) hb3.size (fun k e => by cases e; omega)⟩
theorem e168 : ∀ args w, (callFunc 196 args).run Tryz.prog w = .ok (.enter 196 args) w := enters_of Tryz.func196 (by kernel_rfl) rfl
set_option maxHeartbeats 1000000 in
theorem collect_in (n : Nat) (hn : 3 ≤ n) (g : Nat) (lb : Array Value) (eg : ∀ args w, (callFunc g args).run Tryz.prog w = .ok (.enter g args) w)
  (S : List UsrP → Prop) (N : Nat) (hN : N ≤ 1000000) (w : World) (hseq : SeqGives Fence.wide (n - 1 - 1) Tryz.prog g lb usrV S N w) :
  CallsIn Fence.wide n Tryz.prog 157 #[.func (.func g) #[] lb] w fun e w' => ∃ (v : Value) (ss : List UsrP), e = .returned v ∧ S ss ∧ w'.ownsRow w.heap.size 42 4 v ss.length (ss.flatMap usC) ∧ Below w.heap.size w w' := by
 have h1 : 1 ≤ n := by omega
 have e11 := e168
 have h11 : Fence.wide.fn 196 := trivial
 refine callsIn_of_wp Tryz.func157 rfl trivial ?_ rfl
 simp only [Tryz.ntmps157, List.size_toArray, List.length_cons, List.length_nil, Nat.reduceAdd, Nat.reduceSub, Array.replicate_succ, Array.replicate_zero, List.push_toArray, List.append_toArray, List.nil_append, List.cons_append]
 gi_wp2_with (gi_at_fn 196; refine (appendSeq_in (n - 1) (by omega) g lb eg S N hN _ hseq).mono ?_; rintro e w' ⟨v, ss, rfl, hS, hrow, hb⟩)
 go_ret
 exact ⟨v, ss, rfl, hS, hrow, hb⟩
end Usr
end Go.Proofs.YtklbemkafdccgaaGreat

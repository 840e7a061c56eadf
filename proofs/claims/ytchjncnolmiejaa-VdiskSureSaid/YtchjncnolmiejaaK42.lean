/- Several texts in one: VdSurePl, VdSure. -/
import Derived.Test.YtchjncnolmiejaaK34
import Derived.Test.YtchjncnolmiejaaVdDo
/- VdiskSure, plain: what was synced stays, whatever is done with other files. -/
namespace Go.Proofs.Ytchjncnolmiejaa
open Go.RowKit
namespace Vd
open Go.Maps
/-- the file "s", node 0, and nothing else in its way -/
structure Kept0 (b more : Str) (d : Dsk) : Prop where
  node : ∃ x, d.nodes[0]? = some x ∧ x.seen = b ++ more ∧ x.sure = b ∧ x.pats = [⟨b.length, more⟩]
  seen : ([115], 0) ∈ d.seen
  sure : ([115], 0) ∈ d.sure
  only : ∀ p ∈ d.seen, p.2 = 0 → p.1 = [115]
  onlu : ∀ p ∈ d.sure, p.2 = 0 → p.1 = [115]
  move : ∀ m ∈ d.moves, m.node ≠ 0 ∧ m.name ≠ [115]
  ascs : AscN d.seen
  au : AscN d.sure
section
variable {b more : Str} {d : Dsk}
theorem kept_give {l : Nms} {m : Mv} (hm : m.node ≠ 0 ∧ m.name ≠ [115]) (h : ([115], 0) ∈ l) (ho : ∀ p ∈ l, p.2 = 0 → p.1 = [115]) : ([115], 0) ∈ giveN l m ∧ ∀ p ∈ giveN l m, p.2 = 0 → p.1 = [115] := by
  have hd : ([115], 0) ∈ dropN l m.node := List.mem_filter.2 ⟨h, by simp; exact fun e => hm.1 e.symm⟩
  unfold giveN
  split
  · exact ⟨hd, fun p hp => ho p (List.mem_filter.1 hp).1⟩
  · refine ⟨?_, fun p hp hz => ?_⟩
    · unfold putN
      rcases str_tri [115] m.name with hh | hh | hh
      · exact List.mem_append.2 (.inl (List.mem_filter.2 ⟨hd, by simpa using hh⟩))
      · exact absurd hh.symm hm.2
      · exact List.mem_append.2 (.inr (List.mem_cons_of_mem _ (List.mem_filter.2 ⟨hd, by simpa using hh⟩)))
    · rcases put_mem hp with hp | rfl
      · exact ho p (List.mem_filter.1 hp).1 hz
      · exact absurd hz hm.1
theorem kept_change (h : Kept0 b more d) : Kept0 b more (changeD d).1 := by
  obtain ⟨e1, e2, e3, e4, -⟩ := changeD_seen d
  exact ⟨by rw [e2]; exact h.node, by rw [e1]; exact h.seen, by rw [e3]; exact h.sure, by rw [e1]; exact h.only, by rw [e3]; exact h.onlu, by rw [e4]; exact h.move, by rw [e1]; exact h.ascs, by rw [e3]; exact h.au⟩
theorem kept_turn (h : Kept0 b more d) {m : Mv} (hm : m.node ≠ 0 ∧ m.name ≠ [115]) : Kept0 b more (turnD d m) := by
  obtain ⟨g1, g2⟩ := kept_give hm h.seen h.only
  exact ⟨h.node, g1, h.sure, g2, h.onlu, fun x hx => by
    rcases List.mem_append.1 hx with hx | hx
    · exact h.move x hx
    · simp at hx; subst hx; exact hm, ascN_give h.ascs m, h.au⟩
theorem kept_put (h : Kept0 b more d) {i : Nat} (hi : i ≠ 0) (x : Nod) : Kept0 b more (putD d i x) :=
  ⟨by
    obtain ⟨y, hy, r⟩ := h.node
    exact ⟨y, by show (d.nodes.set i x)[0]? = _; rw [List.getElem?_set_ne (by omega)]; exact hy, r⟩, h.seen, h.sure, h.only, h.onlu, h.move, h.ascs, h.au⟩
theorem kept_node (h : Kept0 b more d) {x : Str} (hx : x ≠ [115]) {i : Nat} (hl : look d.seen x = some i) : i ≠ 0 := fun e => hx (h.only _ ((look_mem h.ascs).1 hl) e)
theorem kept_len (h : Kept0 b more d) : d.nodes.length ≠ 0 := by
  obtain ⟨y, hy, -⟩ := h.node
  have := (List.getElem?_eq_some_iff.1 hy).1
  omega
theorem kept_create (h : Kept0 b more d) {x : Str} (hx : x ≠ [115]) : Kept0 b more (createD d x).1 := by
  have hc := kept_change h
  unfold createD
  split
  · exact hc
  · split
    · exact hc
    · split
      · exact hc
      · split
        · exact hc
        · obtain ⟨e1, e2, e3, e4, -⟩ := changeD_seen d
          have hl := kept_len h
          have ht := kept_turn hc (m := ⟨d.nodes.length, x, true⟩) ⟨hl, hx⟩
          refine ⟨?_, ht.seen, ht.sure, ht.only, ht.onlu, ht.move, ht.ascs, ht.au⟩
          obtain ⟨y, hy, r⟩ := h.node
          refine ⟨y, ?_, r⟩
          show ((changeD d).1.nodes ++ [newN])[0]? = _
          rw [e2, List.getElem?_append_left (by omega)]
          exact hy
theorem kept_touch (h : Kept0 b more d) {x : Str} (hx : x ≠ [115]) : Kept0 b more (touchD d x).1 ∧ ((touchD d x).2.2 = 0 → (touchD d x).2.1 ≠ 0) := by
  refine ⟨by rw [touch_fst]; exact kept_change h, ?_⟩
  unfold touchD
  split
  · intro e; exact absurd e ‹_›
  · show findE d.seen x = 0 → (look d.seen x).getD 0 ≠ 0
    unfold findE
    cases hl : look d.seen x with
    | none => simp
    | some i => intro _; exact kept_node h hx hl
theorem kept_write (h : Kept0 b more d) {i : Nat} (hi : i ≠ 0) (p : Pat) : Kept0 b more (writeD d i p).1 := by
  unfold writeD
  split
  · exact h
  · exact kept_put h hi _
theorem kept_append (h : Kept0 b more d) {x : Str} (hx : x ≠ [115]) (y : Str) : Kept0 b more (appendD d x y).1 := by
  obtain ⟨h1, h2⟩ := kept_touch h hx
  unfold appendD
  split
  · exact h1
  · exact kept_write h1 (h2 (by simpa using ‹¬ (touchD d x).2.2 ≠ 0›)) _
theorem kept_pwrite (h : Kept0 b more d) {x : Str} (hx : x ≠ [115]) (a : Int) (y : Str) : Kept0 b more (pwriteD d x a y).1 := by
  obtain ⟨h1, h2⟩ := kept_touch h hx
  unfold pwriteD
  split
  · exact h1
  · split
    · exact h1
    · exact kept_write h1 (h2 (by simpa using ‹¬ (touchD d x).2.2 ≠ 0›)) _
theorem kept_sync (h : Kept0 b more d) {x : Str} (hx : x ≠ [115]) : Kept0 b more (syncD d x).1 := by
  obtain ⟨h1, h2⟩ := kept_touch h hx
  unfold syncD
  split
  · exact h1
  · exact kept_put h1 (h2 (by simpa using ‹¬ (touchD d x).2.2 ≠ 0›)) _
theorem kept_rename (h : Kept0 b more d) {x y : Str} (hx : x ≠ [115]) (hy : y ≠ [115]) : Kept0 b more (renameD d x y).1 := by
  have hc := kept_change h
  unfold renameD
  split
  · exact hc
  · split
    · exact hc
    · split
      · refine kept_turn hc ⟨?_, hy⟩
        cases hl : look d.seen x with
        | none => rename_i hh; rw [hl] at hh; simp at hh
        | some i => exact kept_node h hx hl
      · exact hc
theorem kept_unlink (h : Kept0 b more d) {x : Str} (hx : x ≠ [115]) : Kept0 b more (unlinkD d x).1 := by
  obtain ⟨h1, h2⟩ := kept_touch h hx
  unfold unlinkD
  split
  · exact h1
  · exact kept_turn h1 ⟨h2 (by simpa using ‹¬ (touchD d x).2.2 ≠ 0›), by show ([] : Str) ≠ [115]; simp⟩
theorem kept_fix (h : Kept0 b more d) : Kept0 b more (fixD d) :=
  ⟨by
    obtain ⟨y, hy, r1, r2, r3⟩ := h.node
    exact ⟨staleN y, by show (d.nodes.map staleN)[0]? = _; rw [List.getElem?_map, hy]; rfl, r1, r2, r3⟩, h.seen, h.seen, h.only, h.only, fun m hm => by simp [fixD] at hm, h.ascs, h.ascs⟩
theorem kept_syncDir (h : Kept0 b more d) : Kept0 b more (syncDirD d).1 := by
  unfold syncDirD
  split
  · exact kept_change h
  · exact kept_fix (kept_change h)
theorem kept_traps (h : Kept0 b more d) (f c : Int × Int) : Kept0 b more { d with fail := f, crash := c } := ⟨h.node, h.seen, h.sure, h.only, h.onlu, h.move, h.ascs, h.au⟩
theorem kept_gives {b more : Str} : ∀ (ms : List Mv) (l : Nms), (∀ m ∈ ms, m.node ≠ 0 ∧ m.name ≠ [115]) → ([115], 0) ∈ l → (∀ p ∈ l, p.2 = 0 → p.1 = [115]) → AscN l → ([115], 0) ∈ ms.foldl giveN l ∧ AscN (ms.foldl giveN l)
  | [], _, _, h, _, ha => ⟨h, ha⟩
  | m :: ms, l, hm, h, ho, ha => by
    obtain ⟨g1, g2⟩ := kept_give (hm m (List.mem_cons_self ..)) h ho
    exact kept_gives (b := b) (more := more) ms _ (fun x hx => hm x (List.mem_cons_of_mem _ hx)) g1 g2 (ascN_give ha m)
theorem bootIx_other : ∀ (L : List Nat) (ns : List Nod) (ks : List Int), 0 ∉ L → (bootIx L ns ks).1[0]? = ns[0]?
  | [], _, _, _ => rfl
  | i :: L, ns, ks, h => by
    rw [bootIx_cons, bootIx_other L _ _ (fun hh => h (List.mem_cons_of_mem _ hh)), List.getElem?_set_ne (fun e => h (by rw [e]; exact List.mem_cons_self ..))]
theorem known_head (h : Kept0 b more d) : ∃ L, knownL d = 0 :: L ∧ 0 ∉ L := by
  have hl := kept_len h
  obtain ⟨n, hn⟩ : ∃ n, d.nodes.length = n + 1 := ⟨d.nodes.length - 1, by omega⟩
  have hk : knownB d 0 = true := by
    unfold knownB
    have : d.seen.any (fun p => decide (p.2 = 0)) = true := List.any_eq_true.2 ⟨_, h.seen, by simp⟩
    simp [this]
  unfold knownL
  rw [hn, List.range_succ_eq_map, List.filter_cons, hk]
  refine ⟨_, rfl, fun hh => ?_⟩
  have := (List.mem_filter.1 hh).1
  simp at this
theorem overL_end (s t : Str) : overL s s.length t = s ++ t := by
  apply List.ext_getElem?
  intro i
  rw [overL_get, List.getElem?_append]
  by_cases h1 : i < s.length
  · rw [if_neg (by omega), if_pos h1, if_pos h1]
  · by_cases h2 : i < s.length + t.length
    · rw [if_pos (by omega), if_neg h1]
    · rw [if_neg (by omega), if_neg h1, if_neg (by omega), if_neg h1, List.getElem?_eq_none (by omega)]
theorem bootPats_one (b more : Str) (ks : List Int) : ∃ j, (bootPats [⟨b.length, more⟩] b ks).1 = b ++ more.take j := by
  rw [bootPats_cons]
  have hp := (keepN_b ks ⟨b.length, more⟩).1
  have hb : ∃ j, (keepN ks ⟨b.length, more⟩).1.b = more.take j := by
    cases ks with
    | nil => exact ⟨0, by simp [keepN]⟩
    | cons a ks => exact ⟨_, rfl⟩
  obtain ⟨j, hj⟩ := hb
  refine ⟨j, ?_⟩
  show (if (keepN ks ⟨b.length, more⟩).1.b = [] then b else overL b (keepN ks ⟨b.length, more⟩).1.place (keepN ks ⟨b.length, more⟩).1.b) = _
  rw [hp, hj]
  split
  · rename_i e; rw [e, List.append_nil]
  · exact overL_end _ _
theorem kept_boot (h : Kept0 b more d) (ho : d.off = true) (t : Int) (ks : List Int) : ∃ j, textD (bootD d t ks).1 [115] = (b ++ more.take j, 0) := by
  obtain ⟨L, hL, h0⟩ := known_head h
  obtain ⟨x, hx, r1, r2, r3⟩ := h.node
  obtain ⟨j, hj⟩ := bootPats_one b more ks
  refine ⟨j, ?_⟩
  have hlen := kept_len h
  have hgx : d.nodes.getD 0 zeroN = x := by rw [List.getD_eq_getElem?_getD, hx]; rfl
  have hn : (bootIx (knownL d) d.nodes ks).1[0]? = some (bootN x ks) := by
    rw [hL, bootIx_cons, bootIx_other _ _ _ h0, hgx, List.getElem?_set_self (by omega)]
  obtain ⟨g1, g2⟩ := kept_gives (b := b) (more := more) (d.moves.take t.toNat) d.sure (fun m hm => h.move m (List.mem_of_mem_take hm)) h.sure h.onlu h.au
  have hlk := (look_mem g2).2 g1
  have hs : (bootN x ks).seen = b ++ more.take j := by
    show (bootPats x.pats x.sure ks).1 = _
    rw [r2, r3]
    exact hj
  unfold bootD
  rw [if_neg (by simp [ho])]
  unfold textD
  show (if false = true then _ else match look ((d.moves.take t.toNat).foldl giveN d.sure) [115] with | none => _ | some i => _) = _
  rw [if_neg (by simp), hlk]
  show ((((bootIx (knownL d) d.nodes ks).1.map staleN)[0]?.map (·.seen)).getD [], (0 : Int)) = _
  rw [List.getElem?_map, hn]
  show ((bootN x ks).seen, (0 : Int)) = _
  rw [hs]
end
/-- the disk step by step -/
def s0 : Dsk := ⟨1048576, [], [], [], [], false, 0, (-1, 0), (-1, 0)⟩
def s1 : Dsk := ⟨1048576, [newN], [([115], 0)], [], [⟨0, [115], true⟩], false, 1, (-1, 0), (-1, 0)⟩
def s2 (b : Str) : Dsk := ⟨1048576, [⟨b, [], [⟨0, b⟩], true⟩], [([115], 0)], [], [⟨0, [115], true⟩], false, 2, (-1, 0), (-1, 0)⟩
def s3 (b : Str) : Dsk := ⟨1048576, [⟨b, b, [], true⟩], [([115], 0)], [], [⟨0, [115], true⟩], false, 3, (-1, 0), (-1, 0)⟩
def s4 (b : Str) : Dsk := ⟨1048576, [⟨b, b, [], false⟩], [([115], 0)], [([115], 0)], [], false, 4, (-1, 0), (-1, 0)⟩
def s5 (b more : Str) : Dsk := ⟨1048576, [⟨b ++ more, b, [⟨b.length, more⟩], false⟩], [([115], 0)], [([115], 0)], [], false, 5, (-1, 0), (-1, 0)⟩
theorem s0_go : createD s0 [115] = (s1, 0) := by kernel_rfl
theorem s1_go {b : Str} (hb : b.length ≤ 1000) : appendD s1 [115] b = (s2 b, 0) := by
  have ht : touchD s1 [115] = (⟨1048576, [newN], [([115], 0)], [], [⟨0, [115], true⟩], false, 2, (-1, 0), (-1, 0)⟩, 0, 0) := by kernel_rfl
  unfold appendD
  rw [ht]
  show writeD ⟨1048576, [newN], [([115], 0)], [], [⟨0, [115], true⟩], false, 2, (-1, 0), (-1, 0)⟩ 0 ⟨0, b⟩ = _
  unfold writeD
  have hl := overL_nil b
  rw [if_neg (by
    show ¬ freeD _ < ((overL [] 0 b).length : Int) - 0
    rw [hl]
    simp [freeD, bytesN, newN]
    omega)]
  show (putD _ 0 (wroteN newN ⟨0, b⟩), (0 : Int)) = _
  unfold wroteN
  rw [show overL newN.seen (Pat.mk 0 b).place (Pat.mk 0 b).b = b from hl]
  rfl
theorem s2_go (b : Str) : syncD (s2 b) [115] = (s3 b, 0) := by
  have ht : touchD (s2 b) [115] = (⟨1048576, [⟨b, [], [⟨0, b⟩], true⟩], [([115], 0)], [], [⟨0, [115], true⟩], false, 3, (-1, 0), (-1, 0)⟩, 0, 0) := by kernel_rfl
  unfold syncD
  rw [ht]
  rfl
theorem s3_go (b : Str) : syncDirD (s3 b) = (s4 b, 0) := by kernel_rfl
theorem s4_go {b more : Str} (hb : b.length ≤ 1000) (hm : more.length ≤ 1000) : appendD (s4 b) [115] more = (s5 b more, 0) := by
  have ht : touchD (s4 b) [115] = (⟨1048576, [⟨b, b, [], false⟩], [([115], 0)], [([115], 0)], [], false, 5, (-1, 0), (-1, 0)⟩, 0, 0) := by kernel_rfl
  unfold appendD
  rw [ht]
  show writeD ⟨1048576, [⟨b, b, [], false⟩], [([115], 0)], [([115], 0)], [], false, 5, (-1, 0), (-1, 0)⟩ 0 ⟨b.length, more⟩ = _
  unfold writeD
  have hl := overL_end b more
  rw [if_neg (by
    show ¬ freeD _ < ((overL b b.length more).length : Int) - (b.length : Int)
    rw [hl]
    simp [freeD, bytesN]
    omega)]
  show (putD _ 0 (wroteN ⟨b, b, [], false⟩ ⟨b.length, more⟩), (0 : Int)) = _
  unfold wroteN
  rw [show overL (Nod.mk b b [] false).seen (Pat.mk b.length more).place (Pat.mk b.length more).b = b ++ more from hl]
  rfl
theorem s5_kept (b more : Str) : Kept0 b more (s5 b more) :=
  ⟨⟨_, rfl, rfl, rfl, rfl⟩, by simp [s5], by simp [s5], by simp [s5], by simp [s5], by simp [s5], by simp [s5, AscN], by simp [s5, AscN]⟩
theorem last_off (d : Dsk) (x : Str) : (syncD { d with crash := setT 0 11 } x).1.off = true := by
  have hc : (changeD { d with crash := setT 0 11 }).1.off = true ∧ (changeD { d with crash := setT 0 11 }).2 = 11 := by
    cases ho : d.off with
    | true =>
      have h : changeD { d with crash := setT 0 11 } = ({ d with crash := setT 0 11 }, 11) := change_off ho
      rw [ho] at h
      rw [h]
      exact ⟨rfl, rfl⟩
    | false =>
      have h := change_crash (d := { d with crash := setT 0 11 }) ho (k' := -1) spring_0
      rw [ho] at h
      rw [h]
      exact ⟨rfl, rfl⟩
  have ht : (touchD { d with crash := setT 0 11 } x).2.2 = 11 := by
    unfold touchD
    rw [if_pos (by rw [hc.2]; decide)]
    exact hc.2
  unfold syncD
  rw [if_pos (by rw [ht]; decide), touch_fst]
  exact hc.1
end Vd
end Go.Proofs.Ytchjncnolmiejaa

/- VdiskSure: its walk. -/
namespace Go.Proofs.Ytchjncnolmiejaa
open Go.RowKit
namespace Rf
open Vd
open Go.Maps
theorem actM : Mids Try.prog 36 6 := ⟨⟨_, Try.underlying36, rfl⟩, by kernel_rfl⟩
section
variable {W w : World} {g m : Nat} {d : Dsk} {r : RDsk} {k : Nat} {L : List Nat}
theorem do_two (h : TwoAt [] W w g d m r k) (hk : k ≤ 80000) (x : Vd.Act) (hkind : x.kind ≠ 9) (hxa : x.a.length ≤ 1000) (hxb : x.b.length ≤ 1000) (hxn : (Lit.int .i64 x.n).wf = true) {pk : Option Addr} {nk ck : Nat} (hkv : x.kv = .slice pk nk ck) : Calls Try.prog 19 #[.pointer (some ⟨g, 0, none⟩), .pointer (some ⟨m, 0, none⟩), .agg (actC x).toArray] w (TwoDo W g (actD d x) m (k + 6)) := by
  obtain ⟨xk, xa, xb, xn, xc, xv, xks⟩ := x
  simp only at hkind hxa hxb hxn hkv
  subst hkv
  have e : (.agg (actC ⟨xk, xa, xb, xn, xc, .slice pk nk ck, xks⟩).toArray : Value) = .agg #[.int .i64 xk, .string (bstr xa), .string (bstr xb), .int .i64 xn, .int .i64 xc, .slice pk nk ck] := rfl
  rw [e]
  unfold actD
  simp only
  by_cases h0 : xk = 0
  · rw [if_pos h0]; exact do0_any h hk xk h0 xa xb xn xc pk nk ck hxa hxb hxn
  rw [if_neg h0]
  by_cases h1 : xk = 1
  · rw [if_pos h1]; exact do1_any h hk xk h1 xa xb xn xc pk nk ck hxa hxb hxn
  rw [if_neg h1]
  by_cases h2 : xk = 2
  · rw [if_pos h2]; exact do2_any h hk xk h2 xa xb xn xc pk nk ck hxa hxb hxn
  rw [if_neg h2]
  by_cases h3 : xk = 3
  · rw [if_pos h3]; exact do3_any h hk xk h3 xa xb xn xc pk nk ck hxa hxb hxn
  rw [if_neg h3]
  by_cases h4 : xk = 4
  · rw [if_pos h4]; exact do4_any h hk xk h4 xa xb xn xc pk nk ck hxa hxb hxn
  rw [if_neg h4]
  by_cases h5 : xk = 5
  · rw [if_pos h5]; exact do5_any h hk xk h5 xa xb xn xc pk nk ck hxa hxb hxn
  rw [if_neg h5]
  by_cases h6 : xk = 6
  · rw [if_pos h6]; exact do6_any h hk xk h6 xa xb xn xc pk nk ck hxa hxb hxn
  rw [if_neg h6]
  by_cases h7 : xk = 7
  · rw [if_pos h7]; exact do7_any h hk xk h7 xa xb xn xc pk nk ck hxa hxb hxn
  rw [if_neg h7]
  by_cases h8 : xk = 8
  · rw [if_pos h8]; exact do8_any h hk xk h8 xa xb xn xc pk nk ck hxa hxb hxn
  rw [if_neg h8]
  exact do9_any h hk xk (by omega) xa xb xn xc pk nk ck hxa hxb hxn
theorem kept_act {b more : Str} (h : Kept0 b more d) (x : Vd.Act) (ha : x.a ≠ [115]) (hb : x.b ≠ [115]) : Kept0 b more (actD d x) := by
  unfold actD
  repeat' split
  · exact kept_create h ha
  · exact kept_append h ha _
  · exact kept_pwrite h ha _ _
  · exact kept_sync h ha
  · exact kept_rename h ha hb
  · exact kept_unlink h ha
  · exact kept_syncDir h
  · exact kept_traps h _ _
  · exact kept_traps h _ _
  · exact h
theorem down_two (h : TwoAt L W w g d m r k) : Calls Try.prog 21 #[.pointer (some ⟨g, 0, none⟩)] w fun e w' => e = .returned (.bool d.off) ∧ w = w' := by
  obtain ⟨S, M, h⟩ := h
  exact down_any w h.dsk
theorem read_two (h : TwoAt L W w g d m r k) (x : Str) (hx : x.length ≤ maxLen) : Calls Try.prog 23 #[.pointer (some ⟨g, 0, none⟩), .string (bstr x)] w (Vd.ReadDid w (textD d x)) := by
  obtain ⟨S, M, h⟩ := h
  exact Vd.read_any w h.dsk x hx
theorem boot_two (h : TwoAt L W w g d m r k) (hk : k ≤ 500) (t : Int) (ht : (Lit.int .i64 t).wf = true) {kv : Value} {keep : List Int} (hr : ∀ w', Keeps W w' → Row w' kv (keep.map (Value.int .i64))) : Calls Try.prog 22 #[.pointer (some ⟨g, 0, none⟩), .int .i64 t, kv] w (TwoDid L W w g (bootD d t keep).1 m r (2 * k) (.int .i64 (bootD d t keep).2)) := by
  obtain ⟨S, M, h⟩ := h
  exact (boot_any w h.dsk t ht (fun w' hm => hr w' (hm.keeps h.keep (fun y hy => (h.ls y hy).1))) (fun j => by have := gave_few h.few j; omega) (by have := h.few.n; omega) (by have := h.few.m; omega)).mono (fun e w' hd => h.did hd (few_boot h.few t keep) (by omega))
/-- beside a disk of the law's there comes the document's -/
theorem two_new (h : At W w g d k) {w' : World} {m : Nat} {cap : Int} (hk : Keeps w w') (hr : RefAt w' (fun y => w.heap.size ≤ y ∧ y < w'.heap.size) m (rd0 cap) 0) : TwoAt [] W w' g d m (rd0 cap) k :=
  ⟨Rng W.heap.size w, fun y => w.heap.size ≤ y ∧ y < w'.heap.size,
    { dsk := h.dsk.keeps hk
      ref := hr.more (Nat.zero_le _)
      ap := fun y hy hh => by have := hy.2; omega
      ls := fun y hy => ⟨hy.1, Nat.lt_of_lt_of_le hy.2 hk.size, List.not_mem_nil⟩
      lm := fun y hy => ⟨Nat.le_trans h.keep.size hy.1, hy.2, List.not_mem_nil⟩
      ll := fun y hy => absurd hy (List.not_mem_nil)
      keep := h.keep.trans hk
      few := h.few }⟩
theorem actOk_keeps {w w' : World} {x : Vd.Act} (h : ActOk w x) (k : Keeps w w') : ActOk w' x := ⟨h.a, h.b, h.n, h.row.keeps k⟩
theorem s0_few : Few s0 0 := ⟨by decide, by decide, by decide, by decide, by intro y hy; exact absurd hy (List.not_mem_nil), by decide, by decide⟩
theorem s0_new : newD [] 1048576 = some s0 := by kernel_rfl
theorem boot_off {d : Dsk} (h : d.off = true) (t : Int) (ks : List Int) : (bootD d t ks).2 = 0 := by
  unfold bootD
  rw [if_neg (by simp [h])]
set_option maxRecDepth 100000 in
set_option maxHeartbeats 4000000 in
theorem vdiskSure_walk (W : World) (v0 : Value) (b : List UInt8) (v1 : Value) (more : List UInt8) (v2 : Value) (l : List Vd.Act) (t : Int) (v4 : Value) (ks : List Int) (r0 : Row W v0 (b.map u8v)) (r1 : Row W v1 (more.map u8v)) (r2 : RowS W 6 v2 l.length (l.flatMap actC)) (w2 : ∀ y ∈ l, ActOk W y) (w3 : (Lit.int .i64 t).wf = true) (_w4 : ∀ x ∈ ks, (Lit.int .i64 x).wf = true) (r4 : Row W v4 (ks.map (.int .i64))) :
    Calls Try.prog 3 #[v0, v1, v2, .int .i64 t, v4] W fun e w' => e = .returned (.bool true) ∧ Keeps W w' := by
  obtain ⟨p0, c0, rfl, -, -⟩ := r0.formB
  obtain ⟨p1, c1, rfl, -, -⟩ := r1.formB
  obtain ⟨p2, c2, rfl, -, -⟩ := r2.form
  have HR0 := Lib.hid r0
  have HR1 := Lib.hid r1
  have HR2 := Lib.hid r2
  have HOK := Lib.hid w2
  have HR4 := Lib.hid r4
  obtain ⟨p4, c4, rfl, -, -⟩ := r4.form
  have hkl : (ks.map (Value.int .i64)).length = ks.length := by simp
  rw [hkl] at HR4 ⊢
  have HWF := Lib.hid w3
  have HAW := Lib.hid (awake04_any W)
  clear r0 r1 r2 r4 w2 w3 _w4 hkl
  go_enter Try.func3, Try.ntmps3
  go_wp2_with fail
  refine HAW.out.mono ?_
  rintro e w1 ⟨rfl, hk1⟩
  have HK1 := Lib.hid hk1
  clear hk1 HAW
  by_cases h1 : 1000 < b.length
  · go_wp2_with fail
    go_ret
    exact ⟨rfl, HK1.out⟩
  by_cases h2 : 1000 < more.length
  · go_wp2_with fail
    go_ret
    exact ⟨rfl, HK1.out⟩
  have HFW := Lib.hid (few_any _ l w1 (HR2.out.keeps HK1.out) (fun x hx => actOk_keeps (HOK.out x hx) HK1.out))
  have HNW := Lib.hid (fun w2 (k : Keeps W w2) => new_at k (.slice none 0 0) [] (rowS_none _) (fun f hf => absurd hf (List.not_mem_nil)) 1048576)
  unfold NewAt at HNW
  rw [s0_new] at HNW
  cases hfw : fewA l with
  | false =>
    rw [hfw] at HFW
    clear hfw
    go_wp2_with fail
    refine HFW.out.mono ?_
    rintro e w2 ⟨rfl, hk⟩
    go_wp2_with fail
    go_ret
    exact ⟨rfl, HK1.out.trans hk⟩
  | true =>
    rw [hfw] at HFW
    have HFA := Lib.hid hfw
    clear hfw
    go_wp2_with fail
    refine HFW.out.mono ?_
    rintro e w2 ⟨rfl, hk⟩
    have HK2 := Lib.hid (HK1.out.trans hk)
    clear hk HFW
    go_wp2_with fail
    refine (HNW.out _ HK2.out).mono ?_
    rintro e w3 ⟨hk, g, rfl, hd⟩
    have H0 := Lib.hid (show At W w3 g s0 0 from ⟨hd, hk, s0_few⟩)
    clear hd hk HNW
    have HC := Lib.hid (create_at H0.out (by omega) [115] (by decide))
    rw [s0_go] at HC
    go_wp2_with fail
    refine HC.out.mono ?_
    rintro e w4 ⟨rfl, h4⟩
    have H1 := Lib.hid h4
    clear h4 HC
    have HC := Lib.hid (append_at H1.out (by omega) (Keeps.refl _) [115] (by decide) (H1.out.arg (Keeps.refl _) HR0.out) (by omega))
    rw [s1_go (by omega)] at HC
    go_wp2_with fail
    refine HC.out.mono ?_
    rintro e w5 ⟨rfl, h4⟩
    have H2 := Lib.hid h4
    clear h4 HC
    have HC := Lib.hid (sync_at H2.out (by omega) [115] (by decide))
    rw [s2_go] at HC
    go_wp2_with fail
    refine HC.out.mono ?_
    rintro e w6 ⟨rfl, h4⟩
    have H3 := Lib.hid h4
    clear h4 HC
    have HC := Lib.hid (syncDir_at H3.out (by omega))
    rw [s3_go] at HC
    go_wp2_with fail
    refine HC.out.mono ?_
    rintro e w7 ⟨rfl, h4⟩
    have H4 := Lib.hid h4
    clear h4 HC
    have HC := Lib.hid (append_at H4.out (by omega) (Keeps.refl _) [115] (by decide) (H4.out.arg (Keeps.refl _) HR1.out) (by omega))
    rw [s4_go (by omega) (by omega)] at HC
    go_wp2_with fail
    refine HC.out.mono ?_
    rintro e w8 ⟨rfl, h4⟩
    have H5 := Lib.hid h4
    clear h4 HC H0 H1 H2 H3 H4
    have HC := Lib.hid (rnew0_r w8 1048576)
    rw [show newR0 1048576 = some (rd0 1048576) from rfl] at HC
    unfold NewR at HC
    go_wp2_with fail
    refine HC.out.mono ?_
    rintro e w9 ⟨hk, m, rfl, hr⟩
    have HT := Lib.hid (two_new H5.out hk hr)
    clear hk hr HC H5
    have HKE := Lib.hid (s5_kept b more)
    have hl60 : l.length ≤ 60 := by have := HFA.out; unfold fewA at this; simp at this; exact this.1
    have HAL := Lib.hid (show ∀ x ∈ l, x.a.length ≤ 100 ∧ x.b.length ≤ 100 from fun x hx => by have := HFA.out; unfold fewA at this; simp at this; have := this.2 x hx; omega)
    generalize rd0 1048576 = r0 at *
    generalize s5 b more = d0 at *
    go_wp2_with fail
    go_loopw [13] (fun ix wr => ∃ (j : Nat) (d : Dsk) (r : RDsk), ix = .int .i64 (j : Int) ∧ j ≤ l.length ∧ Hid (TwoAt [] W wr g d m r (5 + 6 * j)) ∧ Hid (Kept0 b more d)) (fun ix _ => l.length - (RowKit.intOf ix).toNat)
    case atStart => exact ⟨0, d0, r0, rfl, Nat.zero_le _, HT, HKE⟩
    case round =>
      clear HT HKE
      obtain ⟨j, d, r, rfl, hj, HT, HKE⟩ := hrel
      by_cases hlt : j < l.length
      · obtain ⟨pb, off, cap, hv, hc1, hc2, HC⟩ := HR2.out.at_ (by omega)
        simp only [Value.slice.injEq] at hv
        obtain ⟨rfl, -, rfl⟩ := hv
        have HRG := Lib.hid (show wr.rangeAt pb (off + j * 6) (actC l[j]) from fun i x hx => by
          have hi : i < 6 := by have := (List.getElem?_eq_some_iff.1 hx).1; rwa [actC_len] at this
          have := HC.out (j * 6 + i) x (by rw [act_at hlt hi]; exact hx)
          rw [Nat.add_assoc, HT.out.kp.cell (p := ⟨pb, off + (j * 6 + i), none⟩) (lt_of_cell this)]
          exact this)
        have hok := HOK.out _ (List.getElem_mem hlt)
        have hal := HAL.out _ (List.getElem_mem hlt)
        obtain ⟨pk, ck, hkv, -, -⟩ := hok.row.form
        have HKV := Lib.hid hkv
        have HN := Lib.hid hok.n
        have hj2 : (j : Int) < (l.length : Int) := by omega
        clear hok hkv HC hc1 hc2
        generalize l[j] = x at *
        obtain ⟨xk, xa, xb, xn, xc, xv, xks⟩ := x
        have hxv : xv = .slice pk (xks.map (Value.int .i64)).length ck := HKV.out
        subst hxv
        generalize (xks.map (Value.int .i64)).length = nk at *
        simp only at hal
        have HRG := Lib.hid (show wr.rangeAt pb (off + j * 6) [.int .i64 xk, .string (bstr xa), .string (bstr xb), .int .i64 xn, .int .i64 xc, .slice pk nk ck] from HRG.out)
        have ha1 := bstr_toList xa
        have hb1 := bstr_toList xb
        go_upto_region 13 with (refine wpList_ldR rfl actM HRG.out _ rfl rfl ?_)
        generalize hW : World.alloc wr _ = y1
        have HKy := Lib.hid (show Keeps wr y1 from by rw [← hW]; exact (Keeps.refl _).alloc _)
        have HBy := Lib.hid (show Blk y1 wr.heap.size 36 #[.int .i64 xk, .string (bstr xa), .string (bstr xb), .int .i64 xn, .int .i64 xc, .slice pk nk ck] from by rw [← hW]; exact Blk.new _ _ _ rfl)
        clear hW
        have HTy := Lib.hid (HT.out.keeps HKy.out)
        obtain ⟨q, hq⟩ : ∃ q, q = wr.heap.size := ⟨_, rfl⟩
        rw [← hq] at HBy ⊢
        clear hq
        have q0 : y1.cell? ⟨q, 0, none⟩ = some (.int .i64 xk) := by rw [HBy.out.cell]; rfl
        have q1 : y1.cell? ⟨q, 1, none⟩ = some (.string (bstr xa)) := by rw [HBy.out.cell]; rfl
        have q2 : y1.cell? ⟨q, 2, none⟩ = some (.string (bstr xb)) := by rw [HBy.out.cell]; rfl
        have HSK : Hid (∃ (j' : Nat) (d : Dsk) (r : RDsk), (j : Int) + 1 = (j' : Int) ∧ j' ≤ l.length ∧ Hid (TwoAt [] W y1 g d m r (5 + 6 * j')) ∧ Hid (Kept0 b more d)) := Lib.hid ⟨j + 1, d, r, by omega, by omega, Lib.hid (HTy.out.more (by omega)), HKE⟩
        by_cases hA : xa = [115]
        · have e1 : (xa == [115]) = true := by simp [hA]
          clear hA
          go_wp2_with fail
          go_roundw
          case rel => obtain ⟨j', d', r', hj', h2, h3, h4⟩ := HSK.out; exact ⟨j', d', r', by rw [hj'], h2, h3, h4⟩
          case measure => simp only [RowKit.intOf]; omega
        have e1 : (xa == [115]) = false := by simp [hA]
        have HA := Lib.hid hA
        clear hA
        by_cases hB : xb = [115]
        · have e2 : (xb == [115]) = true := by simp [hB]
          clear hB
          go_wp2_with fail
          go_roundw
          case rel => obtain ⟨j', d', r', hj', h2, h3, h4⟩ := HSK.out; exact ⟨j', d', r', by rw [hj'], h2, h3, h4⟩
          case measure => simp only [RowKit.intOf]; omega
        have e2 : (xb == [115]) = false := by simp [hB]
        have HB := Lib.hid hB
        clear hB
        by_cases hK : xk = 9
        · have e3 : (xk != 9) = false := by simp [hK]
          have e4 : (xk == 9) = true := by simp [hK]
          clear hK
          go_wp2_with fail
          go_roundw
          case rel => obtain ⟨j', d', r', hj', h2, h3, h4⟩ := HSK.out; exact ⟨j', d', r', by rw [hj'], h2, h3, h4⟩
          case measure => simp only [RowKit.intOf]; omega
        have e3 : (xk != 9) = true := by simp [hK]
        have e4 : (xk == 9) = false := by simp [hK]
        have HD : Hid (Calls Try.prog 19 #[.pointer (some ⟨g, 0, none⟩), .pointer (some ⟨m, 0, none⟩), .agg #[.int .i64 xk, .string (bstr xa), .string (bstr xb), .int .i64 xn, .int .i64 xc, .slice pk nk ck]] y1 (TwoDo W g (actD d ⟨xk, xa, xb, xn, xc, .slice pk nk ck, xks⟩) m (5 + 6 * j + 6))) := Lib.hid (do_two HTy.out (by omega) ⟨xk, xa, xb, xn, xc, .slice pk nk ck, xks⟩ hK (by show xa.length ≤ 1000; omega) (by show xb.length ≤ 1000; omega) HN.out rfl)
        have HKA := Lib.hid (kept_act HKE.out ⟨xk, xa, xb, xn, xc, .slice pk nk ck, xks⟩ HA.out HB.out)
        generalize actD d ⟨xk, xa, xb, xn, xc, .slice pk nk ck, xks⟩ = d' at *
        unfold TwoDo at HD
        clear hK HSK
        go_upto_region 14 with fail
        go_wp2_with (refine wpList_ld rfl actM HBy.out _ rfl rfl ?_)
        refine HD.out.mono ?_
        rintro e y2 ⟨bv, r', rfl, h2⟩
        have H2 := Lib.hid h2
        clear h2 HD q0 q1 q2
        go_wp2_with fail
        go_roundw
        case rel => exact ⟨j + 1, d', r', by simp, by omega, Lib.hid (H2.out.more (by omega)), HKA⟩
        case measure => simp only [RowKit.intOf]; omega
      · have hjn : j = l.length := by omega
        have hlt' : decide ((j : Int) < (l.length : Int)) = false := by simp; omega
        have HTE := Lib.hid (HT.out.more (show 5 + 6 * j ≤ 400 by omega))
        clear hjn HT
        go_wp2_with fail
        refine (crash_two HTE.out 0).mono ?_
        rintro e y1 ⟨rfl, h2, -⟩
        have H1 := Lib.hid h2
        have HKC := Lib.hid (kept_traps HKE.out d.fail (setT 0 11))
        have HOF := Lib.hid (last_off d [110, 111, 110, 101])
        have HKS := Lib.hid (kept_sync (x := [110, 111, 110, 101]) HKC.out (by simp))
        clear h2 hlt' HTE
        have HKS := Lib.hid (show Kept0 b more (syncD { d with crash := setT 0 11 } [110, 111, 110, 101]).1 from HKS.out)
        have HC := Lib.hid (sync_two H1.out (by omega) [110, 111, 110, 101] (by decide))
        generalize syncD { d with crash := setT 0 11 } [110, 111, 110, 101] = s at *
        obtain ⟨ds, es⟩ := s
        go_wp2_with fail
        refine HC.out.mono ?_
        rintro e y2 ⟨rfl, h2, -⟩
        have H2 := Lib.hid h2
        clear h2 HC H1 HKC
        have HDN := Lib.hid (down_two H2.out)
        rw [show ds.off = true from HOF.out] at HDN
        have HBT := Lib.hid (boot_two H2.out (by omega) t HWF.out (fun w' hk => HR4.out.keeps hk))
        rw [boot_off HOF.out] at HBT
        obtain ⟨z, hz⟩ := kept_boot HKS.out HOF.out t ks
        have HZ := Lib.hid hz
        clear hz
        go_wp2_with fail
        refine HDN.out.mono ?_
        rintro e y2' ⟨rfl, rfl⟩
        go_wp2_with fail
        refine HBT.out.mono ?_
        rintro e y3 ⟨rfl, h2, -⟩
        have H3 := Lib.hid h2
        clear h2 HBT HDN
        have HRD := Lib.hid (read_two H3.out [115] (by decide))
        rw [HZ.out] at HRD
        unfold Vd.ReadDid at HRD
        have hcl : (b ++ more.take z).length ≤ (b ++ more).length ∧ b.length ≤ (b ++ more.take z).length := by
          simp
          omega
        have HCE := Lib.hid (show (b ++ more).take (b ++ more.take z).length = b ++ more.take z from by
          rw [List.length_append, List.take_append, List.take_of_length_le (by omega)]
          congr 1
          rw [Nat.add_sub_cancel_left, List.take_eq_take_iff]
          simp)
        have hal : (b ++ more).length ≤ 2000 := by simp; omega
        generalize b ++ more.take z = c at *
        go_wp2_with fail
        refine HRD.out.mono ?_
        rintro e y4 ⟨v, rfl, hr, hk⟩
        obtain ⟨pv, cv, rfl, -, -⟩ := hr.formB
        have HE := Lib.hid (H3.out.kp.trans hk)
        have HRV := Lib.hid hr
        clear hr hk HRD H2 H3
        have hc1 := Frm.str_at' (HR0.out.keeps HE.out)
        have hc2 := Frm.str_at' (HR1.out.keeps HE.out)
        have hcat : bstr b ++ bstr more = bstr (b ++ more) := bstr_cat _ _
        have hs1 := bstr_size b
        have hs2 := bstr_size more
        have hs3 := bstr_size (b ++ more)
        generalize b ++ more = all at *
        go_upto_region 21 with fail
        have t1 : decide ((b.length : Int) ≤ (c.length : Int)) = true := by simp; omega
        have t2 : decide (b.length ≤ c.length) = true := by simp; omega
        have t3 : decide ((c.length : Int) ≤ (all.length : Int)) = true := by simp; omega
        have t4 : decide (c.length ≤ all.length) = true := by simp; omega
        have HCU := Lib.hid (fun w' => (run_cut_str all c.length (by omega) w').trans (by rw [HCE.out]))
        have heq : ((bstr c).toList == (bstr c).toList) = true := by simp
        clear hc1 hc2 hcat
        refine wp_region_noPanic ?_
        refine wp_region_held_drew (S := fun w' => Keeps (y4) w') (by kernel_rfl) ((Keeps.refl _).drew) (fun _ => ?_)
        have hHeld : Keeps (y4) (y4).drew := (Keeps.refl _).drew
        refine wpAnyH_take (i := 0) (v := ?vv1) (by rfl) (by kernel_rfl) (by kernel_rfl) (by kernel_rfl) (by intro _ _ _ h; exact h) (Or.inl ⟨by kernel_rfl, ?hy1⟩) (by assumption) ?rest1
        case hy1 =>
          intro w' hSw
          have hSw : Keeps _ w' := hSw
          clear hSw
          go_simp
          try with_reducible rfl
        change wpAnyH _ _ _ _ _ _ _ (Act.put _ (some 115) _) _
        try simp only [Act.put, List.setIfInBounds_toArray, List.set_cons_zero, List.set_cons_succ]
        refine wpAnyH_take (i := 1) (v := ?vv2) (by rfl) (by kernel_rfl) (by kernel_rfl) (by kernel_rfl) (by intro _ _ _ h; exact h) (Or.inl ⟨by kernel_rfl, ?hy2⟩) (by assumption) ?rest2
        case hy2 =>
          intro w' hSw
          have hSw : Keeps _ w' := hSw
          clear hSw
          go_simp
          try with_reducible rfl
        change wpAnyH _ _ _ _ _ _ _ (Act.put _ (some 116) _) _
        try simp only [Act.put, List.setIfInBounds_toArray, List.set_cons_zero, List.set_cons_succ]
        refine wpAnyH_take (i := 2) (v := ?vv3) (by rfl) (by kernel_rfl) (by kernel_rfl) (by kernel_rfl) (by intro _ _ _ h; exact h) (Or.inl ⟨by kernel_rfl, ?hy3⟩) (by assumption) ?rest3
        case hy3 =>
          intro w' hSw
          have hSw : Keeps _ w' := hSw
          clear hSw
          go_simp
          try with_reducible rfl
        change wpAnyH _ _ _ _ _ _ _ (Act.put _ (some 117) _) _
        try simp only [Act.put, List.setIfInBounds_toArray, List.set_cons_zero, List.set_cons_succ]
        refine wpAnyH_take (i := 3) (v := ?vv4) (by rfl) (by kernel_rfl) (by kernel_rfl) (by kernel_rfl) (by intro _ _ _ h; exact h) (Or.inl ⟨by kernel_rfl, ?hy4⟩) (by assumption) ?rest4
        case hy4 =>
          intro w' hSw
          have hSw : Keeps _ w' := hSw
          clear hSw
          go_simp
          try with_reducible rfl
        change wpAnyH _ _ _ _ _ _ _ (Act.put _ (some 118) _) _
        try simp only [Act.put, List.setIfInBounds_toArray, List.set_cons_zero, List.set_cons_succ]
        refine wpAnyH_take (i := 4) (v := ?vv5) (by rfl) (by kernel_rfl) (by kernel_rfl) (by kernel_rfl) (by intro _ _ _ h; exact h) (Or.inl ⟨by kernel_rfl, ?hy5⟩) (by assumption) ?rest5
        case hy5 =>
          intro w' hSw
          have hSw : Keeps _ w' := hSw
          clear hSw
          go_simp
          try with_reducible rfl
        change wpAnyH _ _ _ _ _ _ _ (Act.put _ (some 119) _) _
        try simp only [Act.put, List.setIfInBounds_toArray, List.set_cons_zero, List.set_cons_succ]
        refine wpAnyH_take (i := 5) (v := ?vv6) (by rfl) (by kernel_rfl) (by kernel_rfl) (by kernel_rfl) (by intro _ _ _ h; exact h) (Or.inl ⟨by kernel_rfl, ?hy6⟩) (by assumption) ?rest6
        case hy6 =>
          intro w' hSw
          have hSw : Keeps _ w' := hSw
          clear hSw
          go_simp
          try with_reducible rfl
        change wpAnyH _ _ _ _ _ _ _ (Act.put _ (some 120) _) _
        try simp only [Act.put, List.setIfInBounds_toArray, List.set_cons_zero, List.set_cons_succ]
        refine wpAnyH_take (i := 6) (v := ?vv7) (by rfl) (by kernel_rfl) (by kernel_rfl) (by kernel_rfl) (by intro _ _ _ h; exact h) (Or.inl ⟨by kernel_rfl, ?hy7⟩) (by assumption) ?rest7
        case hy7 =>
          intro w' hSw
          have hSw : Keeps _ w' := hSw
          clear hSw
          go_simp
          try with_reducible rfl
        change wpAnyH _ _ _ _ _ _ _ (Act.put _ (some 121) _) _
        try simp only [Act.put, List.setIfInBounds_toArray, List.set_cons_zero, List.set_cons_succ]
        refine wpAnyH_take (i := 7) (v := ?vv8) (by rfl) (by kernel_rfl) (by kernel_rfl) (by kernel_rfl) (by intro _ _ _ h; exact h) (Or.inl ⟨by kernel_rfl, ?hy8⟩) (by assumption) ?rest8
        case hy8 =>
          intro w' hSw
          have hSw : Keeps _ w' := hSw
          clear hSw
          go_simp
          try with_reducible rfl
        change wpAnyH _ _ _ _ _ _ _ (Act.put _ (some 122) _) _
        try simp only [Act.put, List.setIfInBounds_toArray, List.set_cons_zero, List.set_cons_succ]
        refine wpAnyH_take (i := 8) (v := ?vv9) (by rfl) (by kernel_rfl) (by kernel_rfl) (by kernel_rfl) (by intro _ _ _ h; exact h) (Or.inl ⟨by kernel_rfl, ?hy9⟩) (by assumption) ?rest9
        case hy9 =>
          intro w' hSw
          have hSw : Keeps _ w' := hSw
          clear hSw
          go_simp
          try with_reducible rfl
        change wpAnyH _ _ _ _ _ _ _ (Act.put _ (some 123) _) _
        try simp only [Act.put, List.setIfInBounds_toArray, List.set_cons_zero, List.set_cons_succ]
        refine wpAnyH_take (i := 9) (v := ?vv10) (by rfl) (by kernel_rfl) (by kernel_rfl) (by kernel_rfl) (by intro _ _ _ h; exact h) (Or.inl ⟨by kernel_rfl, ?hy10⟩) (by assumption) ?rest10
        case hy10 =>
          intro w' hSw
          have hSw : Keeps _ w' := hSw
          clear hSw
          go_simp
          try with_reducible rfl
        change wpAnyH _ _ _ _ _ _ _ (Act.put _ (some 124) _) _
        try simp only [Act.put, List.setIfInBounds_toArray, List.set_cons_zero, List.set_cons_succ]
        refine wpAnyH_take (i := 10) (v := ?vv11) (by rfl) (by kernel_rfl) (by kernel_rfl) (by kernel_rfl) (by intro _ _ _ h; exact h) (Or.inl ⟨by kernel_rfl, ?hy11⟩) (by assumption) ?rest11
        case hy11 =>
          intro w' hSw
          have hSw : Keeps _ w' := hSw
          clear hSw
          go_simp
          try with_reducible rfl
        change wpAnyH _ _ _ _ _ _ _ (Act.put _ (some 125) _) _
        try simp only [Act.put, List.setIfInBounds_toArray, List.set_cons_zero, List.set_cons_succ]
        refine wpAnyH_take (i := 11) (v := ?vv12) (by rfl) (by kernel_rfl) (by kernel_rfl) (by kernel_rfl) (by intro _ _ _ h; exact h) (Or.inl ⟨by kernel_rfl, ?hy12⟩) (by assumption) ?rest12
        case hy12 =>
          intro w' hSw
          have hSw : Keeps _ w' := hSw
          clear hSw
          go_simp
          try with_reducible rfl
        change wpAnyH _ _ _ _ _ _ _ (Act.put _ (some 126) _) _
        try simp only [Act.put, List.setIfInBounds_toArray, List.set_cons_zero, List.set_cons_succ]
        refine wpAnyH_take (i := 12) (v := ?vv13) (by rfl) (by kernel_rfl) (by kernel_rfl) (by kernel_rfl) (by intro _ _ _ h; exact h) (Or.inl ⟨by kernel_rfl, ?hy13⟩) (by assumption) ?rest13
        case hy13 =>
          intro w' hSw
          have hSw : Keeps _ w' := hSw
          clear hSw
          go_simp
          try with_reducible rfl
        change wpAnyH _ _ _ _ _ _ _ (Act.put _ (some 127) _) _
        try simp only [Act.put, List.setIfInBounds_toArray, List.set_cons_zero, List.set_cons_succ]
        refine wpAnyH_take (i := 13) (v := ?vv14) (by rfl) (by kernel_rfl) (by kernel_rfl) (by kernel_rfl) (by intro _ _ _ h; exact h) (Or.inl ⟨by kernel_rfl, ?hy14⟩) (by assumption) ?rest14
        case hy14 =>
          intro w' hSw
          have hSw : Keeps _ w' := hSw
          clear hSw
          go_simp
          try with_reducible rfl
        change wpAnyH _ _ _ _ _ _ _ (Act.put _ (some 128) _) _
        try simp only [Act.put, List.setIfInBounds_toArray, List.set_cons_zero, List.set_cons_succ]
        refine wpAnyH_take (i := 14) (v := ?vv15) (by rfl) (by kernel_rfl) (by kernel_rfl) (by kernel_rfl) (by intro _ _ _ h; exact h) (Or.inl ⟨by kernel_rfl, ?hy15⟩) (by assumption) ?rest15
        case hy15 =>
          intro w' hSw
          have hSw : Keeps _ w' := hSw
          clear hSw
          go_simp
          try with_reducible rfl
        change wpAnyH _ _ _ _ _ _ _ (Act.put _ (some 129) _) _
        try simp only [Act.put, List.setIfInBounds_toArray, List.set_cons_zero, List.set_cons_succ]
        refine wpAnyH_take (i := 15) (v := ?vv16) (by rfl) (by kernel_rfl) (by kernel_rfl) (by kernel_rfl) (by intro _ _ _ h; exact h) (Or.inl ⟨by kernel_rfl, ?hy16⟩) (by assumption) ?rest16
        case hy16 =>
          intro w' hSw
          have hSw : Keeps _ w' := hSw
          clear hSw
          go_simp
          try with_reducible rfl
        change wpAnyH _ _ _ _ _ _ _ (Act.put _ (some 130) _) _
        try simp only [Act.put, List.setIfInBounds_toArray, List.set_cons_zero, List.set_cons_succ]
        refine wpAnyH_take (i := 16) (v := ?vv17) (by rfl) (by kernel_rfl) (by kernel_rfl) (by kernel_rfl) (by intro _ _ _ h; exact h) (Or.inl ⟨by kernel_rfl, ?hy17⟩) (by assumption) ?rest17
        case hy17 =>
          intro w' hSw
          have hSw : Keeps _ w' := hSw
          clear hSw
          go_simp
          try with_reducible rfl
        change wpAnyH _ _ _ _ _ _ _ (Act.put _ (some 131) _) _
        try simp only [Act.put, List.setIfInBounds_toArray, List.set_cons_zero, List.set_cons_succ]
        refine wpAnyH_take (i := 17) (v := ?vv18) (by rfl) (by kernel_rfl) (by kernel_rfl) (by kernel_rfl) (by intro _ _ _ h; exact h) (Or.inl ⟨by kernel_rfl, ?hy18⟩) (by assumption) ?rest18
        case hy18 =>
          intro w' hSw
          have hSw : Keeps _ w' := hSw
          clear hSw
          go_simp
          try with_reducible rfl
        change wpAnyH _ _ _ _ _ _ _ (Act.put _ (some 132) _) _
        try simp only [Act.put, List.setIfInBounds_toArray, List.set_cons_zero, List.set_cons_succ]
        refine wpAnyH_take (i := 18) (v := ?vv19) (by rfl) (by kernel_rfl) (by kernel_rfl) (by kernel_rfl) (by intro _ _ _ h; exact h) (Or.inl ⟨by kernel_rfl, ?hy19⟩) (by assumption) ?rest19
        case hy19 =>
          intro w' hSw
          have hSw : Keeps _ w' := hSw
          have hc := Frm.str_at' (HRV.out.keeps hSw)
          clear hSw
          go_simp
          try with_reducible rfl
        change wpAnyH _ _ _ _ _ _ _ (Act.put _ (some 133) _) _
        try simp only [Act.put, List.setIfInBounds_toArray, List.set_cons_zero, List.set_cons_succ]
        refine wpAnyH_take (i := 19) (v := ?vv20) (by rfl) (by kernel_rfl) (by kernel_rfl) (by kernel_rfl) (by intro _ _ _ h; exact h) (Or.inl ⟨by kernel_rfl, ?hy20⟩) (by assumption) ?rest20
        case hy20 =>
          intro w' hSw
          have hSw : Keeps _ w' := hSw
          clear hSw
          go_simp
          try with_reducible rfl
        change wpAnyH _ _ _ _ _ _ _ (Act.put _ (some 134) _) _
        try simp only [Act.put, List.setIfInBounds_toArray, List.set_cons_zero, List.set_cons_succ]
        refine wpAnyH_take (i := 20) (v := ?vv21) (by rfl) (by kernel_rfl) (by kernel_rfl) (by kernel_rfl) (by intro _ _ _ h; exact h) (Or.inl ⟨by kernel_rfl, ?hy21⟩) (by assumption) ?rest21
        case hy21 =>
          intro w' hSw
          have hSw : Keeps _ w' := hSw
          clear hSw
          go_simp
          try with_reducible rfl
        change wpAnyH _ _ _ _ _ _ _ (Act.put _ (some 135) _) _
        try simp only [Act.put, List.setIfInBounds_toArray, List.set_cons_zero, List.set_cons_succ]
        refine wpAnyH_take (i := 21) (v := ?vv22) (by rfl) (by kernel_rfl) (by kernel_rfl) (by kernel_rfl) (by intro _ _ _ h; exact h) (Or.inl ⟨by kernel_rfl, ?hy22⟩) (by assumption) ?rest22
        case hy22 =>
          intro w' hSw
          have hSw : Keeps _ w' := hSw
          clear hSw
          go_simp
          try with_reducible rfl
        change wpAnyH _ _ _ _ _ _ _ (Act.put _ (some 136) _) _
        try simp only [Act.put, List.setIfInBounds_toArray, List.set_cons_zero, List.set_cons_succ]
        refine wpAnyH_take (i := 22) (v := ?vv23) (by rfl) (by kernel_rfl) (by kernel_rfl) (by kernel_rfl) (by intro _ _ _ h; exact h) (Or.inl ⟨by kernel_rfl, ?hy23⟩) (by assumption) ?rest23
        case hy23 =>
          intro w' hSw
          have hSw : Keeps _ w' := hSw
          have hc := HCU.out w'
          clear hSw
          go_simp
          try with_reducible rfl
        change wpAnyH _ _ _ _ _ _ _ (Act.put _ (some 137) _) _
        try simp only [Act.put, List.setIfInBounds_toArray, List.set_cons_zero, List.set_cons_succ]
        refine wpAnyH_take (i := 23) (v := ?vv24) (by rfl) (by kernel_rfl) (by kernel_rfl) (by kernel_rfl) (by intro _ _ _ h; exact h) (Or.inl ⟨by kernel_rfl, ?hy24⟩) (by assumption) ?rest24
        case hy24 =>
          intro w' hSw
          have hSw : Keeps _ w' := hSw
          clear hSw
          go_simp
          try with_reducible rfl
        change wpAnyH _ _ _ _ _ _ _ (Act.put _ (some 138) _) _
        try simp only [Act.put, List.setIfInBounds_toArray, List.set_cons_zero, List.set_cons_succ]
        refine wpAnyH_take (i := 24) (v := ?vv25) (by rfl) (by kernel_rfl) (by kernel_rfl) (by kernel_rfl) (by intro _ _ _ h; exact h) (Or.inl ⟨by kernel_rfl, ?hy25⟩) (by assumption) ?rest25
        case hy25 =>
          intro w' hSw
          have hSw : Keeps _ w' := hSw
          clear hSw
          go_simp
          try with_reducible rfl
        change wpAnyH _ _ _ _ _ _ _ (Act.put _ (some 139) _) _
        try simp only [Act.put, List.setIfInBounds_toArray, List.set_cons_zero, List.set_cons_succ]
        refine wpAnyH_take (i := 25) (v := ?vv26) (by rfl) (by kernel_rfl) (by kernel_rfl) (by kernel_rfl) (by intro _ _ _ h; exact h) (Or.inl ⟨by kernel_rfl, ?hy26⟩) (by assumption) ?rest26
        case hy26 =>
          intro w' hSw
          have hSw : Keeps _ w' := hSw
          clear hSw
          go_simp
          try with_reducible rfl
        change wpAnyH _ _ _ _ _ _ _ (Act.put _ (some 10) _) _
        try simp only [Act.put, List.setIfInBounds_toArray, List.set_cons_zero, List.set_cons_succ]
        refine wpAnyH_done (by kernel_rfl) ?_ _
        refine NoPanic.normal ?_
        go_wp2_with fail
        go_ret
        exact ⟨rfl, HE.out.drew⟩
end
end Rf
end Go.Proofs.Ytchjncnolmiejaa

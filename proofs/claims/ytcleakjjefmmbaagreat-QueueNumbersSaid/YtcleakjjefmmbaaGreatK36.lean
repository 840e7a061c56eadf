/- Several texts in one: QuWhnPl, QuJobPl, QuReadPl, QuBootPl, QuOffPl, RsTidy. -/
import Derived.Test.YtcleakjjefmmbaaGreatK35
import Derived.Test.YtcleakjjefmmbaaGreatK00
import Derived.Test.YtcleakjjefmmbaaGreatK15
import Derived.Test.YtcleakjjefmmbaaGreatK32
/- queue, plain: files that are of a kind whenever they are there. -/
namespace Go.Proofs.YtcleakjjefmmbaaGreat
open Go.RowKit
namespace Que
open Vd Sf
section
variable {C : Nod → Prop} {d d' : Dsk} {x y z b : Str}
theorem whn_same (h : Whn C x d) (e2 : d'.nodes = d.nodes) (e3 : d'.sure = d.sure) (e4 : d'.moves = d.moves) : Whn C x d' := fun j i hi => by
 obtain ⟨nd, h1, h2⟩ := h j i (by unfold gaveN at hi ⊢; rw [e4, e3] at hi; exact hi)
 exact ⟨nd, by rw [e2]; exact h1, h2⟩
theorem whn_change (h : Whn C x d) : Whn C x (changeD d).1 := by
 obtain ⟨e1, e2, e3, e4, -⟩ := changeD_seen d
 exact whn_same h e2 e3 e4
theorem whn_node (h : Whn C x d) (i : Nat) (f : Nod → Nod) (hf : ∀ n, C n → C (f n)) : Whn C x { d with nodes := d.nodes.set i (f (d.nodes.getD i zeroN)) } := fun j k hk => by
 obtain ⟨nd, h1, h2⟩ := h j k hk
 by_cases e : i = k
 ·subst e
  refine ⟨f nd, ?_, hf nd h2⟩
  show (d.nodes.set i _)[i]? = _
  rw [List.getElem?_set_self (List.getElem?_eq_some_iff.1 h1).1, List.getD_eq_getElem?_getD, h1]
  rfl
 ·refine ⟨nd, ?_, h2⟩
  show (d.nodes.set i _)[k]? = _
  rw [List.getElem?_set_ne e]
  exact h1
theorem whn_turn (hw : Wf d) (hx : x ≠ []) (h : Whn C x d) {m : Mv} (hm : m.name ≠ x ∨ ∃ nd, d.nodes[m.node]? = some nd ∧ C nd) : Whn C x (turnD d m) := fun j i hi => by
 rw [gave_turn] at hi
 split at hi
 ·exact h j i hi
 ·rw [gave_end hw (Nat.le_refl _), look_give hw.names m hx] at hi
  split at hi
  ·rename_i e
   rcases hm with hm | ⟨nd, h1, h2⟩
   ·exact absurd e hm
   ·simp only [Option.some.injEq] at hi
    subst hi
    exact ⟨nd, h1, h2⟩
  ·refine h d.moves.length i ?_
   rw [gave_end hw (Nat.le_refl _)]
   exact (Option.filter_eq_some_iff.1 hi).1
theorem whn_fix (hw : Wf d) (hC : Closed C) (h : Whn C x d) : Whn C x (fixD d) := fun j i hi => by
 have e : gaveN (fixD d) j = d.seen := by unfold gaveN fixD; simp
 rw [e, ← gave_end hw (Nat.le_refl _)] at hi
 obtain ⟨nd, h1, h2⟩ := h _ i hi
 refine ⟨staleN nd, ?_, hC.stale nd h2⟩
 show (d.nodes.map staleN)[i]? = _
 rw [List.getElem?_map, h1]
 rfl
theorem whn_boot (hC : Closed C) (h : Whn C x d) (t : Int) (ks : List Int) : Whn C x (bootD d t ks).1 := by
 unfold bootD
 split
 ·exact h
 ·intro j i hi
  have hi : Vd.look (gaveN d t.toNat) x = some i := by
   unfold gaveN at hi ⊢
   simpa [fixD] using hi
  obtain ⟨nd, h1, h2⟩ := h _ i hi
  obtain ⟨nd', h4, h5⟩ := boots_keep hC (knownL d) d.nodes ks i nd h1 h2
  refine ⟨staleN nd', ?_, hC.stale nd' h5⟩
  show (((bootIx (knownL d) d.nodes ks).1).map staleN)[i]? = _
  rw [List.getElem?_map, h4]
  rfl
/-- a call that leaves a file so -/
def WPres (C : Nod → Prop) (x : Str) (f : Dsk → Dsk × Int) : Prop := ∀ d, Wf d → Whn C x d → Whn C x (f d).1
theorem whn_create (hx : x ≠ []) (hxy : x ≠ y) : WPres C x (fun d => createD d y) := fun d hw h => by
 obtain ⟨e1, e2, e3, e4, -⟩ := changeD_seen d
 show Whn C x (createD d y).1
 have hc := whn_change h
 unfold createD
 split
 ·exact hc
 ·split
  ·exact hc
  ·split
   ·exact hc
   ·split
    ·exact hc
    ·have hw1 := (step_change (fun _ => False) d).wf hw
     have hwb : Wf (bornD (changeD d).1) := by
      refine ⟨hw1.seen, hw1.sure.more (by simp [bornD]), fun m hm => Nat.lt_of_lt_of_le (hw1.im m hm) (by simp [bornD]), fun m hm => ?_⟩
      rcases hw1.kn m hm with h1 | ⟨nd, h1, h2⟩
      ·exact .inl h1
      ·refine .inr ⟨nd, ?_, h2⟩
       show ((changeD d).1.nodes ++ [newN])[m.node]? = _
       rw [List.getElem?_append_left (List.getElem?_eq_some_iff.1 h1).1]
       exact h1
     refine whn_turn hwb hx (fun j i hi => ?_) (.inl (fun e => hxy e.symm))
     obtain ⟨nd, h1, h2⟩ := hc j i hi
     refine ⟨nd, ?_, h2⟩
     show ((changeD d).1.nodes ++ [newN])[i]? = _
     rw [List.getElem?_append_left (List.getElem?_eq_some_iff.1 h1).1]
     exact h1
theorem whn_append (hC : Closed C) (y b : Str) : WPres C x (fun d => appendD d y b) := fun d hw h => by
 show Whn C x (appendD d y b).1
 have hc := whn_change h
 unfold appendD
 split
 ·rw [touch_fst']; exact hc
 ·unfold writeD
  split
  ·rw [touch_fst']; exact hc
  ·rw [touch_fst']
   exact whn_node hc (touchD d y).2.1 (fun n => wroteN n ⟨n.seen.length, b⟩) (fun n hn => hC.wrote n b hn)
theorem whn_sync (hC : Closed C) (y : Str) : WPres C x (fun d => syncD d y) := fun d hw h => by
 show Whn C x (syncD d y).1
 have hc := whn_change h
 unfold syncD
 split
 ·rw [touch_fst']; exact hc
 ·rw [touch_fst']
  exact whn_node hc (touchD d y).2.1 settleN (fun n hn => hC.settle n hn)
theorem whn_unlink (hx : x ≠ []) (y : Str) : WPres C x (fun d => unlinkD d y) := fun d hw h => by
 show Whn C x (unlinkD d y).1
 have hc := whn_change h
 unfold unlinkD
 split
 ·rw [touch_fst']; exact hc
 ·rw [touch_fst']
  exact whn_turn ((step_change (fun _ => False) d).wf hw) hx hc (.inl (fun e => hx e.symm))
theorem whn_rename (hx : x ≠ []) (hxz : x ≠ z) : WPres C x (fun d => renameD d y z) := fun d hw h => by
 show Whn C x (renameD d y z).1
 have hc := whn_change h
 unfold renameD
 split
 ·exact hc
 ·split
  ·exact hc
  ·split
   ·exact whn_turn ((step_change (fun _ => False) d).wf hw) hx hc (.inl (fun e => hxz e.symm))
   ·exact hc
theorem whn_syncDir (hC : Closed C) : WPres C x syncDirD := fun d hw h => by
 unfold syncDirD
 split
 ·exact whn_change h
 ·exact whn_fix ((step_change (fun _ => False) d).wf hw) hC (whn_change h)
theorem wp_then {f g : Dsk → Dsk × Int} {Y : Str → Prop} (hs : ∀ d, Step Y d (f d).1) (hf : WPres C x f) (hg : WPres C x g) : WPres C x (fun d => thenD (f d) g) := fun d hw h => by
 show Whn C x (thenD (f d) g).1
 unfold thenD
 split
 ·exact hg _ ((hs d).wf hw) (hf d hw h)
 ·exact hf d hw h
theorem wp_twice {f : Dsk → Dsk × Int} {Y : Str → Prop} (hs : ∀ d, Step Y d (f d).1) (hf : WPres C x f) : WPres C x (Sf.twice f) := fun d hw h => by
 unfold Sf.twice
 split
 ·exact hf d hw h
 ·exact hf _ ((hs d).wf hw) (hf d hw h)
theorem wp_sAppend (hC : Closed C) (y b : Str) : WPres C x (sAppend y b) := wp_then (f := fun d => appendD d y b) (g := sSync y) (fun d => step_append d y b) (whn_append hC y b) (wp_twice (fun d => step_sync d y) (whn_sync hC y))
theorem wp_sDir (hC : Closed C) : WPres C x sDir := wp_twice (fun d => step_syncDir (fun _ => False) d) (whn_syncDir hC)
theorem wp_sUnlink (hx : x ≠ []) (y : Str) : WPres C x (sUnlink y) := wp_twice (fun d => step_unlink d y) (whn_unlink hx y)
theorem wp_sMake (hC : Closed C) (hx : x ≠ []) (hxy : x ≠ y) (b : Str) : WPres C x (sMake y b) := fun d hw h => by
 unfold sMake
 split
 ·exact h
 ·have h1 := whn_create hx hxy d hw h
  have hw1 := (step_create d y).wf hw
  split
  ·exact h1
  ·have h2 := wp_then (f := sAppend y b) (g := sDir) (fun d => step_sAppend d y b) (wp_sAppend hC y b) (wp_sDir hC) _ hw1 h1
   unfold tidyD
   split
   ·exact h2
   ·exact wp_sUnlink hx y _ ((step_then (step_sAppend _ y b) (step_sDir _)).wf hw1) h2
theorem wp_sDrop (hC : Closed C) (hx : x ≠ []) (y : Str) : WPres C x (sDrop y) := fun d hw h => by
 unfold sDrop
 split
 ·exact h
 ·exact wp_then (f := fun d => unlinkD d y) (g := sDir) (fun d => step_unlink d y) (whn_unlink hx y) (wp_sDir hC) d hw h
theorem wp_unlinks (hx : x ≠ []) : ∀ l, WPres C x (unlinksD l)
 | [] => fun d hw h => h
 |y :: l => fun d hw h => by
  have h1 := whn_unlink hx y d hw h
  unfold unlinksD
  split
  ·exact h1
  ·exact wp_unlinks hx l _ ((step_unlink d y).wf hw) h1
theorem wp_sTidy (hx : x ≠ []) (p : Str) : WPres C x (sTidy p) := fun d hw h => by
 unfold sTidy
 split
 ·exact h
 ·exact wp_unlinks hx _ d hw h
/-- Swap, of this file or another -/
theorem wp_sSwap (hC : Closed C) (hx : x ≠ []) (hxn : x ≠ y ++ dotN) (b : Str) (hb : x ≠ y ∨ ∀ nd : Nod, nd.seen = b → nd.sure = b → nd.pats = [] → C nd) : WPres C x (sSwap y b) := fun d hw h => by
 have hyn : y ++ dotN ≠ [] := by simp [dotN]
 have h1 : WPres C x (sSwap1 y (y ++ dotN) b) := fun d hw h => by
  have a1 : Whn C x (thenD (createD d (y ++ dotN)) (sAppend (y ++ dotN) b)).1 := wp_then (f := fun d => createD d (y ++ dotN)) (g := sAppend (y ++ dotN) b) (fun d => step_create d _) (whn_create hx hxn) (wp_sAppend hC _ b) d hw h
  have w1 : Wf (thenD (createD d (y ++ dotN)) (sAppend (y ++ dotN) b)).1 := (step_then (step_create d _) (fun d => step_sAppend d _ b)).wf hw
  have hok : (thenD (createD d (y ++ dotN)) (sAppend (y ++ dotN) b)).2 = 0 → HasN (y ++ dotN) (fun nd => nd.seen = b ∧ nd.sure = b ∧ nd.pats = []) (thenD (createD d (y ++ dotN)) (sAppend (y ++ dotN) b)).1 := fun e => by
   obtain ⟨b1, b2, b3⟩ := then_ok e
   rw [b3]
   exact sappend_ok (s := []) ((create_ok hw hyn b1).mono (fun nd e => by rw [e]; rfl)) b2
  have a2 : Whn C x (thenD (thenD (createD d (y ++ dotN)) (sAppend (y ++ dotN) b)) (fun d => renameD d (y ++ dotN) y)).1 ∧ Wf (thenD (thenD (createD d (y ++ dotN)) (sAppend (y ++ dotN) b)) (fun d => renameD d (y ++ dotN) y)).1 := by
   refine ⟨?_, (step_then (Y := fun x => x = y ∨ x = y ++ dotN) ((step_then (step_create d _) (fun d => step_sAppend d _ b)).mono (fun _ e => .inr e)) (fun d => (step_rename d (y ++ dotN) y).mono (fun x e => e.elim .inr .inl))).wf hw⟩
   generalize thenD (createD d (y ++ dotN)) (sAppend (y ++ dotN) b) = r at *
   unfold thenD
   split
   ·rename_i h0
    show Whn C x (renameD r.1 (y ++ dotN) y).1
    rcases hb with hb | hb
    ·exact whn_rename hx hb r.1 w1 a1
    ·obtain ⟨i, nd, n1, n2, n3⟩ := hok h0
     have hc := whn_change a1
     have w2 := (step_change (fun _ => False) r.1).wf w1
     obtain ⟨e1, e2, e3, e4, -⟩ := changeD_seen r.1
     unfold renameD
     split
     ·exact hc
     ·split
      ·exact hc
      ·split
       ·rw [n1]
        exact whn_turn w2 hx hc (.inr ⟨nd, by rw [e2]; exact n2, hb nd n3.1 n3.2.1 n3.2.2⟩)
       ·exact hc
   ·exact a1
  obtain ⟨a2, w2⟩ := a2
  generalize hr2 : thenD (thenD (createD d (y ++ dotN)) (sAppend (y ++ dotN) b)) (fun d => renameD d (y ++ dotN) y) = r2 at *
  have a3 : Whn C x (thenD r2 sDir).1 ∧ Wf (thenD r2 sDir).1 := by
   unfold thenD
   split
   ·exact ⟨wp_sDir hC _ w2 a2, (step_sDir (fun _ => False) _).wf w2⟩
   ·exact ⟨a2, w2⟩
  show Whn C x (sSwap1 y (y ++ dotN) b d).1
  unfold sSwap1
  rw [show thenD (thenD (thenD (createD d (y ++ dotN)) (sAppend (y ++ dotN) b)) (fun d => renameD d (y ++ dotN) y)) sDir = thenD r2 sDir from by rw [hr2]]
  unfold tidyS
  split
  ·exact a3.1
  ·exact wp_sUnlink hx _ _ a3.2 a3.1
 unfold sSwap
 split
 ·exact h
 ·split
  ·have hu := whn_unlink hx (y ++ dotN) d hw h
   split
   ·exact hu
   ·exact h1 _ ((step_unlink d _).wf hw) hu
  ·exact h1 d hw h
end
end Que
end Go.Proofs.YtcleakjjefmmbaaGreat

/- queue, plain: a job's file, whatever stands behind the job. -/
namespace Go.Proofs.YtcleakjjefmmbaaGreat
open Go.RowKit
namespace Que
open Vd (Nod Pat overL bootN bootPats wroteN settleN staleN)
open Env (JobP envB envL bytesL goodJ stsL readR readF envR capId capT)
open Frm (wrapL rowN rowR atE atF at_put)
def preJ (j : JobP) : Str := wrapL 16 (envL j) ++ wrapL 17 j.body
theorem wrap_len {k : Nat} {p : Str} (hk : k ≤ 255) (hp : p.length ≤ 65536) : 1 ≤ (wrapL k p).length := Frm.wrapL_pos hk hp
theorem row_two {l : Str} {a b : Nat} {f g : Frm.Fr1} (h0 : atE l ((0 : Nat) : Int) = 0) (hf : atF l ((0 : Nat) : Int) = f) (fl : f.len = (a : Int)) (h1 : atE l (a : Int) = 0) (hg : atF l (a : Int) = g) (gl : g.len = (b : Int)) (ha : 1 ≤ a) (hl : a < l.length) : ∃ n, (rowR l).1 = f :: g :: (rowN l n (a + b)).1 := by
 obtain ⟨n, hn⟩ : ∃ n, l.length = n + 1 + 1 := ⟨l.length - 2, by omega⟩
 refine ⟨n, ?_⟩
 unfold rowR
 rw [hn, Frm.rowN_ok (by omega) h0, hf, fl, Int.toNat_natCast, Nat.zero_add, Frm.rowN_ok hl h1, hg, gl, Int.toNat_natCast]
theorem read_pre {j : JobP} (h : envB j = true) (hb : j.body.length ≤ 32768) (t : Str) : (readR (preJ j ++ t)).2.2 = 0 ∧ (readR (preJ j ++ t)).1.id = j.id := by
 obtain ⟨h1, h2, h3⟩ := Env.envR_env h
 obtain ⟨l, hl⟩ : ∃ l, l = preJ j ++ t := ⟨_, rfl⟩
 rw [← hl]
 have hd0 : l.drop 0 = wrapL 16 (envL j) ++ (wrapL 17 j.body ++ t) := by rw [hl]; simp [preJ]
 obtain ⟨a1, a2⟩ : atE l ((0 : Nat) : Int) = 0 ∧ atF l ((0 : Nat) : Int) = ⟨((0 : Nat) : Int), ((wrapL 16 (envL j)).length : Int), 16, envL j⟩ := at_put (k := 16) (a := 0) (by decide) h3 hd0
 have hd1 : l.drop (wrapL 16 (envL j)).length = wrapL 17 j.body ++ t := by rw [hl, preJ, List.append_assoc, List.drop_left]
 obtain ⟨b1, b2⟩ : atE l ((wrapL 16 (envL j)).length : Int) = 0 ∧ atF l ((wrapL 16 (envL j)).length : Int) = ⟨((wrapL 16 (envL j)).length : Int), ((wrapL 17 j.body).length : Int), 17, j.body⟩ := at_put (k := 17) (a := (wrapL 16 (envL j)).length) (by decide) (show j.body.length ≤ 65536 by omega) hd1
 have w1 : 1 ≤ (wrapL 16 (envL j)).length := wrap_len (k := 16) (by decide) h3
 have w2 : 1 ≤ (wrapL 17 j.body).length := wrap_len (k := 17) (p := j.body) (by decide) (by omega)
 have hll : l.length = (wrapL 16 (envL j)).length + (wrapL 17 j.body).length + t.length := by rw [hl, preJ, List.length_append, List.length_append]
 obtain ⟨n, hr⟩ := row_two a1 a2 rfl b1 b2 rfl w1 (by omega)
 unfold readR
 rw [hr]
 simp only [readF, hb, h2, and_self, if_true]
 rw [h1]
 exact ⟨trivial, rfl⟩
theorem bytes_pre {j : JobP} (h : goodJ j = true) : bytesL j = preJ j ++ stsL j.arr 0 j.st ∧ envB j = true ∧ j.body.length ≤ 32768 := by
 unfold bytesL preJ
 rw [if_pos h]
 unfold goodJ at h
 simp only [Bool.and_eq_true, decide_eq_true_eq] at h
 exact ⟨rfl, h.1.1.1, h.1.2⟩
def ReadsAs (id : Int) (s : Str) : Prop := (readR s).2.2 = 0 ∧ (readR s).1.id = id
theorem reads_pre {j : JobP} (h : envB j = true) (hb : j.body.length ≤ 32768) (t : Str) : ReadsAs j.id (preJ j ++ t) := read_pre h hb t
/-- a node whose file begins with a job of this number, and will for good -/
def JobC (id : Int) (nd : Nod) : Prop := ∃ P : Str, (∀ t, ReadsAs id (P ++ t)) ∧ P <+: nd.seen ∧ P <+: nd.sure ∧ ∀ p ∈ nd.pats, P.length ≤ p.place
theorem over_pre {P s b : Str} {k : Nat} (h : P <+: s) (hk : P.length ≤ k) : P <+: overL s k b := by
 have hs := h.length_le
 obtain ⟨r, rfl⟩ := h
 rw [List.prefix_iff_eq_take]
 apply List.ext_getElem?
 intro j
 rw [List.getElem?_take]
 by_cases hj : j < P.length
 ·rw [if_pos hj, Vd.overL_get, if_neg (by omega), if_pos (by simp; omega), List.getElem?_append_left hj]
 ·rw [if_neg hj, List.getElem?_eq_none (by omega)]
theorem boot_pre {P : Str} : ∀ (ps : List Pat) (s : Str) (ks : List Int), P <+: s → (∀ p ∈ ps, P.length ≤ p.place) → P <+: (bootPats ps s ks).1
 | [], s, ks, h, _ => h
 |p :: ps, s, ks, h, hp => by
  rw [Vd.bootPats_cons]
  refine boot_pre ps _ _ ?_ (fun q hq => hp q (by simp [hq]))
  split
  ·exact h
  ·exact over_pre h (by rw [(Vd.keepN_b ks p).1]; exact hp p (by simp))
theorem jobC_wrote {id : Int} {x : Nod} (b : Str) (h : JobC id x) : JobC id (wroteN x ⟨x.seen.length, b⟩) := by
 obtain ⟨P, h1, h4, h5, h6⟩ := h
 refine ⟨P, h1, over_pre h4 h4.length_le, h5, fun p hp => ?_⟩
 have hp : p ∈ x.pats ++ [⟨x.seen.length, b⟩] := hp
 rcases List.mem_append.1 hp with hp | hp
 ·exact h6 p hp
 ·rw [List.mem_singleton.1 hp]
  exact h4.length_le
theorem jobC_boot {id : Int} {x : Nod} (ks : List Int) (h : JobC id x) : JobC id (bootN x ks) := by
 obtain ⟨P, h1, h4, h5, h6⟩ := h
 have := boot_pre x.pats x.sure ks h5 h6
 exact ⟨P, h1, this, this, fun p hp => absurd hp List.not_mem_nil⟩
theorem jobC_stale {id : Int} {x : Nod} (h : JobC id x) : JobC id (staleN x) := h
theorem jobC_settle {id : Int} {x : Nod} (h : JobC id x) : JobC id (settleN x) := by
 obtain ⟨P, h1, h4, h5, h6⟩ := h
 exact ⟨P, h1, h4, h4, fun p hp => absurd hp List.not_mem_nil⟩
theorem jobC_closed (id : Int) : Closed (JobC id) := ⟨fun _ h => jobC_stale h, fun _ h => jobC_settle h, fun _ b h => jobC_wrote b h, fun _ ks h => jobC_boot ks h⟩
/-- a file that was written whole and synced -/
theorem jobC_new {j : JobP} (h : goodJ j = true) (nd : Nod) (h1 : nd.seen = bytesL j) (h2 : nd.sure = bytesL j) (h3 : nd.pats = []) : JobC j.id nd := by
 obtain ⟨e, e1, e2⟩ := bytes_pre h
 refine ⟨preJ j, reads_pre e1 e2, ?_, ?_, ?_⟩
 ·rw [h1, e]
  exact List.prefix_append _ _
 ·rw [h2, e]
  exact List.prefix_append _ _
 ·rw [h3]
  exact fun p hp => absurd hp List.not_mem_nil
theorem pre_split {P s : Str} (h : P <+: s) : ∃ t, s = P ++ t := let ⟨t, ht⟩ := h; ⟨t, ht.symm⟩
theorem jobC_read {id : Int} {nd : Nod} (h : JobC id nd) : ReadsAs id nd.seen := by
 obtain ⟨P, h1, h4, -, -⟩ := h
 obtain ⟨t, ht⟩ := pre_split h4
 rw [ht]
 exact h1 t
end Que
end Go.Proofs.YtcleakjjefmmbaaGreat

/- queue, plain: what reads as a job does so whatever stands behind it; a file's kind is stated by that. -/
namespace Go.Proofs.YtcleakjjefmmbaaGreat
open Go.RowKit
namespace Que
open Frm (rdN rdN_veil rdN_put veil inner headN atE atF rowN rowR Fr1)
open Env (readR readF envR envOk capId capT)
theorem rdN_more {k : Nat} {l : Str} (h : (rdN k l).1 = 0) (t : Str) : rdN k (l ++ t) = rdN k l := by
 obtain ⟨h1, h2, h3⟩ := rdN_veil k h
 obtain ⟨m, hm⟩ : ∃ m, m = (rdN k l).2.1 := ⟨_, rfl⟩
 obtain ⟨u, hu⟩ : ∃ u, u = (rdN k l).2.2 := ⟨_, rfl⟩
 have e0 : rdN k l = (0, m, u) := by rw [hm, hu]; exact Prod.ext h rfl
 rw [← hm, ← hu] at h2
 rw [← hm] at h1 h3
 rw [← hu] at h3
 rw [e0, h2, List.append_assoc, ← h1, rdN_put, h3]
theorem inner_more {r : Str} (h : (inner r).1 = 0) (t : Str) : inner (r ++ t) = inner r := by
 have h0 := h
 unfold inner at h
 by_cases h5 : (rdN 5 r).1 = 0
 ·have e5 := rdN_more h5 t
  by_cases h9 : (rdN (9 + headN (rdN 5 r).2.1) r).1 = 0
  ·unfold inner
   rw [e5, rdN_more h9 t]
  ·rw [if_neg (by simp [h5])] at h
   split at h
   ·simp at h
   ·rename_i hb
    first
     |exact absurd h h9
     |(rw [if_pos h9] at h; exact absurd h h9)
 ·rw [if_pos h5] at h
  exact absurd h h5
theorem at_more {l : Str} {a : Nat} (h : atE l a = 0) (t : Str) : atE (l ++ t) a = 0 ∧ atF (l ++ t) a = atF l a := by
 obtain ⟨c, r, hd, hc, hi, hlt, hF⟩ := Frm.atE_ok h
 have hd2 : (l ++ t).drop a = c :: (r ++ t) := by rw [List.drop_append_of_le_length (by omega), hd, List.cons_append]
 have h0 : atE (l ++ t) a = 0 := by
  unfold atE
  rw [if_neg (by rw [List.length_append]; omega), Int.toNat_natCast, hd2]
  simp only
  rw [if_neg (by simp [hc]), inner_more hi]
  exact hi
 refine ⟨h0, ?_⟩
 obtain ⟨c', r', hd', -, -, -, hF'⟩ := Frm.atE_ok h0
 rw [hd2] at hd'
 simp only [List.cons.injEq] at hd'
 rw [hF', hF, ← hd'.2, inner_more hi]
theorem rowN_cons {l : Str} {k u : Nat} {f : Fr1} {r : List Fr1} (h : (rowN l k u).1 = f :: r) : u < l.length ∧ atE l u = 0 ∧ f = atF l u ∧ ∃ k', r = (rowN l k' (u + f.len.toNat)).1 := by
 cases k with
 |zero => simp [rowN] at h
 |succ k =>
  unfold rowN at h
  split at h
  ·rename_i h1
   split at h
   ·rename_i h2
    simp only [List.cons.injEq] at h
    exact ⟨h1, h2, h.1.symm, k, by rw [← h.1]; exact h.2.symm⟩
   ·simp at h
  ·simp at h
theorem read_more {id : Int} {s : Str} (h : ReadsAs id s) (t : Str) : ReadsAs id (s ++ t) := by
 obtain ⟨h1, h2⟩ := h
 unfold readR at h1 h2
 obtain ⟨fs, hfs⟩ : ∃ fs, fs = (rowR s).1 := ⟨_, rfl⟩
 rw [← hfs] at h1 h2
 match fs, hfs with
 | [], _ => simp [readF] at h1
 | [_], _ => simp [readF] at h1
 |f :: g :: r, hfs =>
  by_cases hc : f.kind = 16 ∧ g.kind = 17 ∧ g.pay.length ≤ 32768 ∧ envOk (envR 100 capId capT f.pay) f.pay = true
  ·obtain ⟨a1, a2, a3, k1, hr1⟩ := rowN_cons hfs.symm
   obtain ⟨b1, b2, b3, k2, hr2⟩ := rowN_cons hr1.symm
   rw [Nat.zero_add] at b1 b2 b3
   have hfl := Frm.atE_len a2
   have hgl := Frm.atE_len b2
   rw [← a3] at hfl
   rw [← b3] at hgl
   obtain ⟨c1, c2⟩ := at_more a2 t
   obtain ⟨d1, d2⟩ := at_more b2 t
   obtain ⟨n, hn⟩ := row_two (l := s ++ t) (a := f.len.toNat) (b := g.len.toNat) c1 (c2.trans a3.symm) (by omega) d1 (d2.trans b3.symm) (by omega) (by omega) (by rw [List.length_append]; omega)
   unfold ReadsAs readR
   rw [hn]
   have e1 : ∀ x, (readF (f :: g :: x)).1.id = (envR 100 capId capT f.pay).1.id ∧ (readF (f :: g :: x)).2.2 = 0 := fun x => by
    simp only [readF]
    rw [if_pos hc]
    exact ⟨rfl, rfl⟩
   exact ⟨(e1 _).2, (e1 _).1.trans ((e1 _).1.symm.trans h2)⟩
  ·simp only [readF] at h1
   rw [if_neg hc] at h1
   simp at h1
/-- a file that lies still and reads as a job does so for good -/
theorem jobC_of {id : Int} {nd : Vd.Nod} (h : ReadsAs id nd.seen) (h2 : nd.sure = nd.seen) (h3 : nd.pats = []) : JobC id nd :=
 ⟨nd.seen, read_more h, List.prefix_rfl, by rw [h2]; exact List.prefix_rfl, by rw [h3]; exact fun p hp => absurd hp List.not_mem_nil⟩
end Que
end Go.Proofs.YtcleakjjefmmbaaGreat

/- queue, plain: behind a boot all files lie still; what Swap and Drop leave. -/
namespace Go.Proofs.YtcleakjjefmmbaaGreat
open Go.RowKit
namespace Que
open Vd Sf
def settled (nd : Nod) : Prop := nd.sure = nd.seen ∧ nd.pats = []
theorem boots_settle : ∀ (L : List Nat) (ns : List Nod) (ks : List Int) (i : Nat), i < ns.length → (i ∈ L ∨ ∃ nd, ns[i]? = some nd ∧ settled nd) → ∃ nd', (bootIx L ns ks).1[i]? = some nd' ∧ settled nd'
 | [], ns, ks, i, _, h => by
  rcases h with h | h
  ·exact absurd h List.not_mem_nil
  ·exact h
 |a :: L, ns, ks, i, hi, h => by
  rw [bootIx_cons]
  refine boots_settle L _ _ i (by rw [List.length_set]; exact hi) ?_
  by_cases e : a = i
  ·subst e
   exact .inr ⟨bootN (ns.getD a zeroN) ks, List.getElem?_set_self hi, rfl, rfl⟩
  ·rcases h with h | ⟨nd, h1, h2⟩
   ·rcases List.mem_cons.1 h with h | h
    ·exact absurd h.symm e
    ·exact .inl h
   ·exact .inr ⟨nd, by rw [List.getElem?_set_ne e]; exact h1, h2⟩
section
variable {d : Dsk} {x y b : Str}
theorem kn_known {i : Nat} (h : Kn d i) (hi : i < d.nodes.length) : i ∈ knownL d := by
 unfold knownL
 refine List.mem_filter.2 ⟨List.mem_range.2 hi, ?_⟩
 unfold knownB
 rcases h with ⟨p, hp, e⟩ | ⟨nd, h1, h2⟩
 ·have : d.sure.any (fun p => decide (p.2 = i)) = true := List.any_eq_true.2 ⟨p, hp, by simpa using e⟩
  simp [this]
 ·have : (nodD d i).fresh = true := by
   unfold nodD
   rw [List.getD_eq_getElem?_getD, h1]
   exact h2
  simp [this]
theorem boot_moves (h : d.off = true) (t : Int) (ks : List Int) : (bootD d t ks).1.moves = [] ∧ (bootD d t ks).1.sure = (bootD d t ks).1.seen ∧ (bootD d t ks).1.off = false ∧ (bootD d t ks).1.fail = (-1, 0) ∧ (bootD d t ks).1.crash = (-1, 0) ∧ (bootD d t ks).2 = 0 := by
 unfold bootD
 rw [if_neg (by simp [h])]
 exact ⟨rfl, rfl, rfl, rfl, rfl, rfl⟩
theorem boot_still (hw : Wf d) (h : d.off = true) (t : Int) (ks : List Int) {i : Nat} (hl : Vd.look (bootD d t ks).1.seen x = some i) : ∃ nd, (bootD d t ks).1.nodes[i]? = some nd ∧ settled nd := by
 have hseen : (bootD d t ks).1.seen = gaveN d t.toNat := by
  unfold bootD
  rw [if_neg (by simp [h])]
  rfl
 have hnodes : (bootD d t ks).1.nodes = ((bootIx (knownL d) d.nodes ks).1).map staleN := by
  unfold bootD
  rw [if_neg (by simp [h])]
  rfl
 rw [hseen] at hl
 have hok : NmOk d.nodes.length (gaveN d t.toNat) := folds_ok _ _ hw.sure (fun m hm => hw.im m (List.mem_of_mem_take hm))
 have hmem := (look_mem hok.asc).1 hl
 have hkn : Kn d i := fold_kn _ _ (fun p hp => .inl ⟨p, hp, rfl⟩) (fun m hm => hw.kn m (List.mem_of_mem_take hm)) (x, i) hmem
 have hi := hok.ix _ hmem
 obtain ⟨nd, h1, h2⟩ := boots_settle (knownL d) d.nodes ks i hi (.inl (kn_known hkn hi))
 refine ⟨staleN nd, ?_, h2⟩
 rw [hnodes, List.getElem?_map, h1]
 rfl
/-- a file of a job, there for good; or one that is none -/
def FineF (id : Int) (x : Str) (d : Dsk) : Prop := Dur (JobC id) x d ∨ HasN x (fun nd => ¬ ReadsAs id nd.seen) d
theorem boot_fine (hw : Wf d) (h : d.off = true) (t : Int) (ks : List Int) (id : Int) (hl : Vd.look (bootD d t ks).1.seen x ≠ none) : FineF id x (bootD d t ks).1 := by
 cases hx : Vd.look (bootD d t ks).1.seen x with
 |none => exact absurd hx hl
 |some i =>
  obtain ⟨nd, h1, h2, h3⟩ := boot_still hw h t ks hx
  obtain ⟨m1, m2, -⟩ := boot_moves h t ks
  by_cases hr : ReadsAs id nd.seen
  ·refine .inl (fun j => ⟨i, nd, ?_, h1, jobC_of hr h2 h3⟩)
   unfold gaveN
   rw [m1, m2]
   simpa using hx
  ·exact .inr ⟨i, nd, hx, h1, hr⟩
/-- Drop: the file is gone, or nothing was done -/
theorem drop_out (hw : Wf d) (hy : y ≠ []) : Vd.look (sDrop y d).1.seen y = none ∨ ((sDrop y d).1.seen = d.seen ∧ (sDrop y d).1.nodes = d.nodes ∧ (sDrop y d).1.sure = d.sure ∧ (sDrop y d).1.moves = d.moves) := by
 obtain ⟨e1, e2, e3, e4, -⟩ := changeD_seen d
 unfold sDrop
 split
 ·exact .inr ⟨rfl, rfl, rfl, rfl⟩
 ·rcases unlink_out hw hy with ⟨h1, h2⟩ | ⟨h1, h2, h3⟩ | ⟨h1, h2, h3⟩
  ·refine .inl ?_
   unfold thenD
   rw [if_pos h1]
   exact (step_sDir (fun _ => False) _).no ((step_unlink d y).wf hw) y hy (fun h => h) h2
  ·unfold thenD
   rw [if_neg (by rw [h1]; decide), h2]
   exact .inr ⟨e1, e2, e3, e4⟩
  ·unfold thenD
   rw [if_neg (by rw [h2]; exact h1), h3]
   exact .inr ⟨e1, e2, e3, e4⟩
theorem tame_sDrop (y : Str) : Tame (sDrop y) := by
 have ht := tame_then (f := fun d => unlinkD d y) (g := sDir) (tame_unlink y) tame_sDir
 refine ⟨fun d => ?_, fun d hf h => ?_⟩
 ·unfold sDrop
  split
  ·rfl
  ·exact ht.code d
 ·unfold sDrop at h ⊢
  split at h
  ·exact absurd h (by simp)
  ·rename_i h0
   rw [if_neg h0]
   exact ht.pow d hf h
theorem tame_unlinks : ∀ l, Tame (unlinksD l)
 | [] => ⟨fun _ => rfl, fun d _ h => absurd (show (0 : Int) = 11 from h) (by decide)⟩
 |y :: l => by
  refine ⟨fun d => ?_, fun d hf h => ?_⟩
  ·unfold unlinksD
   split
   ·exact (tame_unlink y).code d
   ·rw [(tame_unlinks l).code]; exact (tame_unlink y).code d
  ·unfold unlinksD at h ⊢
   split at h
   ·rename_i h0; rw [if_pos h0]; exact (tame_unlink y).pow d hf h
   ·rename_i h0
    rw [if_neg h0]
    exact (tame_unlinks l).pow _ (by unfold Tf; rw [(tame_unlink y).code]; exact hf) h
theorem tame_sTidy (p : Str) : Tame (sTidy p) := by
 refine ⟨fun d => ?_, fun d hf h => ?_⟩
 ·unfold sTidy
  split
  ·rfl
  ·exact (tame_unlinks _).code d
 ·unfold sTidy at h ⊢
  split at h
  ·exact absurd (show (0 : Int) = 11 from h) (by decide)
  ·rename_i h0
   rw [if_neg h0]
   exact (tame_unlinks _).pow d hf h
theorem tame_sSwap (y b : Str) : Tame (sSwap y b) := by
 have h3 : Tame (fun d => thenD (thenD (thenD (createD d (y ++ dotN)) (sAppend (y ++ dotN) b)) (fun d => renameD d (y ++ dotN) y)) sDir) :=
  tame_then (f := fun d => thenD (thenD (createD d (y ++ dotN)) (sAppend (y ++ dotN) b)) (fun d => renameD d (y ++ dotN) y)) (tame_then (f := fun d => thenD (createD d (y ++ dotN)) (sAppend (y ++ dotN) b)) (tame_then (f := fun d => createD d (y ++ dotN)) (tame_create _) (tame_sAppend _ b)) (tame_rename _ _)) tame_sDir
 have h1 : Tame (sSwap1 y (y ++ dotN) b) := by
  refine ⟨fun d => ?_, fun d hf h => ?_⟩
  ·unfold sSwap1 tidyS
   split
   ·exact h3.code d
   ·show (sUnlink (y ++ dotN) _).1.fail.2 = _
    rw [(tame_sUnlink _).code]; exact h3.code d
  ·unfold sSwap1 tidyS at h ⊢
   split at h
   ·rename_i h0; rw [if_pos h0]; exact h3.pow d hf h
   ·rename_i h0
    exact absurd (.inr (.inl h)) h0
 refine ⟨fun d => ?_, fun d hf h => ?_⟩
 ·unfold sSwap
  split
  ·rfl
  ·split
   ·split
    ·exact (tame_unlink _).code d
    ·rw [h1.code]; exact (tame_unlink _).code d
   ·exact h1.code d
 ·unfold sSwap at h ⊢
  split at h
  ·exact absurd h (by simp)
  ·rename_i h0
   rw [if_neg h0]
   split at h
   ·rename_i h2
    rw [if_pos h2]
    split at h
    ·rename_i h4; rw [if_pos h4]; exact (tame_unlink _).pow d hf h
    ·rename_i h4
     rw [if_neg h4]
     exact h1.pow _ (by unfold Tf; rw [(tame_unlink _).code]; exact hf) h
   ·rename_i h2
    rw [if_neg h2]
    exact h1.pow d hf h
end
end Que
end Go.Proofs.YtcleakjjefmmbaaGreat

/- queue, plain: no call but Boot brings the power back; the directory's sync; a file that Swap made anew. -/
namespace Go.Proofs.YtcleakjjefmmbaaGreat
open Go.RowKit
namespace Que
open Vd Sf
section
variable {d : Dsk} {x y b : Str}
def Down (f : Dsk → Dsk × Int) : Prop := ∀ d, d.off = true → (f d).1.off = true
theorem down_touch (h : d.off = true) (x : Str) : (touchD d x).1 = d ∧ (touchD d x).2.2 = 11 := by
 unfold touchD
 rw [change_off h]
 rw [if_pos (by show (11 : Int) ≠ 0; decide)]
 exact ⟨rfl, rfl⟩
theorem down_create (x : Str) : Down (fun d => createD d x) := fun d h => by
 show (createD d x).1.off = true
 unfold createD
 rw [change_off h, if_pos (by show (11 : Int) ≠ 0; decide)]
 exact h
theorem down_append (x b : Str) : Down (fun d => appendD d x b) := fun d h => by
 show (appendD d x b).1.off = true
 obtain ⟨h1, h2⟩ := down_touch h x
 unfold appendD
 rw [if_pos (by rw [h2]; decide), h1]
 exact h
theorem down_sync (x : Str) : Down (fun d => syncD d x) := fun d h => by
 show (syncD d x).1.off = true
 obtain ⟨h1, h2⟩ := down_touch h x
 unfold syncD
 rw [if_pos (by rw [h2]; decide), h1]
 exact h
theorem down_unlink (x : Str) : Down (fun d => unlinkD d x) := fun d h => by
 show (unlinkD d x).1.off = true
 obtain ⟨h1, h2⟩ := down_touch h x
 unfold unlinkD
 rw [if_pos (by rw [h2]; decide), h1]
 exact h
theorem down_rename (x y : Str) : Down (fun d => renameD d x y) := fun d h => by
 show (renameD d x y).1.off = true
 unfold renameD
 rw [change_off h, if_pos (by show (11 : Int) ≠ 0; decide)]
 exact h
theorem down_syncDir : Down syncDirD := fun d h => by
 unfold syncDirD
 rw [change_off h, if_pos (by show (11 : Int) ≠ 0; decide)]
 exact h
theorem down_then {f g : Dsk → Dsk × Int} (hf : Down f) (hg : Down g) : Down (fun d => thenD (f d) g) := fun d h => by
 show (thenD (f d) g).1.off = true
 unfold thenD
 split
 ·exact hg _ (hf d h)
 ·exact hf d h
theorem down_twice {f : Dsk → Dsk × Int} (hf : Down f) : Down (Sf.twice f) := fun d h => by
 unfold Sf.twice
 split
 ·exact hf d h
 ·exact hf _ (hf d h)
theorem down_sAppend (x b : Str) : Down (sAppend x b) := down_then (f := fun d => appendD d x b) (g := sSync x) (down_append x b) (down_twice (down_sync x))
theorem down_sDir : Down sDir := down_twice down_syncDir
theorem down_sUnlink (x : Str) : Down (sUnlink x) := down_twice (down_unlink x)
theorem down_sMake (x b : Str) : Down (sMake x b) := fun d h => by
 unfold sMake
 split
 ·exact h
 ·have h1 := down_create x d h
  split
  ·exact h1
  ·have h2 := down_then (f := sAppend x b) (g := sDir) (down_sAppend x b) down_sDir _ h1
   unfold tidyD
   split
   ·exact h2
   ·exact down_sUnlink x _ h2
theorem down_sDrop (x : Str) : Down (sDrop x) := fun d h => by
 unfold sDrop
 split
 ·exact h
 ·exact down_then (f := fun d => unlinkD d x) (g := sDir) (down_unlink x) down_sDir d h
theorem down_sTidy (p : Str) : Down (sTidy p) := fun d h => by
 unfold sTidy
 rw [if_pos h]
 exact h
theorem down_sSwap (y b : Str) : Down (sSwap y b) := fun d h => by
 have h1 : Down (sSwap1 y (y ++ dotN) b) := fun d h => by
  have h3 := down_then (f := fun d => thenD (thenD (createD d (y ++ dotN)) (sAppend (y ++ dotN) b)) (fun d => renameD d (y ++ dotN) y)) (g := sDir) (down_then (f := fun d => thenD (createD d (y ++ dotN)) (sAppend (y ++ dotN) b)) (down_then (f := fun d => createD d (y ++ dotN)) (down_create _) (down_sAppend _ b)) (down_rename _ _)) down_sDir d h
  unfold sSwap1 tidyS
  split
  ·exact h3
  ·exact down_sUnlink _ _ h3
 unfold sSwap
 split
 ·exact h
 ·split
  ·split
   ·exact down_unlink _ d h
   ·exact h1 _ (down_unlink _ d h)
  ·exact h1 d h
/-- the directory is synced, or the power is gone -/
theorem sdir_out (hf : Tf d) : (sDir d).2 = 0 ∨ (sDir d).1.off = true := by
 by_cases h11 : (sDir d).2 = 11
 ·exact .inr (tame_sDir.pow d hf h11)
 ·unfold sDir Sf.twice at h11 ⊢
  by_cases h0 : (syncDirD d).2 = 0 ∨ (syncDirD d).2 = 11
  ·rw [if_pos h0] at h11 ⊢
   exact h0.elim .inl (fun e => absurd e h11)
  ·rw [if_neg h0] at h11 ⊢
   refine .inl ?_
   have hc : (changeD d).2 ≠ 0 := fun e => h0 (.inl (by unfold syncDirD; rw [if_neg (by simp [e])]))
   have e1 : syncDirD d = changeD d := by unfold syncDirD; rw [if_pos hc]
   rw [e1] at h0 h11 ⊢
   have hs := change_spent (change_err hc (fun e => h0 (.inr e)))
   rcases hs.2 with h2 | h2
   ·unfold syncDirD
    rw [if_neg (by simp [h2])]
   ·exfalso
    apply h11
    unfold syncDirD
    rw [if_pos (by rw [h2]; decide), h2]
theorem append_seen (d : Dsk) (x b : Str) : (sAppend x b d).1.seen = d.seen := by
 have h1 : ∀ d, (appendD d x b).1.seen = d.seen := fun d => by
  obtain ⟨e1, -⟩ := changeD_seen d
  unfold appendD writeD
  split
  ·rw [touch_fst', e1]
  ·split
   ·rw [touch_fst', e1]
   ·rw [touch_fst']; exact e1
 have h2 : ∀ d, (syncD d x).1.seen = d.seen := fun d => by
  obtain ⟨e1, -⟩ := changeD_seen d
  unfold syncD
  split
  ·rw [touch_fst', e1]
  ·rw [touch_fst']; exact e1
 unfold sAppend thenD
 split
 ·unfold sSync Sf.twice
  split
  ·rw [h2, h1]
  ·rw [h2, h2, h1]
 ·exact h1 d
/-- a file that Swap put where none was: there for good, not there, or the power is gone -/
theorem swap_new {C : Nod → Prop} (hC : Closed C) (hx : x ≠ []) (hw : Wf d) (hf : Tf d) (hb : ∀ nd : Nod, nd.seen = b → nd.sure = b → nd.pats = [] → C nd) (hn : Vd.look d.seen x = none) : Dur C x (sSwap x b d).1 ∨ Gone x (sSwap x b d).1 := by
 have hxn : x ++ dotN ≠ [] := by simp [dotN]
 have hne : x ≠ x ++ dotN := fun e => by have := congrArg List.length e; simp [dotN] at this
 have h1 : ∀ d, Wf d → Tf d → Vd.look d.seen x = none → Dur C x (sSwap1 x (x ++ dotN) b d).1 ∨ Gone x (sSwap1 x (x ++ dotN) b d).1 := fun d hw hf hn => by
  have s1 : Step (· = x ++ dotN) d (thenD (createD d (x ++ dotN)) (sAppend (x ++ dotN) b)).1 := step_then (step_create d _) (fun d => step_sAppend d _ b)
  have t1 := tame_then (f := fun d => createD d (x ++ dotN)) (g := sAppend (x ++ dotN) b) (tame_create _) (tame_sAppend _ b)
  have hok : (thenD (createD d (x ++ dotN)) (sAppend (x ++ dotN) b)).2 = 0 → HasN (x ++ dotN) C (thenD (createD d (x ++ dotN)) (sAppend (x ++ dotN) b)).1 := fun e => by
   obtain ⟨a1, a2, a3⟩ := then_ok e
   rw [a3]
   exact (sappend_ok (s := []) ((create_ok hw hxn a1).mono (fun nd e => by rw [e]; rfl)) a2).mono (fun nd e => hb nd e.1 e.2.1 e.2.2)
  have w1 := s1.wf hw
  have n1 := s1.no hw x hx hne hn
  have f1 : Tf (thenD (createD d (x ++ dotN)) (sAppend (x ++ dotN) b)).1 := by unfold Tf; rw [t1.code]; exact hf
  -- behind the rename
  have h2 : Vd.look (thenD (thenD (createD d (x ++ dotN)) (sAppend (x ++ dotN) b)) (fun d => renameD d (x ++ dotN) x)).1.seen x = none ∨ ((thenD (thenD (createD d (x ++ dotN)) (sAppend (x ++ dotN) b)) (fun d => renameD d (x ++ dotN) x)).2 = 0 ∧ HasN x C (thenD (thenD (createD d (x ++ dotN)) (sAppend (x ++ dotN) b)) (fun d => renameD d (x ++ dotN) x)).1) := by
   generalize thenD (createD d (x ++ dotN)) (sAppend (x ++ dotN) b) = r at *
   unfold thenD
   split
   ·rename_i h0
    obtain ⟨i, nd, m1, m2, m3⟩ := hok h0
    obtain ⟨e1, e2, e3, e4, -⟩ := changeD_seen r.1
    have w2 := (step_change (fun _ => False) r.1).wf w1
    show Vd.look (renameD r.1 (x ++ dotN) x).1.seen x = none ∨ ((renameD r.1 (x ++ dotN) x).2 = 0 ∧ HasN x C (renameD r.1 (x ++ dotN) x).1)
    unfold renameD
    split
    ·exact .inl (by rw [e1]; exact n1)
    ·split
     ·exact .inl (by rw [e1]; exact n1)
     ·split
      ·refine .inr ⟨rfl, i, nd, ?_, by show (changeD r.1).1.nodes[i]? = _; rw [e2]; exact m2, m3⟩
       rw [m1]
       show Vd.look (giveN (changeD r.1).1.seen ⟨i, x, false⟩) x = some i
       rw [look_give w2.names _ hx, if_pos rfl]
      ·exact .inl (by rw [e1]; exact n1)
   ·exact .inl n1
  have s2 : Step (fun z => z = x ∨ z = x ++ dotN) d (thenD (thenD (createD d (x ++ dotN)) (sAppend (x ++ dotN) b)) (fun d => renameD d (x ++ dotN) x)).1 := step_then (s1.mono (fun _ e => .inr e)) (fun d => (step_rename d (x ++ dotN) x).mono (fun z e => e.elim .inr .inl))
  have t2 := tame_then (f := fun d => thenD (createD d (x ++ dotN)) (sAppend (x ++ dotN) b)) (g := fun d => renameD d (x ++ dotN) x) t1 (tame_rename _ _)
  have w2 := s2.wf hw
  have f2 : Tf (thenD (thenD (createD d (x ++ dotN)) (sAppend (x ++ dotN) b)) (fun d => renameD d (x ++ dotN) x)).1 := by unfold Tf; rw [t2.code]; exact hf
  unfold sSwap1
  generalize thenD (thenD (createD d (x ++ dotN)) (sAppend (x ++ dotN) b)) (fun d => renameD d (x ++ dotN) x) = r2 at *
  have h3 : Wf (thenD r2 sDir).1 ∧ (Gone x (thenD r2 sDir).1 ∨ ((thenD r2 sDir).2 = 0 ∧ Dur C x (thenD r2 sDir).1)) := by
   rcases h2 with h2 | ⟨h2, h4⟩
   ·unfold thenD
    split
    ·exact ⟨(step_sDir (fun _ => False) _).wf w2, .inl (.inr ((step_sDir (fun _ => False) _).no w2 x hx (fun h => h) h2))⟩
    ·exact ⟨w2, .inl (.inr h2)⟩
   ·unfold thenD
    rw [if_pos h2]
    refine ⟨(step_sDir (fun _ => False) _).wf w2, ?_⟩
    rcases sdir_out f2 with h5 | h5
    ·obtain ⟨⟨k, nd, b1, b2, b3⟩, b4⟩ := sdir_ok (P := C) hC.stale h4 h5
     exact .inr ⟨h5, fun j => ⟨k, nd, by rw [b4]; exact b1, b2, b3⟩⟩
    ·exact .inl (.inl h5)
  obtain ⟨w3, h3⟩ := h3
  unfold tidyS
  split
  ·rcases h3 with h3 | h3
   ·exact .inr h3
   ·exact .inl h3.2
  ·rename_i h6
   rcases h3 with h3 | h3
   ·refine .inr ?_
    rcases h3 with h3 | h3
    ·exact .inl (down_sUnlink _ _ h3)
    ·exact .inr ((step_sUnlink _ (x ++ dotN)).no w3 x hx hne h3)
   ·exact absurd (.inl h3.1) h6
 unfold sSwap
 split
 ·exact .inr (.inr hn)
 ·split
  ·have hu := (step_unlink d (x ++ dotN)).no hw x hx hne hn
   split
   ·exact .inr (.inr hu)
   ·exact h1 _ ((step_unlink d _).wf hw) (by unfold Tf; rw [(tame_unlink _).code]; exact hf) hu
  ·exact h1 d hw hf hn
end
end Que
end Go.Proofs.YtcleakjjefmmbaaGreat

/- ref16's Tidy, both disks side by side. (MADE BY gen_rstidy.py.) -/
namespace Go.Proofs.YtcleakjjefmmbaaGreat
open Go.RowKit
namespace Rs
open Vd Rf Sf
open Go.Maps
def strV (x : Str) : Value := .string (bstr x)
theorem own_n {w : World} {base : Nat} {e : TypeId} {p : Option Addr} {n c : Nat} {l : List Value} (h : Own w base e (.slice p n c) l) : n = l.length := by
 obtain ⟨p', c', hv, -, -⟩ := h.row.form
 simp only [Value.slice.injEq] at hv
 exact hv.2.1
theorem rowAtV {w : World} {p : Option Addr} {n c : Nat} {l : List Value} (h : Row w (.slice p n c) l) {i : Nat} (hi : i < l.length) : ∃ b off, p = some ⟨b, off, none⟩ ∧ w.cell? ⟨b, off + i, none⟩ = some l[i] := by
 rcases h with ⟨a0, cap', hv, hl, -, -⟩ | ⟨b, off, cap', hv, -, -, hc⟩
 ·subst hl
  simp at hi
 ·simp only [Value.slice.injEq] at hv
  exact ⟨b, off, hv.1, hc i _ (List.getElem?_eq_getElem hi)⟩
section
variable {L : List Nat} {W w w1 : World} {g m : Nat} {d : Dsk} {r : RDsk} {k : Nat}
end
end Rs
end Go.Proofs.YtcleakjjefmmbaaGreat

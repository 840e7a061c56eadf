/- Several texts in one: SfTwin, QuDurPl, QuSafePl, QuStepPl, QuOutPl. -/
import Derived.Test.YtcleakjjefmmbaaGreatK34
import Derived.Test.YtcleakjjefmmbaaGreatK25
import Derived.Test.YtcleakjjefmmbaaGreatK31
/- safe's calls on both disks: one answer, and alike behind it. Plain. -/
namespace Go.Proofs.YtcleakjjefmmbaaGreat
open Go.RowKit
namespace Sf
open Vd
def twiceR (f : RDsk → RDsk × Int) (r : RDsk) : RDsk × Int := if (f r).2 = 0 ∨ (f r).2 = 11 then f r else f (f r).1
def thenR (q : RDsk × Int) (f : RDsk → RDsk × Int) : RDsk × Int := if q.2 = 0 then f q.1 else q
def hasR (r : RDsk) (x : Str) : Bool := !r.down && (Vd.look r.now x).isSome
def rSync (x : Str) : RDsk → RDsk × Int := twiceR (fun r => syncR r x)
def rDir : RDsk → RDsk × Int := twiceR syncDirR
def rUnlink (x : Str) : RDsk → RDsk × Int := twiceR (fun r => unlinkR r x)
def rAppend (x b : Str) (r : RDsk) : RDsk × Int := thenR (appendR r x b) (rSync x)
def tidyR0 (x : Str) (q : RDsk × Int) : RDsk × Int := if q.2 = 0 ∨ q.2 = 11 then q else ((rUnlink x q.1).1, q.2)
def rMake (x b : Str) (r : RDsk) : RDsk × Int :=
 if hasR r x then (r, 8) else if (createR r x).2 ≠ 0 then createR r x
 else tidyR0 x (thenR (rAppend x b (createR r x).1) rDir)
def rDrop (x : Str) (r : RDsk) : RDsk × Int := if r.down = false ∧ hasR r x = false then (r, 0) else thenR (unlinkR r x) rDir
def tidyR (n : Str) (q : RDsk × Int) : RDsk × Int := if q.2 = 0 ∨ q.2 = 11 ∨ hasR q.1 n = false then q else ((rUnlink n q.1).1, q.2)
def rSwap1 (x n b : Str) (r : RDsk) : RDsk × Int := tidyR n (thenR (thenR (thenR (createR r n) (rAppend n b)) (fun r => renameR r n x)) rDir)
def rSwap (x b : Str) (r : RDsk) : RDsk × Int :=
 if 30 < x.length then (r, 3) else if hasR r (x ++ dotN) then (if (unlinkR r (x ++ dotN)).2 ≠ 0 then unlinkR r (x ++ dotN) else rSwap1 x (x ++ dotN) b (unlinkR r (x ++ dotN)).1) else rSwap1 x (x ++ dotN) b r
/-- names that begin and end so -/
def tidyN (p x : Str) : Bool := decide (p.length ≤ x.length ∧ x.take p.length = p) && decide (2 ≤ x.length ∧ x.drop (x.length - 2) = dotN)
def unlinksD : List Str → Dsk → Dsk × Int
 | [], d => (d, 0)
 |x :: l, d => if (unlinkD d x).2 ≠ 0 then unlinkD d x else unlinksD l (unlinkD d x).1
def unlinksR : List Str → RDsk → RDsk × Int
 | [], r => (r, 0)
 |x :: l, r => if (unlinkR r x).2 ≠ 0 then unlinkR r x else unlinksR l (unlinkR r x).1
def tidyL (p : Str) (l : Nms) : List Str := (l.map (·.1)).filter (tidyN p)
def sTidy (p : Str) (d : Dsk) : Dsk × Int := if d.off then (d, 0) else unlinksD (tidyL p d.seen) d
def rTidy (p : Str) (r : RDsk) : RDsk × Int := if r.down then (r, 0) else unlinksR (tidyL p r.now) r

theorem dalike_more {j j' : Nat} {f : Dsk → Dsk × Int} {g : RDsk → RDsk × Int} (h : DAlike j f g) (hj : j ≤ j') : DAlike j' f g := fun d r k hk hd => by
 obtain ⟨h1, h2⟩ := h d r k (by omega) hd
 exact ⟨h1, h2.more (by omega)⟩
theorem twice_alike {j : Nat} {f : Dsk → Dsk × Int} {g : RDsk → RDsk × Int} (h : DAlike j f g) : DAlike (j + j) (twice f) (twiceR g) := fun d r k hk hd => by
 obtain ⟨h1, h2⟩ := h d r k (by omega) hd
 unfold twice twiceR
 rw [← h1]
 by_cases hc : (f d).2 = 0 ∨ (f d).2 = 11
 ·rw [if_pos hc, if_pos hc]
  exact ⟨h1, h2.more (by omega)⟩
 ·rw [if_neg hc, if_neg hc]
  obtain ⟨h3, h4⟩ := h _ _ (k + j) (by omega) h2
  exact ⟨h3, h4.more (by omega)⟩
theorem then_alike {j1 j2 : Nat} {f1 f2 : Dsk → Dsk × Int} {g1 g2 : RDsk → RDsk × Int} (h1 : DAlike j1 f1 g1) (h2 : DAlike j2 f2 g2) : DAlike (j1 + j2) (fun d => thenD (f1 d) f2) (fun r => thenR (g1 r) g2) := fun d r k hk hd => by
 obtain ⟨e1, r1⟩ := h1 d r k (by omega) hd
 unfold thenD thenR
 dsimp only
 rw [← e1]
 by_cases hc : (f1 d).2 = 0
 ·rw [if_pos hc, if_pos hc]
  obtain ⟨e2, r2⟩ := h2 _ _ (k + j1) (by omega) r1
  exact ⟨e2, r2.more (by omega)⟩
 ·rw [if_neg hc, if_neg hc]
  exact ⟨e1, r1.more (by omega)⟩
theorem has_alike {d : Dsk} {r : RDsk} {k : Nat} (h : DR d r k) (x : Str) : hasD d x = hasR r x := by
 unfold hasD hasR textD
 rw [← h.off, ← h.seen]
 cases d.off with
 |true => rfl
 |false =>
  cases Vd.look d.seen x <;> rfl
theorem sync_al (x : Str) : DAlike 2 (sSync x) (rSync x) := twice_alike (sync_alike x)
theorem dir_al : DAlike 2 sDir rDir := twice_alike syncDir_alike
theorem unlink_al (x : Str) : DAlike 2 (sUnlink x) (rUnlink x) := twice_alike (unlink_alike x)
theorem append_al (x b : Str) : DAlike 3 (sAppend x b) (rAppend x b) := then_alike (append_alike x b) (sync_al x)
/-- a step of the state alone -/
theorem tidyD_al {j : Nat} {f : Dsk → Dsk × Int} {g : RDsk → RDsk × Int} (x : Str) (h : DAlike j f g) : DAlike (j + 2) (fun d => tidyD x (f d)) (fun r => tidyR0 x (g r)) := fun d r k hk hd => by
 obtain ⟨e1, r1⟩ := h d r k (by omega) hd
 unfold tidyD tidyR0
 dsimp only
 rw [← e1]
 by_cases hc : (f d).2 = 0 ∨ (f d).2 = 11
 ·rw [if_pos hc, if_pos hc]
  exact ⟨e1, r1.more (by omega)⟩
 ·rw [if_neg hc, if_neg hc]
  obtain ⟨-, r2⟩ := unlink_al x _ _ (k + j) (by omega) r1
  exact ⟨rfl, r2.more (by omega)⟩
theorem tidyS_al {j : Nat} {f : Dsk → Dsk × Int} {g : RDsk → RDsk × Int} (x : Str) (h : DAlike j f g) : DAlike (j + 2) (fun d => tidyS x (f d)) (fun r => tidyR x (g r)) := fun d r k hk hd => by
 obtain ⟨e1, r1⟩ := h d r k (by omega) hd
 unfold tidyS tidyR
 dsimp only
 rw [← e1, ← has_alike r1]
 by_cases hc : (f d).2 = 0 ∨ (f d).2 = 11 ∨ hasD (f d).1 x = false
 ·rw [if_pos hc, if_pos hc]
  exact ⟨e1, r1.more (by omega)⟩
 ·rw [if_neg hc, if_neg hc]
  obtain ⟨-, r2⟩ := unlink_al x _ _ (k + j) (by omega) r1
  exact ⟨rfl, r2.more (by omega)⟩
theorem make_al (x b : Str) : DAlike 8 (sMake x b) (rMake x b) := fun d r k hk hd => by
 unfold sMake rMake
 rw [← has_alike hd]
 cases hasD d x with
 |true => exact ⟨rfl, hd.more (by omega)⟩
 |false =>
  simp only [Bool.false_eq_true, if_false]
  obtain ⟨e1, r1⟩ := create_alike x d r k (by omega) hd
  dsimp only at e1 r1
  rw [← e1]
  by_cases hc : (createD d x).2 ≠ 0
  ·rw [if_pos hc, if_pos hc]
   exact ⟨e1, r1.more (by omega)⟩
  ·rw [if_neg hc, if_neg hc]
   obtain ⟨e2, r2⟩ := tidyD_al x (then_alike (append_al x b) dir_al) _ _ (k + 1) (by omega) r1
   exact ⟨e2, r2.more (by omega)⟩
theorem drop_al (x : Str) : DAlike 3 (sDrop x) (rDrop x) := fun d r k hk hd => by
 unfold sDrop rDrop
 rw [← has_alike hd, ← hd.off]
 by_cases hc : d.off = false ∧ hasD d x = false
 ·rw [if_pos hc, if_pos hc]
  exact ⟨rfl, hd.more (by omega)⟩
 ·rw [if_neg hc, if_neg hc]
  exact then_alike (unlink_alike x) dir_al d r k hk hd
theorem swap1_al (x n b : Str) : DAlike 9 (sSwap1 x n b) (rSwap1 x n b) := tidyS_al n (then_alike (then_alike (then_alike (create_alike n) (append_al n b)) (rename_alike n x)) dir_al)
theorem swap_al (x b : Str) : DAlike 10 (sSwap x b) (rSwap x b) := fun d r k hk hd => by
 unfold sSwap rSwap
 by_cases h30 : 30 < x.length
 ·rw [if_pos h30, if_pos h30]
  exact ⟨rfl, hd.more (by omega)⟩
 rw [if_neg h30, if_neg h30, ← has_alike hd]
 cases hasD d (x ++ dotN) with
 |false =>
  simp only [Bool.false_eq_true, if_false]
  obtain ⟨e2, r2⟩ := swap1_al x (x ++ dotN) b _ _ k (by omega) hd
  exact ⟨e2, r2.more (by omega)⟩
 |true =>
  simp only [if_true]
  obtain ⟨e1, r1⟩ := unlink_alike (x ++ dotN) d r k (by omega) hd
  dsimp only at e1 r1
  rw [← e1]
  by_cases hc : (unlinkD d (x ++ dotN)).2 ≠ 0
  ·rw [if_pos hc, if_pos hc]
   exact ⟨e1, r1.more (by omega)⟩
  ·rw [if_neg hc, if_neg hc]
   obtain ⟨e2, r2⟩ := swap1_al x (x ++ dotN) b _ _ (k + 1) (by omega) r1
   exact ⟨e2, r2.more (by omega)⟩
theorem unlinks_al : ∀ l : List Str, DAlike l.length (unlinksD l) (unlinksR l)
 | [] => fun d r k _ hd => ⟨rfl, hd⟩
 |x :: l => fun d r k hk hd => by
  rw [List.length_cons] at hk ⊢
  unfold unlinksD unlinksR
  obtain ⟨e1, r1⟩ := unlink_alike x d r k (by omega) hd
  dsimp only at e1 r1
  rw [← e1]
  by_cases hc : (unlinkD d x).2 ≠ 0
  ·rw [if_pos hc, if_pos hc]
   exact ⟨e1, r1.more (by omega)⟩
  ·rw [if_neg hc, if_neg hc]
   obtain ⟨e2, r2⟩ := unlinks_al l _ _ (k + 1) (by omega) r1
   exact ⟨e2, r2.more (by omega)⟩
theorem tidyL_len (p : Str) (l : Nms) : (tidyL p l).length ≤ l.length := by
 unfold tidyL
 refine Nat.le_trans (List.length_filter_le ..) ?_
 rw [List.length_map]
 exact Nat.le_refl _
theorem tidy_al (p : Str) {d : Dsk} {r : RDsk} {k j : Nat} (hj : d.nodes.length ≤ j) (hk : k + j ≤ 1000000000000) (hd : DR d r k) : (sTidy p d).2 = (rTidy p r).2 ∧ DR (sTidy p d).1 (rTidy p r).1 (k + j) := by
 unfold sTidy rTidy
 rw [← hd.off, ← hd.seen]
 cases d.off with
 |true => exact ⟨rfl, hd.more (by omega)⟩
 |false =>
  simp only [Bool.false_eq_true, if_false]
  have h1 := tidyL_len p d.seen
  have h2 := hd.ok.len
  exact dalike_more (unlinks_al (tidyL p d.seen)) (by omega : _ ≤ j) d r k hk hd
end Sf
end Go.Proofs.YtcleakjjefmmbaaGreat

/- queue, plain: files that are there whatever the disk does, and whenever the power goes. -/
namespace Go.Proofs.YtcleakjjefmmbaaGreat
open Go.RowKit
namespace Que
open Vd
/-- names by rising order, each of a node of its own -/
structure NmOk (n : Nat) (l : Nms) : Prop where
 asc : AscN l
 one : ∀ p ∈ l, ∀ q ∈ l, p.2 = q.2 → p = q
 ix : ∀ p ∈ l, p.2 < n
theorem NmOk.more {n m : Nat} {l : Nms} (h : NmOk n l) (hn : n ≤ m) : NmOk m l := ⟨h.asc, h.one, fun p hp => Nat.lt_of_lt_of_le (h.ix p hp) hn⟩
theorem drop_node {l : Nms} {k : Nat} {p : Str × Nat} (h : p ∈ dropN l k) : p ∈ l ∧ p.2 ≠ k := by
 unfold dropN at h
 obtain ⟨h1, h2⟩ := List.mem_filter.1 h
 exact ⟨h1, by simpa using h2⟩
theorem give_cases {l : Nms} {m : Mv} {p : Str × Nat} (h : p ∈ giveN l m) : (p ∈ l ∧ p.2 ≠ m.node) ∨ p = (m.name, m.node) := by
 unfold giveN at h
 split at h
 ·exact .inl (drop_node h)
 ·unfold putN at h
  rcases List.mem_append.1 h with h | h
  ·exact .inl (drop_node (List.mem_filter.1 h).1)
  ·rcases List.mem_cons.1 h with h | h
   ·exact .inr h
   ·exact .inl (drop_node (List.mem_filter.1 h).1)
theorem NmOk.give {n : Nat} {l : Nms} (h : NmOk n l) {m : Mv} (hm : m.node < n) : NmOk n (giveN l m) := by
 refine ⟨ascN_give h.asc m, fun p hp q hq e => ?_, fun p hp => ?_⟩
 ·rcases give_cases hp with ⟨h1, h2⟩ | h1
  ·rcases give_cases hq with ⟨h3, h4⟩ | h3
   ·exact h.one p h1 q h3 e
   ·rw [h3] at e
    exact absurd e h2
  ·rcases give_cases hq with ⟨h3, h4⟩ | h3
   ·rw [h1] at e
    exact absurd e.symm h4
   ·rw [h1, h3]
 ·rcases give_cases hp with ⟨h1, -⟩ | h1
  ·exact h.ix p h1
  ·rw [h1]; exact hm
/-- a node that a boot looks after -/
def Kn (d : Dsk) (i : Nat) : Prop := (∃ p ∈ d.sure, p.2 = i) ∨ ∃ nd, d.nodes[i]? = some nd ∧ nd.fresh = true
structure Wf (d : Dsk) : Prop where
 seen : d.seen = d.moves.foldl giveN d.sure
 sure : NmOk d.nodes.length d.sure
 im : ∀ m ∈ d.moves, m.node < d.nodes.length
 kn : ∀ m ∈ d.moves, Kn d m.node
theorem fold_kn {d : Dsk} : ∀ (ms : List Mv) (l : Nms), (∀ p ∈ l, Kn d p.2) → (∀ m ∈ ms, Kn d m.node) → ∀ p ∈ ms.foldl giveN l, Kn d p.2
 | [], _, h, _ => h
 |m :: ms, l, h, hm => fold_kn ms _ (fun p hp => by
  rcases give_cases hp with ⟨h1, -⟩ | rfl
  ·exact h p h1
  ·exact hm m (by simp)) (fun x hx => hm x (by simp [hx]))
theorem Wf.kseen {d : Dsk} (h : Wf d) {p : Str × Nat} (hp : p ∈ d.seen) : Kn d p.2 := by
 rw [h.seen] at hp
 exact fold_kn _ _ (fun p hp => .inl ⟨p, hp, rfl⟩) h.kn p hp
theorem folds_ok {n : Nat} : ∀ (ms : List Mv) (l : Nms), NmOk n l → (∀ m ∈ ms, m.node < n) → NmOk n (ms.foldl giveN l)
 | [], _, h, _ => h
 |m :: ms, l, h, hm => folds_ok ms _ (h.give (hm m (by simp))) (fun x hx => hm x (by simp [hx]))
theorem Wf.names {d : Dsk} (h : Wf d) : NmOk d.nodes.length d.seen := by rw [h.seen]; exact folds_ok _ _ h.sure h.im
theorem gave_end {d : Dsk} (h : Wf d) {j : Nat} (hj : d.moves.length ≤ j) : gaveN d j = d.seen := by
 rw [gaveN_all hj, h.seen]
 unfold gaveN
 rw [List.take_length]
/-- whatever is done with a file of this kind leaves it so -/
structure Closed (C : Nod → Prop) : Prop where
 stale : ∀ x, C x → C (staleN x)
 settle : ∀ x, C x → C (settleN x)
 wrote : ∀ x b, C x → C (wroteN x ⟨x.seen.length, b⟩)
 boot : ∀ x ks, C x → C (bootN x ks)
/-- the file x is there behind any of the moves, and is of the kind C -/
def Dur (C : Nod → Prop) (x : Str) (d : Dsk) : Prop := ∀ j, ∃ i nd, Vd.look (gaveN d j) x = some i ∧ d.nodes[i]? = some nd ∧ C nd
/-- whenever the file x is there, behind any of the moves, it is of the kind C -/
def Whn (C : Nod → Prop) (x : Str) (d : Dsk) : Prop := ∀ j i, Vd.look (gaveN d j) x = some i → ∃ nd, d.nodes[i]? = some nd ∧ C nd
theorem Dur.whn {C : Nod → Prop} {x : Str} {d : Dsk} (h : Dur C x d) : Whn C x d := fun j i hi => by
 obtain ⟨i', nd, h1, h2, h3⟩ := h j
 rw [hi] at h1
 simp only [Option.some.injEq] at h1
 subst h1
 exact ⟨nd, h2, h3⟩
/-- files that stay -/
structure Inv (K : List (Str × (Nod → Prop))) (d : Dsk) : Prop where
 wf : Wf d
 dur : ∀ k ∈ K, Dur k.2 k.1 d
def Good (K : List (Str × (Nod → Prop))) : Prop := ∀ k ∈ K, Closed k.2 ∧ k.1 ≠ []
section
variable {K : List (Str × (Nod → Prop))} {d d' : Dsk}
theorem Inv.same (h : Inv K d) (e1 : d'.seen = d.seen) (e2 : d'.nodes = d.nodes) (e3 : d'.sure = d.sure) (e4 : d'.moves = d.moves) : Inv K d' := by
 refine ⟨⟨by rw [e1, e4, e3]; exact h.wf.seen, by rw [e2, e3]; exact h.wf.sure, by rw [e4, e2]; exact h.wf.im, fun m hm => by unfold Kn; rw [e3, e2]; exact h.wf.kn m (by rw [← e4]; exact hm)⟩, fun k hk j => ?_⟩
 obtain ⟨i, nd, h1, h2, h3⟩ := h.dur k hk j
 exact ⟨i, nd, by unfold gaveN; rw [e4, e3]; exact h1, by rw [e2]; exact h2, h3⟩
theorem Inv.change (h : Inv K d) : Inv K (changeD d).1 := by
 obtain ⟨e1, e2, e3, e4, -⟩ := changeD_seen d
 exact h.same e1 e2 e3 e4
theorem Inv.seen (h : Inv K d) {k : Str × (Nod → Prop)} (hk : k ∈ K) : ∃ i nd, Vd.look d.seen k.1 = some i ∧ d.nodes[i]? = some nd ∧ k.2 nd := by
 obtain ⟨i, nd, h1, h2⟩ := h.dur k hk d.moves.length
 rw [gave_end h.wf (Nat.le_refl _)] at h1
 exact ⟨i, nd, h1, h2⟩
/-- one node is written -/
theorem Inv.node (h : Inv K d) (i : Nat) (f : Nod → Nod) (hfr : ∀ x, (f x).fresh = x.fresh) (hf : ∀ k ∈ K, ∀ x, k.2 x → k.2 (f x)) : Inv K { d with nodes := d.nodes.set i (f (d.nodes.getD i zeroN)) } := by
 refine ⟨⟨h.wf.seen, by simpa using h.wf.sure, fun m hm => by simpa using h.wf.im m hm, fun m hm => ?_⟩, fun k hk j => ?_⟩
 ·rcases h.wf.kn m hm with h1 | ⟨nd, h1, h2⟩
  ·exact .inl h1
  ·refine .inr ?_
   show ∃ nd', (d.nodes.set i _)[m.node]? = some nd' ∧ _
   by_cases e : i = m.node
   ·subst e
    refine ⟨f nd, ?_, by rw [hfr]; exact h2⟩
    rw [List.getElem?_set_self (List.getElem?_eq_some_iff.1 h1).1, List.getD_eq_getElem?_getD, h1]
    rfl
   ·exact ⟨nd, by rw [List.getElem?_set_ne e]; exact h1, h2⟩
 obtain ⟨i', nd, h1, h2, h3⟩ := h.dur k hk j
 by_cases e : i = i'
 ·subst e
  have hi := (List.getElem?_eq_some_iff.1 h2).1
  refine ⟨i, f nd, h1, ?_, hf k hk nd h3⟩
  show (d.nodes.set i _)[i]? = _
  rw [List.getElem?_set_self hi, List.getD_eq_getElem?_getD, h2]
  rfl
 ·refine ⟨i', nd, h1, ?_, h3⟩
  show (d.nodes.set i _)[i']? = _
  rw [List.getElem?_set_ne e]
  exact h2
theorem gave_turn (d : Dsk) (m : Mv) (j : Nat) : gaveN (turnD d m) j = if j ≤ d.moves.length then gaveN d j else giveN (gaveN d d.moves.length) m := by
 unfold gaveN turnD
 simp only
 split
 ·rename_i h
  rw [List.take_append_of_le_length h]
 ·rename_i h
  rw [List.take_of_length_le (by simp; omega), List.foldl_append, List.take_length]
  rfl
/-- what a name is behind a move -/
theorem look_give {n : Nat} {l : Nms} (h : NmOk n l) (m : Mv) {x : Str} (hx : x ≠ []) : Vd.look (giveN l m) x = if m.name = x then some m.node else (Vd.look l x).filter (fun k => decide (k ≠ m.node)) := by
 unfold giveN
 by_cases h0 : m.name = []
 ·rw [if_pos h0, look_drop h.asc, if_neg (by rw [h0]; exact fun e => hx e.symm)]
 ·rw [if_neg h0, look_put (ascN_drop h.asc _), look_drop h.asc]
  by_cases e : x = m.name
  ·rw [if_pos e, if_pos e.symm]
  ·rw [if_neg e, if_neg (fun e2 => e e2.symm)]
/-- a move that takes none of the files away; one that puts a file in a kept one's place puts one of its kind there -/
theorem Inv.turn (h : Inv K d) (hg : Good K) {m : Mv} (hm : m.node < d.nodes.length) (hkn : Kn d m.node) (hk : ∀ k ∈ K, (m.name ≠ k.1 ∧ Vd.look d.seen k.1 ≠ some m.node) ∨ (m.name = k.1 ∧ ∃ nd, d.nodes[m.node]? = some nd ∧ k.2 nd)) : Inv K (turnD d m) := by
 refine ⟨⟨?_, h.wf.sure, fun x hx => ?_, fun x hx => ?_⟩, fun k hkk j => ?_⟩
 ·show giveN d.seen m = (d.moves ++ [m]).foldl giveN d.sure
  rw [List.foldl_append, ← h.wf.seen]
  rfl
 ·rcases List.mem_append.1 hx with hx | hx
  ·exact h.wf.im x hx
  ·rw [List.mem_singleton.1 hx]; exact hm
 ·rcases List.mem_append.1 hx with hx | hx
  ·exact h.wf.kn x hx
  ·rw [List.mem_singleton.1 hx]; exact hkn
 ·rw [gave_turn]
  split
  ·exact h.dur k hkk j
  ·rw [gave_end h.wf (Nat.le_refl _), look_give h.wf.names m (hg k hkk).2]
   rcases hk k hkk with ⟨h1, h2⟩ | ⟨h1, nd, h2, h3⟩
   ·obtain ⟨i, nd, h3, h4, h5⟩ := h.seen hkk
    rw [if_neg h1, h3]
    refine ⟨i, nd, ?_, h4, h5⟩
    rw [h3] at h2
    have : i ≠ m.node := fun e => h2 (by rw [e])
    simp [this]
   ·rw [if_pos h1]
    exact ⟨m.node, nd, rfl, h2, h3⟩
theorem Inv.fix (h : Inv K d) (hg : Good K) : Inv K (fixD d) := by
 refine ⟨⟨rfl, ?_, fun m hm => absurd hm List.not_mem_nil, fun m hm => absurd hm List.not_mem_nil⟩, fun k hk j => ?_⟩
 ·show NmOk (d.nodes.map staleN).length d.seen
  rw [List.length_map]
  exact h.wf.names
 ·obtain ⟨i, nd, h1, h2, h3⟩ := h.seen hk
  refine ⟨i, staleN nd, ?_, ?_, (hg k hk).1.stale nd h3⟩
  ·have : gaveN (fixD d) j = d.seen := by unfold gaveN fixD; simp
   rw [this]; exact h1
  ·show (d.nodes.map staleN)[i]? = _
   rw [List.getElem?_map, h2]
   rfl
theorem boots_keep {C : Nod → Prop} (hC : Closed C) : ∀ (L : List Nat) (ns : List Nod) (ks : List Int) (i : Nat) (nd : Nod), ns[i]? = some nd → C nd → ∃ nd', (bootIx L ns ks).1[i]? = some nd' ∧ C nd'
 | [], ns, ks, i, nd, h, hc => ⟨nd, h, hc⟩
 |a :: L, ns, ks, i, nd, h, hc => by
  rw [bootIx_cons]
  by_cases e : a = i
  ·subst e
   have hi := (List.getElem?_eq_some_iff.1 h).1
   refine boots_keep hC L _ _ a (bootN nd ks) ?_ (hC.boot nd ks hc)
   rw [List.getElem?_set_self hi, List.getD_eq_getElem?_getD, h]
   rfl
  ·refine boots_keep hC L _ _ i nd ?_ hc
   rw [List.getElem?_set_ne e]
   exact h
theorem Inv.boot (h : Inv K d) (hg : Good K) (t : Int) (ks : List Int) : Inv K (bootD d t ks).1 := by
 unfold bootD
 split
 ·exact h
 ·have hlen := bootIx_len (knownL d) d.nodes ks
  have hok : NmOk d.nodes.length ((d.moves.take t.toNat).foldl giveN d.sure) := folds_ok _ _ h.wf.sure (fun m hm => h.wf.im m (List.mem_of_mem_take hm))
  refine ⟨⟨rfl, ?_, fun m hm => absurd hm List.not_mem_nil, fun m hm => absurd hm List.not_mem_nil⟩, fun k hk j => ?_⟩
  ·show NmOk (((bootIx (knownL d) d.nodes ks).1).map staleN).length _
   rw [List.length_map, hlen]
   exact hok
  ·obtain ⟨i, nd, h1, h2, h3⟩ := h.dur k hk t.toNat
   obtain ⟨nd', h4, h5⟩ := boots_keep (hg k hk).1 (knownL d) d.nodes ks i nd h2 h3
   refine ⟨i, staleN nd', ?_, ?_, (hg k hk).1.stale nd' h5⟩
   ·show Vd.look (gaveN _ j) k.1 = some i
    unfold gaveN at h1 ⊢
    simpa [fixD] using h1
   ·show (((bootIx (knownL d) d.nodes ks).1).map staleN)[i]? = _
    rw [List.getElem?_map, h4]
    rfl
end
/-- a call that keeps the files -/
def Pres (K : List (Str × (Nod → Prop))) (f : Dsk → Dsk × Int) : Prop := ∀ d, Inv K d → Inv K (f d).1
section
variable {K : List (Str × (Nod → Prop))}
theorem touch_fst' (d : Dsk) (x : Str) : (touchD d x).1 = (changeD d).1 := by unfold touchD; split <;> rfl
theorem touch_look {d : Dsk} {x : Str} (h : (touchD d x).2.2 = 0) : Vd.look d.seen x = some (touchD d x).2.1 := by
 unfold touchD at h ⊢
 split at h
 ·rename_i h1; exact absurd h h1
 ·rename_i h1
  rw [if_neg h1]
  simp only at h ⊢
  unfold findE at h
  cases hl : Vd.look d.seen x with
  |none => rw [hl] at h; simp at h
  |some i => rfl
theorem pres_then {f g : Dsk → Dsk × Int} (hf : Pres K f) (hg : Pres K g) : Pres K (fun d => Sf.thenD (f d) g) := fun d h => by
 show Inv K (Sf.thenD (f d) g).1
 unfold Sf.thenD
 split
 ·exact hg _ (hf d h)
 ·exact hf d h
theorem pres_twice {f : Dsk → Dsk × Int} (hf : Pres K f) : Pres K (Sf.twice f) := fun d h => by
 unfold Sf.twice
 split
 ·exact hf d h
 ·exact hf _ (hf d h)
theorem pres_create (hg : Good K) (x : Str) : Pres K (fun d => createD d x) := fun d h => by
 show Inv K (createD d x).1
 have hc := h.change
 unfold createD
 split
 ·exact hc
 ·split
  ·exact hc
  ·split
   ·exact hc
   ·rename_i hno
    split
    ·exact hc
    ·obtain ⟨e1, e2, e3, e4, -⟩ := changeD_seen d
     have hb : Inv K (bornD (changeD d).1) := by
      refine ⟨⟨hc.wf.seen, hc.wf.sure.more (by simp [bornD]), fun m hm => Nat.lt_of_lt_of_le (hc.wf.im m hm) (by simp [bornD]), fun m hm => ?_⟩, fun k hk j => ?_⟩
      ·rcases hc.wf.kn m hm with h1 | ⟨nd, h1, h2⟩
       ·exact .inl h1
       ·refine .inr ⟨nd, ?_, h2⟩
        show ((changeD d).1.nodes ++ [newN])[m.node]? = _
        rw [List.getElem?_append_left (List.getElem?_eq_some_iff.1 h1).1]
        exact h1
      obtain ⟨i, nd, h1, h2, h3⟩ := hc.dur k hk j
      refine ⟨i, nd, h1, ?_, h3⟩
      show ((changeD d).1.nodes ++ [newN])[i]? = _
      rw [List.getElem?_append_left (List.getElem?_eq_some_iff.1 h2).1]
      exact h2
     refine hb.turn hg (by simp [bornD, e2]) (.inr ⟨newN, by show ((changeD d).1.nodes ++ [newN])[d.nodes.length]? = _; rw [e2]; simp, rfl⟩) (fun k hk => .inl ⟨?_, ?_⟩)
     ·obtain ⟨i, nd, h1, -⟩ := h.seen hk
      intro e
      have e : x = k.1 := e
      rw [e, h1] at hno
      exact hno rfl
     ·show Vd.look (changeD d).1.seen k.1 ≠ some d.nodes.length
      rw [e1]
      obtain ⟨i, nd, h1, h2, -⟩ := h.seen hk
      rw [h1]
      have := (List.getElem?_eq_some_iff.1 h2).1
      simp only [ne_eq, Option.some.injEq]
      omega
theorem pres_append (hg : Good K) (x b : Str) : Pres K (fun d => appendD d x b) := fun d h => by
 show Inv K (appendD d x b).1
 have hc := h.change
 unfold appendD
 split
 ·rw [touch_fst']; exact hc
 ·unfold writeD
  split
  ·rw [touch_fst']; exact hc
  ·rw [touch_fst']
   unfold putD nodD
   exact hc.node (touchD d x).2.1 (fun y => wroteN y ⟨y.seen.length, b⟩) (fun _ => rfl) (fun k hk y hy => (hg k hk).1.wrote y b hy)
theorem pres_sync (hg : Good K) (x : Str) : Pres K (fun d => syncD d x) := fun d h => by
 show Inv K (syncD d x).1
 have hc := h.change
 unfold syncD
 split
 ·rw [touch_fst']; exact hc
 ·rw [touch_fst']
  exact hc.node (touchD d x).2.1 settleN (fun _ => rfl) (fun k hk y hy => (hg k hk).1.settle y hy)
theorem pres_unlink (hg : Good K) {x : Str} (hx : ∀ k ∈ K, k.1 ≠ x) : Pres K (fun d => unlinkD d x) := fun d h => by
 show Inv K (unlinkD d x).1
 have hc := h.change
 unfold unlinkD
 split
 ·rw [touch_fst']; exact hc
 ·rename_i h0
  have h0 : (touchD d x).2.2 = 0 := Classical.byContradiction h0
  have hl := touch_look h0
  obtain ⟨e1, e2, e3, e4, -⟩ := changeD_seen d
  have hmem := (look_mem h.wf.names.asc).1 hl
  rw [touch_fst']
  refine hc.turn hg (by rw [e2]; exact h.wf.names.ix _ hmem) (hc.wf.kseen (p := (x, _)) (by rw [e1]; exact hmem)) (fun k hk => .inl ⟨fun e => (hg k hk).2 e.symm, ?_⟩)
  rw [e1]
  intro e
  have hm2 := (look_mem h.wf.names.asc).1 e
  have := h.wf.names.one _ hm2 _ hmem rfl
  simp only [Prod.mk.injEq] at this
  exact hx k hk this.1
theorem pres_rename (hg : Good K) {x y : Str} (hx : ∀ k ∈ K, k.1 ≠ x) (hy : ∀ k ∈ K, k.1 ≠ y) : Pres K (fun d => renameD d x y) := fun d h => by
 show Inv K (renameD d x y).1
 have hc := h.change
 unfold renameD
 split
 ·exact hc
 ·split
  ·exact hc
  ·split
   ·rename_i hs
    obtain ⟨e1, e2, e3, e4, -⟩ := changeD_seen d
    cases hl : Vd.look d.seen x with
    |none => rw [hl] at hs; cases hs
    |some i =>
     have hmem := (look_mem h.wf.names.asc).1 hl
     refine hc.turn hg (by rw [e2]; exact h.wf.names.ix _ hmem) (hc.wf.kseen (p := (x, _)) (by rw [e1]; exact hmem)) (fun k hk => .inl ⟨fun e => hy k hk e.symm, ?_⟩)
     rw [e1]
     intro e
     have hm2 := (look_mem h.wf.names.asc).1 e
     have := h.wf.names.one _ hm2 _ hmem rfl
     simp only [Prod.mk.injEq] at this
     exact hx k hk this.1
   ·exact hc
theorem pres_syncDir (hg : Good K) : Pres K syncDirD := fun d h => by
 unfold syncDirD
 split
 ·exact h.change
 ·exact h.change.fix hg
end
end Que
end Go.Proofs.YtcleakjjefmmbaaGreat

/- queue, plain: what safe's calls keep; a file that Make or Swap wrote is there for good. -/
namespace Go.Proofs.YtcleakjjefmmbaaGreat
open Go.RowKit
namespace Que
open Vd Sf
section
variable {K : List (Str × (Nod → Prop))} {C : Nod → Prop} {d : Dsk} {x y b : Str}
theorem pres_sSync (hg : Good K) (x : Str) : Pres K (sSync x) := pres_twice (pres_sync hg x)
theorem pres_sAppend (hg : Good K) (x b : Str) : Pres K (sAppend x b) := fun d h => pres_then (f := fun d => appendD d x b) (pres_append hg x b) (pres_sSync hg x) d h
theorem pres_sDir (hg : Good K) : Pres K sDir := pres_twice (pres_syncDir hg)
theorem pres_sUnlink (hg : Good K) (hx : ∀ k ∈ K, k.1 ≠ x) : Pres K (sUnlink x) := pres_twice (pres_unlink hg hx)
theorem pres_sMake (hg : Good K) (hx : ∀ k ∈ K, k.1 ≠ x) (b : Str) : Pres K (sMake x b) := fun d h => by
 unfold sMake
 split
 ·exact h
 ·have hc := pres_create hg x d h
  split
  ·exact hc
  ·have h2 := pres_then (f := sAppend x b) (pres_sAppend hg x b) (pres_sDir hg) _ hc
   unfold tidyD
   split
   ·exact h2
   ·exact pres_sUnlink hg hx _ h2
/-- a name's node is of a kind -/
def HasN (x : Str) (P : Nod → Prop) (d : Dsk) : Prop := ∃ k nd, Vd.look d.seen x = some k ∧ d.nodes[k]? = some nd ∧ P nd
theorem HasN.change {P : Nod → Prop} (h : HasN x P d) : HasN x P (changeD d).1 := by
 obtain ⟨e1, e2, -⟩ := changeD_seen d
 obtain ⟨k, nd, h1, h2, h3⟩ := h
 exact ⟨k, nd, by rw [e1]; exact h1, by rw [e2]; exact h2, h3⟩
theorem HasN.mono {P Q : Nod → Prop} (h : HasN x P d) (hq : ∀ nd, P nd → Q nd) : HasN x Q d := let ⟨k, nd, h1, h2, h3⟩ := h; ⟨k, nd, h1, h2, hq nd h3⟩
theorem create_ok (hw : Wf d) (hx : x ≠ []) (h : (createD d x).2 = 0) : HasN x (fun nd => nd = newN) (createD d x).1 := by
 obtain ⟨e1, e2, -⟩ := changeD_seen d
 have hw1 : Wf (changeD d).1 := (Inv.change (K := []) ⟨hw, fun k hk => absurd hk List.not_mem_nil⟩).wf
 unfold createD at h ⊢
 split at h
 ·rename_i h1; exact absurd h h1
 ·rename_i h1
  rw [if_neg h1]
  split at h
  ·exact absurd h (by simp)
  ·rename_i h2
   rw [if_neg h2]
   split at h
   ·exact absurd h (by simp)
   ·rename_i h3
    rw [if_neg h3]
    split at h
    ·exact absurd h (by simp)
    ·rename_i h4
     rw [if_neg h4]
     refine ⟨d.nodes.length, newN, ?_, ?_, rfl⟩
     ·show Vd.look (giveN (changeD d).1.seen ⟨d.nodes.length, x, true⟩) x = _
      rw [look_give hw1.names _ hx, if_pos rfl]
     ·show ((changeD d).1.nodes ++ [newN])[d.nodes.length]? = _
      rw [e2]
      simp
theorem append_ok {s : Str} (h : HasN x (fun nd => nd.seen = s) d) (he : (appendD d x b).2 = 0) : HasN x (fun nd => nd.seen = s ++ b) (appendD d x b).1 := by
 obtain ⟨e1, e2, -⟩ := changeD_seen d
 obtain ⟨k, nd, h1, h2, h3⟩ := h
 unfold appendD at he ⊢
 split at he
 ·rename_i h0; exact absurd he h0
 ·rename_i h0
  rw [if_neg h0]
  have hl := touch_look (Classical.byContradiction h0)
  rw [h1] at hl
  simp only [Option.some.injEq] at hl
  unfold writeD at he ⊢
  split at he
  ·exact absurd he (by simp)
  ·rename_i h4
   rw [if_neg h4, touch_fst', ← hl]
   have hk := (List.getElem?_eq_some_iff.1 h2).1
   have hn : nodD (changeD d).1 k = nd := by
    unfold nodD
    rw [e2, List.getD_eq_getElem?_getD, h2]
    rfl
   refine ⟨k, wroteN nd ⟨nd.seen.length, b⟩, ?_, ?_, ?_⟩
   ·show Vd.look (changeD d).1.seen x = some k
    rw [e1]; exact h1
   ·show ((changeD d).1.nodes.set k _)[k]? = _
    rw [List.getElem?_set_self (by rw [e2]; exact hk), hn]
   ·show overL nd.seen nd.seen.length b = s ++ b
    rw [overL_end, h3]
theorem sync_ok {P : Nod → Prop} (h : HasN x P d) : ((syncD d x).2 = 0 → HasN x (fun nd => ∃ n0, P n0 ∧ nd = settleN n0) (syncD d x).1) ∧ ((syncD d x).2 ≠ 0 → HasN x P (syncD d x).1) := by
 obtain ⟨e1, e2, -⟩ := changeD_seen d
 have hc := h.change
 obtain ⟨k, nd, h1, h2, h3⟩ := h
 unfold syncD
 split
 ·rename_i h0
  refine ⟨fun e => absurd e h0, fun _ => ?_⟩
  rw [touch_fst']; exact hc
 ·rename_i h0
  refine ⟨fun _ => ?_, fun e => absurd rfl e⟩
  have hl := touch_look (Classical.byContradiction h0)
  rw [h1] at hl
  simp only [Option.some.injEq] at hl
  rw [touch_fst', ← hl]
  have hk := (List.getElem?_eq_some_iff.1 h2).1
  refine ⟨k, settleN nd, by rw [e1]; exact h1, ?_, nd, h3, rfl⟩
  show ((changeD d).1.nodes.set k _)[k]? = _
  rw [List.getElem?_set_self (by rw [e2]; exact hk), e2, List.getD_eq_getElem?_getD, h2]
  rfl
theorem twice_ok {f : Dsk → Dsk × Int} {P Q : Dsk → Prop} (h1 : ∀ d, P d → (f d).2 = 0 → Q (f d).1) (h2 : ∀ d, P d → (f d).2 ≠ 0 → P (f d).1) (h : P d) (he : (Sf.twice f d).2 = 0) : Q (Sf.twice f d).1 := by
 unfold Sf.twice at he ⊢
 split
 ·rename_i hc
  rw [if_pos hc] at he
  exact h1 d h he
 ·rename_i hc
  rw [if_neg hc] at he
  exact h1 _ (h2 d h (fun e => hc (.inl e))) he
theorem then_ok {r : Dsk × Int} {f : Dsk → Dsk × Int} (he : (thenD r f).2 = 0) : r.2 = 0 ∧ (f r.1).2 = 0 ∧ (thenD r f).1 = (f r.1).1 := by
 unfold thenD at he ⊢
 split
 ·rename_i h
  rw [if_pos h] at he
  exact ⟨h, he, rfl⟩
 ·rename_i h
  rw [if_neg h] at he
  exact absurd he h
/-- a file that was appended to, and synced -/
theorem sappend_ok {s : Str} (h : HasN x (fun nd => nd.seen = s) d) (he : (sAppend x b d).2 = 0) : HasN x (fun nd => nd.seen = s ++ b ∧ nd.sure = s ++ b ∧ nd.pats = []) (sAppend x b d).1 := by
 unfold sAppend at he ⊢
 obtain ⟨h1, h2, h3⟩ := then_ok he
 rw [h3]
 exact (twice_ok (f := fun d => syncD d x) (P := HasN x (fun nd => nd.seen = s ++ b)) (Q := HasN x (fun nd => ∃ n0, n0.seen = s ++ b ∧ nd = settleN n0)) (fun d h => (sync_ok h).1) (fun d h => (sync_ok h).2) (append_ok h h1) h2).mono (fun nd ⟨n0, hn, e⟩ => by rw [e]; exact ⟨hn, hn, rfl⟩)
theorem sdir_ok {P : Nod → Prop} (hP : ∀ nd, P nd → P (staleN nd)) (h : HasN x P d) (he : (sDir d).2 = 0) : HasN x P (sDir d).1 ∧ ∀ j, gaveN (sDir d).1 j = (sDir d).1.seen := by
 refine twice_ok (f := syncDirD) (P := HasN x P) (Q := fun d => HasN x P d ∧ ∀ j, gaveN d j = d.seen) (fun d h he => ?_) (fun d h he => ?_) h he
 ·have hc := h.change
  unfold syncDirD at he ⊢
  split at he
  ·rename_i h0; exact absurd he h0
  ·rename_i h0
   rw [if_neg h0]
   obtain ⟨k, nd, h1, h2, h3⟩ := hc
   refine ⟨⟨k, staleN nd, h1, ?_, hP nd h3⟩, fun j => by unfold gaveN fixD; simp⟩
   show ((changeD d).1.nodes.map staleN)[k]? = _
   rw [List.getElem?_map, h2]
   rfl
 ·unfold syncDirD at he ⊢
  split at he
  ·rename_i h0
   rw [if_pos h0]
   exact h.change
  ·exact absurd rfl he
/-- Make answered OK: the file is there for good -/
theorem make_new (hg : Good K) (hC : Closed C) (hx0 : x ≠ []) (hx : ∀ k ∈ K, k.1 ≠ x) (hb : ∀ nd : Nod, nd.seen = b → nd.sure = b → nd.pats = [] → C nd) (h : Inv K d) (he : (sMake x b d).2 = 0) : Inv ((x, C) :: K) (sMake x b d).1 := by
 have hi := pres_sMake hg hx b d h
 refine ⟨hi.wf, fun k hk => ?_⟩
 rcases List.mem_cons.1 hk with rfl | hk
 ·clear hk
  show Dur C x _
  unfold sMake at he ⊢
  split at he
  ·exact absurd he (by simp)
  ·rename_i h1
   rw [if_neg h1]
   split at he
   ·rename_i h2; exact absurd he h2
   ·rename_i h2
    rw [if_neg h2]
    have hc := create_ok h.wf hx0 (Classical.byContradiction h2)
    unfold tidyD at he ⊢
    split at he
    ·rename_i h3
     rw [if_pos h3]
     obtain ⟨a1, a2, a3⟩ := then_ok he
     rw [a3]
     have ha := sappend_ok (s := []) (hc.mono (fun nd e => by rw [e]; rfl)) a1
     obtain ⟨⟨k, nd, b1, b2, b3⟩, b4⟩ := sdir_ok (P := C) hC.stale (ha.mono (fun nd e => hb nd e.1 e.2.1 e.2.2)) a2
     exact fun j => ⟨k, nd, by rw [b4]; exact b1, b2, b3⟩
    ·rename_i h3
     exact absurd (.inl he) h3
 ·exact hi.dur k hk
/-- Swap of a file that is kept, for another of its kind -/
theorem swap_keep (hg : Good K) (hC : Closed C) (hx0 : x ≠ []) (hx : ∀ k ∈ K, k.1 ≠ x) (hn : ∀ k ∈ K, k.1 ≠ x ++ dotN) (hb : ∀ nd : Nod, nd.seen = b → nd.sure = b → nd.pats = [] → C nd) : Pres ((x, C) :: K) (sSwap x b) := fun d h => by
 have hg2 : Good ((x, C) :: K) := fun k hk => by
  rcases List.mem_cons.1 hk with rfl | hk
  ·exact ⟨hC, hx0⟩
  ·exact hg k hk
 have hn2 : ∀ k ∈ (x, C) :: K, k.1 ≠ x ++ dotN := fun k hk e => by
  rcases List.mem_cons.1 hk with rfl | hk
  ·have := congrArg List.length e
   simp [dotN] at this
  ·exact hn k hk e
 have hxn : x ++ dotN ≠ [] := by simp [dotN]
 have h1 : Pres ((x, C) :: K) (sSwap1 x (x ++ dotN) b) := fun d h => by
  have h2 : Inv ((x, C) :: K) (thenD (thenD (thenD (createD d (x ++ dotN)) (sAppend (x ++ dotN) b)) (fun d => renameD d (x ++ dotN) x)) sDir).1 := by
   have ha : Inv ((x, C) :: K) (thenD (createD d (x ++ dotN)) (sAppend (x ++ dotN) b)).1 := pres_then (f := fun d => createD d (x ++ dotN)) (g := sAppend (x ++ dotN) b) (pres_create hg2 _) (pres_sAppend hg2 _ b) d h
   have hok : (thenD (createD d (x ++ dotN)) (sAppend (x ++ dotN) b)).2 = 0 → HasN (x ++ dotN) C (thenD (createD d (x ++ dotN)) (sAppend (x ++ dotN) b)).1 := fun e => by
    obtain ⟨a1, a2, a3⟩ := then_ok e
    rw [a3]
    have hc := create_ok h.wf hxn a1
    exact (sappend_ok (s := []) (hc.mono (fun nd e => by rw [e]; rfl)) a2).mono (fun nd e => hb nd e.1 e.2.1 e.2.2)
   have hr : Inv ((x, C) :: K) (thenD (thenD (createD d (x ++ dotN)) (sAppend (x ++ dotN) b)) (fun d => renameD d (x ++ dotN) x)).1 := by
    generalize thenD (createD d (x ++ dotN)) (sAppend (x ++ dotN) b) = r at *
    unfold thenD
    split
    ·rename_i h0
     have hN := hok h0
     have hc := ha.change
     show Inv _ (renameD r.1 (x ++ dotN) x).1
     unfold renameD
     split
     ·exact hc
     ·split
      ·exact hc
      ·split
       ·obtain ⟨e1, e2, e3, e4, -⟩ := changeD_seen r.1
        obtain ⟨i, nd, n1, n2, n3⟩ := hN
        rw [n1]
        have hmem := (look_mem ha.wf.names.asc).1 n1
        refine hc.turn hg2 (by rw [e2]; exact ha.wf.names.ix _ hmem) (hc.wf.kseen (p := (x ++ dotN, i)) (by rw [e1]; exact hmem)) (fun k hk => ?_)
        rcases List.mem_cons.1 hk with rfl | hk
        ·exact .inr ⟨rfl, nd, by rw [e2]; exact n2, n3⟩
        ·refine .inl ⟨fun e => hx k hk e.symm, ?_⟩
         rw [e1]
         intro e
         have hm2 := (look_mem ha.wf.names.asc).1 e
         have := ha.wf.names.one _ hm2 _ hmem rfl
         simp only [Prod.mk.injEq] at this
         exact hn k hk this.1
       ·exact hc
    ·exact ha
   generalize thenD (thenD (createD d (x ++ dotN)) (sAppend (x ++ dotN) b)) (fun d => renameD d (x ++ dotN) x) = r at *
   unfold thenD
   split
   ·exact pres_sDir hg2 _ hr
   ·exact hr
  unfold sSwap1 tidyS
  split
  ·exact h2
  ·exact pres_sUnlink hg2 hn2 _ h2
 unfold sSwap
 split
 ·exact h
 ·split
  ·have hu := pres_unlink hg2 hn2 d h
   split
   ·exact hu
   ·exact h1 _ hu
  ·exact h1 d h
end
end Que
end Go.Proofs.YtcleakjjefmmbaaGreat

/- queue, plain: what a call on one name leaves of all others. -/
namespace Go.Proofs.YtcleakjjefmmbaaGreat
open Go.RowKit
namespace Que
open Vd Sf
/-- from d to d': nothing but the names Y was touched -/
structure Step (Y : Str → Prop) (d d' : Dsk) : Prop where
 inv : ∀ K, Good K → (∀ k ∈ K, ¬ Y k.1) → Inv K d → Inv K d'
 has : Wf d → ∀ x, x ≠ [] → ¬ Y x → ∀ Q : Str → Prop, HasN x (fun nd => Q nd.seen) d → HasN x (fun nd => Q nd.seen) d'
 no : Wf d → ∀ x, x ≠ [] → ¬ Y x → Vd.look d.seen x = none → Vd.look d'.seen x = none
section
variable {Y Z : Str → Prop} {d d' d2 : Dsk} {x y b : Str}
theorem Step.wf (h : Step Y d d') (hw : Wf d) : Wf d' := (h.inv [] (fun k hk => absurd hk List.not_mem_nil) (fun k hk => absurd hk List.not_mem_nil) ⟨hw, fun k hk => absurd hk List.not_mem_nil⟩).wf
theorem Step.refl (Y : Str → Prop) (d : Dsk) : Step Y d d := ⟨fun _ _ _ h => h, fun _ _ _ _ _ h => h, fun _ _ _ _ h => h⟩
theorem Step.trans (h : Step Y d d') (k : Step Y d' d2) : Step Y d d2 :=
 ⟨fun K hg hK hi => k.inv K hg hK (h.inv K hg hK hi), fun hw x h0 hx Q hq => k.has (h.wf hw) x h0 hx Q (h.has hw x h0 hx Q hq), fun hw x h0 hx hn => k.no (h.wf hw) x h0 hx (h.no hw x h0 hx hn)⟩
theorem Step.mono (h : Step Y d d') (hY : ∀ x, Y x → Z x) : Step Z d d' :=
 ⟨fun K hg hK hi => h.inv K hg (fun k hk e => hK k hk (hY _ e)) hi, fun hw x h0 hx => h.has hw x h0 (fun e => hx (hY x e)), fun hw x h0 hx => h.no hw x h0 (fun e => hx (hY x e))⟩
theorem step_change (Y : Str → Prop) (d : Dsk) : Step Y d (changeD d).1 := by
 obtain ⟨e1, e2, e3, e4, -⟩ := changeD_seen d
 exact ⟨fun K _ _ hi => hi.change, fun _ x _ _ Q hq => hq.change, fun _ x _ _ hn => by rw [e1]; exact hn⟩
/-- a step whose names are the old ones and a move -/
theorem has_turn {Q : Nod → Prop} {m : Mv} (hw : Wf d) (hx : x ≠ []) (h1 : m.name ≠ x) (h2 : Vd.look d.seen x ≠ some m.node) (h : HasN x Q d) : HasN x Q (turnD d m) := by
 obtain ⟨k, nd, a1, a2, a3⟩ := h
 refine ⟨k, nd, ?_, a2, a3⟩
 show Vd.look (giveN d.seen m) x = some k
 rw [look_give hw.names m hx, if_neg h1, a1]
 have : k ≠ m.node := fun e => h2 (by rw [a1, e])
 simp [this]
theorem no_turn {m : Mv} (hw : Wf d) (hx : x ≠ []) (h1 : m.name ≠ x) (h : Vd.look d.seen x = none) : Vd.look (turnD d m).seen x = none := by
 show Vd.look (giveN d.seen m) x = none
 rw [look_give hw.names m hx, if_neg h1, h]
 rfl
theorem has_node {Q : Nod → Prop} {i : Nat} {nd' : Nod} (h : HasN x Q d) (hi : Vd.look d.seen x ≠ some i) : HasN x Q { d with nodes := d.nodes.set i nd' } := by
 obtain ⟨k, nd, a1, a2, a3⟩ := h
 refine ⟨k, nd, a1, ?_, a3⟩
 show (d.nodes.set i nd')[k]? = _
 rw [List.getElem?_set_ne (fun e => hi (by rw [a1, e]))]
 exact a2
theorem look_ne (hw : Wf d) {i : Nat} (hy : Vd.look d.seen y = some i) (hxy : x ≠ y) : Vd.look d.seen x ≠ some i := fun e => by
 have h1 := (look_mem hw.names.asc).1 hy
 have h2 := (look_mem hw.names.asc).1 e
 have := hw.names.one _ h2 _ h1 rfl
 simp only [Prod.mk.injEq] at this
 exact hxy this.1
theorem step_create (d : Dsk) (y : Str) : Step (· = y) d (createD d y).1 := by
 obtain ⟨e1, e2, e3, e4, -⟩ := changeD_seen d
 have hc := step_change (· = y) d
 refine ⟨fun K hg _ hi => pres_create hg y d hi, fun hw x h0 hx Q hq => ?_, fun hw x h0 hx hn => ?_⟩
 ·have hq1 := hq.change
  have hw1 := hc.wf hw
  unfold createD
  split
  ·exact hq1
  ·split
   ·exact hq1
   ·split
    ·exact hq1
    ·split
     ·exact hq1
     ·obtain ⟨k, nd, a1, a2, a3⟩ := hq1
      have hk := (List.getElem?_eq_some_iff.1 a2).1
      refine ⟨k, nd, ?_, ?_, a3⟩
      ·show Vd.look (giveN (changeD d).1.seen ⟨d.nodes.length, y, true⟩) x = some k
       rw [look_give hw1.names _ h0, if_neg (fun e => hx e.symm), a1]
       rw [e2] at hk
       have : k ≠ d.nodes.length := by omega
       simp [this]
      ·show ((changeD d).1.nodes ++ [newN])[k]? = _
       rw [List.getElem?_append_left hk]
       exact a2
 ·have hw1 := hc.wf hw
  unfold createD
  split
  ·rw [e1]; exact hn
  ·split
   ·rw [e1]; exact hn
   ·split
    ·rw [e1]; exact hn
    ·split
     ·rw [e1]; exact hn
     ·show Vd.look (giveN (changeD d).1.seen ⟨d.nodes.length, y, true⟩) x = none
      rw [look_give hw1.names _ h0, if_neg (fun e => hx e.symm), e1, hn]
      rfl
theorem step_append (d : Dsk) (y b : Str) : Step (· = y) d (appendD d y b).1 := by
 obtain ⟨e1, e2, e3, e4, -⟩ := changeD_seen d
 refine ⟨fun K hg _ hi => pres_append hg y b d hi, fun hw x h0 hx Q hq => ?_, fun hw x h0 hx hn => ?_⟩
 ·have hq1 := hq.change
  unfold appendD
  split
  ·rw [touch_fst']; exact hq1
  ·rename_i ht
   unfold writeD
   split
   ·rw [touch_fst']; exact hq1
   ·rw [touch_fst']
    refine has_node hq1 ?_
    rw [e1]
    exact look_ne hw (touch_look (Classical.byContradiction ht)) hx
 ·unfold appendD
  split
  ·rw [touch_fst', e1]; exact hn
  ·unfold writeD
   split
   ·rw [touch_fst', e1]; exact hn
   ·rw [touch_fst']
    show Vd.look (changeD d).1.seen x = none
    rw [e1]; exact hn
theorem step_sync (d : Dsk) (y : Str) : Step (· = y) d (syncD d y).1 := by
 obtain ⟨e1, e2, e3, e4, -⟩ := changeD_seen d
 refine ⟨fun K hg _ hi => pres_sync hg y d hi, fun hw x h0 hx Q hq => ?_, fun hw x h0 hx hn => ?_⟩
 ·have hq1 := hq.change
  unfold syncD
  split
  ·rw [touch_fst']; exact hq1
  ·rename_i ht
   rw [touch_fst']
   refine has_node hq1 ?_
   rw [e1]
   exact look_ne hw (touch_look (Classical.byContradiction ht)) hx
 ·unfold syncD
  split
  ·rw [touch_fst', e1]; exact hn
  ·rw [touch_fst']
   show Vd.look (changeD d).1.seen x = none
   rw [e1]; exact hn
theorem step_unlink (d : Dsk) (y : Str) : Step (· = y) d (unlinkD d y).1 := by
 obtain ⟨e1, e2, e3, e4, -⟩ := changeD_seen d
 have hc := step_change (· = y) d
 refine ⟨fun K hg hK hi => pres_unlink hg hK d hi, fun hw x h0 hx Q hq => ?_, fun hw x h0 hx hn => ?_⟩
 ·unfold unlinkD
  split
  ·rw [touch_fst']; exact hq.change
  ·rename_i ht
   rw [touch_fst']
   refine has_turn (hc.wf hw) h0 (fun e => h0 e.symm) ?_ hq.change
   rw [e1]
   exact look_ne hw (touch_look (Classical.byContradiction ht)) hx
 ·unfold unlinkD
  split
  ·rw [touch_fst', e1]; exact hn
  ·rw [touch_fst']
   exact no_turn (hc.wf hw) h0 (fun e => h0 e.symm) (by rw [e1]; exact hn)
theorem step_rename (d : Dsk) (y z : Str) : Step (fun x => x = y ∨ x = z) d (renameD d y z).1 := by
 obtain ⟨e1, e2, e3, e4, -⟩ := changeD_seen d
 have hc := step_change (fun x => x = y ∨ x = z) d
 refine ⟨fun K hg hK hi => pres_rename hg (fun k hk e => hK k hk (.inl e)) (fun k hk e => hK k hk (.inr e)) d hi, fun hw x h0 hx Q hq => ?_, fun hw x h0 hx hn => ?_⟩
 ·unfold renameD
  split
  ·exact hq.change
  ·split
   ·exact hq.change
   ·split
    ·rename_i hs
     cases hl : Vd.look d.seen y with
     |none => rw [hl] at hs; cases hs
     |some i =>
      refine has_turn (hc.wf hw) h0 (fun e => hx (.inr e.symm)) ?_ hq.change
      rw [e1]
      exact look_ne hw hl (fun e => hx (.inl e))
    ·exact hq.change
 ·unfold renameD
  split
  ·rw [e1]; exact hn
  ·split
   ·rw [e1]; exact hn
   ·split
    ·exact no_turn (hc.wf hw) h0 (fun e => hx (.inr e.symm)) (by rw [e1]; exact hn)
    ·rw [e1]; exact hn
theorem step_syncDir (Y : Str → Prop) (d : Dsk) : Step Y d (syncDirD d).1 := by
 obtain ⟨e1, e2, e3, e4, -⟩ := changeD_seen d
 refine ⟨fun K hg _ hi => pres_syncDir hg d hi, fun hw x h0 hx Q hq => ?_, fun hw x h0 hx hn => ?_⟩
 ·unfold syncDirD
  split
  ·exact hq.change
  ·obtain ⟨k, nd, a1, a2, a3⟩ := hq.change
   refine ⟨k, staleN nd, a1, ?_, a3⟩
   show ((changeD d).1.nodes.map staleN)[k]? = _
   rw [List.getElem?_map, a2]
   rfl
 ·unfold syncDirD
  split
  ·rw [e1]; exact hn
  ·show Vd.look (changeD d).1.seen x = none
   rw [e1]; exact hn
theorem step_then {r : Dsk × Int} {f : Dsk → Dsk × Int} (h : Step Y d r.1) (hf : ∀ d, Step Y d (f d).1) : Step Y d (thenD r f).1 := by
 unfold thenD
 split
 ·exact h.trans (hf _)
 ·exact h
theorem step_twice {f : Dsk → Dsk × Int} (hf : ∀ d, Step Y d (f d).1) (d : Dsk) : Step Y d (Sf.twice f d).1 := by
 unfold Sf.twice
 split
 ·exact hf d
 ·exact (hf d).trans (hf _)
theorem step_sAppend (d : Dsk) (y b : Str) : Step (· = y) d (sAppend y b d).1 := step_then (step_append d y b) (step_twice (fun d => step_sync d y))
theorem step_sDir (Y : Str → Prop) (d : Dsk) : Step Y d (sDir d).1 := step_twice (step_syncDir Y) d
theorem step_sUnlink (d : Dsk) (y : Str) : Step (· = y) d (sUnlink y d).1 := step_twice (fun d => step_unlink d y) d
theorem step_sMake (d : Dsk) (y b : Str) : Step (· = y) d (sMake y b d).1 := by
 unfold sMake
 split
 ·exact Step.refl _ _
 ·split
  ·exact step_create d y
  ·have h2 : Step (· = y) d (thenD (sAppend y b (createD d y).1) sDir).1 := step_then ((step_create d y).trans (step_sAppend _ y b)) (step_sDir _)
   unfold tidyD
   split
   ·exact h2
   ·exact h2.trans (step_sUnlink _ y)
theorem step_sDrop (d : Dsk) (y : Str) : Step (· = y) d (sDrop y d).1 := by
 unfold sDrop
 split
 ·exact Step.refl _ _
 ·exact step_then (step_unlink d y) (step_sDir _)
theorem step_sSwap (d : Dsk) (y b : Str) : Step (fun x => x = y ∨ x = y ++ dotN) d (sSwap y b d).1 := by
 have hm : ∀ x, x = y ++ dotN → (x = y ∨ x = y ++ dotN) := fun _ e => .inr e
 have h1 : ∀ d, Step (fun x => x = y ∨ x = y ++ dotN) d (sSwap1 y (y ++ dotN) b d).1 := fun d => by
  have h2 : Step (fun x => x = y ∨ x = y ++ dotN) d (thenD (thenD (thenD (createD d (y ++ dotN)) (sAppend (y ++ dotN) b)) (fun d => renameD d (y ++ dotN) y)) sDir).1 :=
   step_then (step_then (step_then ((step_create d (y ++ dotN)).mono hm) (fun d => (step_sAppend d _ b).mono hm)) (fun d => (step_rename d (y ++ dotN) y).mono (fun x e => e.elim .inr .inl))) (step_sDir _)
  unfold sSwap1 tidyS
  split
  ·exact h2
  ·exact h2.trans ((step_sUnlink _ _).mono hm)
 unfold sSwap
 split
 ·exact Step.refl _ _
 ·split
  ·have hu := (step_unlink d (y ++ dotN)).mono hm
   split
   ·exact hu
   ·exact hu.trans (h1 _)
  ·exact h1 d
theorem step_unlinks : ∀ (l : List Str) (d : Dsk), Step (· ∈ l) d (unlinksD l d).1
 | [], d => Step.refl _ _
 |y :: l, d => by
  have h1 : Step (· ∈ y :: l) d (unlinkD d y).1 := (step_unlink d y).mono (fun x e => by rw [e]; exact List.mem_cons_self ..)
  unfold unlinksD
  split
  ·exact h1
  ·exact h1.trans ((step_unlinks l _).mono (fun x e => List.mem_cons_of_mem _ e))
theorem step_sTidy (d : Dsk) (p : Str) : Step (fun x => tidyN p x = true) d (sTidy p d).1 := by
 unfold sTidy
 split
 ·exact Step.refl _ _
 ·exact (step_unlinks _ d).mono (fun x hx => by
   unfold tidyL at hx
   exact (List.mem_filter.1 hx).2)
end
end Que
end Go.Proofs.YtcleakjjefmmbaaGreat

/- queue, plain: what is left of a file by a call that fails. -/
namespace Go.Proofs.YtcleakjjefmmbaaGreat
open Go.RowKit
namespace Que
open Vd Sf
/-- a failing call doesn't say that the power is gone -/
def Tf (d : Dsk) : Prop := d.fail.2 ≠ 11
/-- no call fails any more, but for the power -/
def Spent (d : Dsk) : Prop := d.fail.1 < 0
section
variable {d : Dsk} {x y b : Str}
theorem change_fail2 (d : Dsk) : (changeD d).1.fail.2 = d.fail.2 := by
 unfold changeD
 split
 ·rfl
 ·split
  ·rfl
  ·split <;> rfl
theorem spring_neg' {n : Int} (h : n < 0) : springT n = (n, false) := by unfold springT; rw [if_pos h]
theorem spring_true {n : Int} (h : (springT n).2 = true) : (springT n).1 < 0 := by
 unfold springT at h ⊢
 split
 ·rename_i hn; rw [if_pos hn] at h; cases h
 ·rename_i hn
  rw [if_neg hn] at h
  simpa using h
theorem change_spent (h : Spent d) : Spent (changeD d).1 ∧ ((changeD d).2 = 0 ∨ (changeD d).2 = 11) := by
 unfold Spent at h ⊢
 have e := spring_neg' h
 unfold changeD
 split
 ·exact ⟨h, .inr rfl⟩
 ·split
  ·exact ⟨by show (springT d.fail.1).1 < 0; rw [e]; exact h, .inr rfl⟩
  ·rw [e]
   exact ⟨h, .inl rfl⟩
theorem change_err (h : (changeD d).2 ≠ 0) (h2 : (changeD d).2 ≠ 11) : Spent (changeD d).1 := by
 unfold Spent
 unfold changeD at h h2 ⊢
 split at h
 ·rename_i h0; rw [if_pos h0] at h2; exact absurd rfl h2
 ·rename_i h0
  rw [if_neg h0] at h2 ⊢
  split at h
  ·rename_i h1; rw [if_pos h1] at h2; exact absurd rfl h2
  ·rename_i h1
   rw [if_neg h1] at h2 ⊢
   split at h
   ·rename_i h3
    rw [if_pos h3]
    exact spring_true h3
   ·exact absurd rfl h
theorem change_11 (hf : Tf d) (h : (changeD d).2 = 11) : (changeD d).1.off = true := by
 unfold changeD at h ⊢
 split at h
 ·rename_i h0; rw [if_pos h0]; exact h0
 ·rename_i h0
  rw [if_neg h0]
  split at h
  ·rename_i h1; rw [if_pos h1]
  ·split at h
   ·exact absurd h hf
   ·exact absurd h (by simp)
theorem change_off (h : d.off = true) : changeD d = (d, 11) := by unfold changeD; rw [if_pos h]
theorem change_on (h : (changeD d).2 = 0) : (changeD d).1.off = false := by
 unfold changeD at h ⊢
 split at h
 ·exact absurd h (by simp)
 ·rename_i h0
  rw [if_neg h0]
  split at h
  ·exact absurd h (by simp)
  ·rename_i h1
   rw [if_neg h1]
   split <;> rfl
/-- gone, or the power is -/
def Gone (y : Str) (d : Dsk) : Prop := d.off = true ∨ Vd.look d.seen y = none
theorem touch_cases (d : Dsk) (x : Str) : ((changeD d).2 ≠ 0 ∧ (touchD d x).2.2 = (changeD d).2) ∨ ((changeD d).2 = 0 ∧ Vd.look d.seen x = none ∧ (touchD d x).2.2 = 7) ∨ ((changeD d).2 = 0 ∧ ∃ i, Vd.look d.seen x = some i ∧ (touchD d x).2 = (i, 0)) := by
 unfold touchD findE
 split
 ·rename_i h; exact .inl ⟨h, rfl⟩
 ·rename_i h
  have h : (changeD d).2 = 0 := Classical.byContradiction h
  cases hl : Vd.look d.seen x with
  |none => exact .inr (.inl ⟨h, rfl, rfl⟩)
  |some i => exact .inr (.inr ⟨h, i, rfl, rfl⟩)
/-- Unlink: gone; not there; or the call failed -/
theorem unlink_out (hw : Wf d) (hy : y ≠ []) : ((unlinkD d y).2 = 0 ∧ Vd.look (unlinkD d y).1.seen y = none) ∨ ((unlinkD d y).2 = 7 ∧ (unlinkD d y).1 = (changeD d).1 ∧ Vd.look d.seen y = none) ∨ ((changeD d).2 ≠ 0 ∧ (unlinkD d y).2 = (changeD d).2 ∧ (unlinkD d y).1 = (changeD d).1) := by
 obtain ⟨e1, e2, e3, e4, -⟩ := changeD_seen d
 have hw1 := (step_change (fun _ => False) d).wf hw
 unfold unlinkD
 rcases touch_cases d y with ⟨h1, h2⟩ | ⟨h1, h2, h3⟩ | ⟨h1, i, h2, h3⟩
 ·rw [h2, if_pos h1, touch_fst']
  exact .inr (.inr ⟨h1, rfl, rfl⟩)
 ·rw [h3, if_pos (by decide), touch_fst']
  exact .inr (.inl ⟨rfl, rfl, h2⟩)
 ·rw [h3, if_neg (by simp), touch_fst']
  refine .inl ⟨rfl, ?_⟩
  show Vd.look (giveN (changeD d).1.seen ⟨i, [], false⟩) y = none
  rw [look_give hw1.names _ hy, if_neg (fun e => hy e.symm), e1, h2]
  simp
theorem gone_unlink (hw : Wf d) (hf : Tf d) (hy : y ≠ []) : Gone y (sUnlink y d).1 := by
 obtain ⟨e1, e2, e3, e4, -⟩ := changeD_seen d
 have hw1 := (step_change (fun _ => False) d).wf hw
 have hf1 : Tf (changeD d).1 := by unfold Tf; rw [change_fail2]; exact hf
 obtain ⟨g1, -⟩ := changeD_seen (changeD d).1
 unfold sUnlink Sf.twice
 rcases unlink_out hw hy with ⟨h1, h2⟩ | ⟨h1, h2, h3⟩ | ⟨h1, h2, h3⟩
 ·rw [if_pos (.inl h1)]
  exact .inr h2
 ·rw [if_neg (by rw [h1]; decide), h2]
  rcases unlink_out hw1 hy with ⟨k1, k2⟩ | ⟨k1, k2, k3⟩ | ⟨k1, k2, k3⟩
  ·exact .inr k2
  ·rw [k2]; exact .inr (by rw [g1, e1]; exact h3)
  ·rw [k3]; exact .inr (by rw [g1, e1]; exact h3)
 ·by_cases h11 : (changeD d).2 = 11
  ·rw [if_pos (.inr (by rw [h2]; exact h11)), h3]
   exact .inl (change_11 hf h11)
  ·rw [if_neg (by rw [h2]; exact fun e => e.elim h1 h11), h3]
   have hs := change_spent (change_err h1 h11)
   rcases unlink_out hw1 hy with ⟨k1, k2⟩ | ⟨k1, k2, k3⟩ | ⟨k1, k2, k3⟩
   ·exact .inr k2
   ·rw [k2]; exact .inr (by rw [g1]; exact k3)
   ·rw [k3]
    rcases hs.2 with h0 | h0
    ·exact absurd h0 k1
    ·exact .inl (change_11 hf1 h0)
/-- what a call leaves of the trap: its code; and whether its answer 11 is the power's -/
structure Tame (f : Dsk → Dsk × Int) : Prop where
 code : ∀ d, (f d).1.fail.2 = d.fail.2
 pow : ∀ d, Tf d → (f d).2 = 11 → (f d).1.off = true
theorem tame_create (x : Str) : Tame (fun d => createD d x) := by
 refine ⟨fun d => ?_, fun d hf h => ?_⟩
 ·show (createD d x).1.fail.2 = _
  have h0 := change_fail2 d
  unfold createD
  split
  ·exact h0
  ·split
   ·exact h0
   ·split
    ·exact h0
    ·split
     ·exact h0
     ·exact h0
 ·have h : (createD d x).2 = 11 := h
  show (createD d x).1.off = true
  unfold createD at h ⊢
  split at h
  ·rename_i h0; rw [if_pos h0]; exact change_11 hf h
  ·split at h
   ·exact absurd h (by simp)
   ·split at h
    ·exact absurd h (by simp)
    ·split at h
     ·exact absurd h (by simp)
     ·exact absurd h (by simp)
theorem tame_append (x b : Str) : Tame (fun d => appendD d x b) := by
 refine ⟨fun d => ?_, fun d hf h => ?_⟩
 ·show (appendD d x b).1.fail.2 = _
  have h0 := change_fail2 d
  unfold appendD writeD
  split
  ·rw [touch_fst']; exact h0
  ·split
   ·rw [touch_fst']; exact h0
   ·rw [touch_fst']; exact h0
 ·have h : (appendD d x b).2 = 11 := h
  show (appendD d x b).1.off = true
  unfold appendD at h ⊢
  split at h
  ·rename_i h0
   rw [if_pos h0]
   rcases touch_cases d x with ⟨h1, h2⟩ | ⟨h1, h2, h3⟩ | ⟨h1, i, h2, h3⟩
   ·rw [touch_fst']; exact change_11 hf (by rw [← h2]; exact h)
   ·rw [h3] at h; exact absurd h (by decide)
   ·rw [h3] at h0; exact absurd rfl h0
  ·unfold writeD at h
   split at h
   ·exact absurd h (by simp)
   ·exact absurd h (by simp)
theorem tame_sync (x : Str) : Tame (fun d => syncD d x) := by
 refine ⟨fun d => ?_, fun d hf h => ?_⟩
 ·show (syncD d x).1.fail.2 = _
  have h0 := change_fail2 d
  unfold syncD
  split
  ·rw [touch_fst']; exact h0
  ·rw [touch_fst']; exact h0
 ·have h : (syncD d x).2 = 11 := h
  show (syncD d x).1.off = true
  unfold syncD at h ⊢
  split at h
  ·rename_i h0
   rw [if_pos h0]
   rcases touch_cases d x with ⟨h1, h2⟩ | ⟨h1, h2, h3⟩ | ⟨h1, i, h2, h3⟩
   ·rw [touch_fst']; exact change_11 hf (by rw [← h2]; exact h)
   ·rw [h3] at h; exact absurd h (by decide)
   ·rw [h3] at h0; exact absurd rfl h0
  ·exact absurd h (by simp)
theorem tame_unlink (x : Str) : Tame (fun d => unlinkD d x) := by
 refine ⟨fun d => ?_, fun d hf h => ?_⟩
 ·show (unlinkD d x).1.fail.2 = _
  have h0 := change_fail2 d
  unfold unlinkD
  split
  ·rw [touch_fst']; exact h0
  ·rw [touch_fst']; exact h0
 ·have h : (unlinkD d x).2 = 11 := h
  show (unlinkD d x).1.off = true
  unfold unlinkD at h ⊢
  split at h
  ·rename_i h0
   rw [if_pos h0]
   rcases touch_cases d x with ⟨h1, h2⟩ | ⟨h1, h2, h3⟩ | ⟨h1, i, h2, h3⟩
   ·rw [touch_fst']; exact change_11 hf (by rw [← h2]; exact h)
   ·rw [h3] at h; exact absurd h (by decide)
   ·rw [h3] at h0; exact absurd rfl h0
  ·exact absurd h (by simp)
theorem tame_rename (x y : Str) : Tame (fun d => renameD d x y) := by
 refine ⟨fun d => ?_, fun d hf h => ?_⟩
 ·show (renameD d x y).1.fail.2 = _
  have h0 := change_fail2 d
  unfold renameD
  split
  ·exact h0
  ·split
   ·exact h0
   ·split
    ·exact h0
    ·exact h0
 ·have h : (renameD d x y).2 = 11 := h
  show (renameD d x y).1.off = true
  unfold renameD at h ⊢
  split at h
  ·rename_i h0; rw [if_pos h0]; exact change_11 hf h
  ·split at h
   ·exact absurd h (by simp)
   ·split at h
    ·exact absurd h (by simp)
    ·exact absurd h (by simp)
theorem tame_syncDir : Tame syncDirD := by
 refine ⟨fun d => ?_, fun d hf h => ?_⟩
 ·have h0 := change_fail2 d
  unfold syncDirD
  split
  ·exact h0
  ·exact h0
 ·unfold syncDirD at h ⊢
  split at h
  ·rename_i h0; rw [if_pos h0]; exact change_11 hf h
  ·exact absurd h (by simp)
theorem tame_then {f g : Dsk → Dsk × Int} (hf : Tame f) (hg : Tame g) : Tame (fun d => thenD (f d) g) := by
 refine ⟨fun d => ?_, fun d ht h => ?_⟩
 ·show (thenD (f d) g).1.fail.2 = _
  unfold thenD
  split
  ·rw [hg.code, hf.code]
  ·exact hf.code d
 ·have h : (thenD (f d) g).2 = 11 := h
  show (thenD (f d) g).1.off = true
  unfold thenD at h ⊢
  split at h
  ·rename_i h0
   rw [if_pos h0]
   exact hg.pow _ (by unfold Tf; rw [hf.code]; exact ht) h
  ·rename_i h0
   rw [if_neg h0]
   exact hf.pow d ht h
theorem tame_twice {f : Dsk → Dsk × Int} (hf : Tame f) : Tame (Sf.twice f) := by
 refine ⟨fun d => ?_, fun d ht h => ?_⟩
 ·unfold Sf.twice
  split
  ·exact hf.code d
  ·rw [hf.code, hf.code]
 ·unfold Sf.twice at h ⊢
  split at h
  ·rename_i h0; rw [if_pos h0]; exact hf.pow d ht h
  ·rename_i h0
   rw [if_neg h0]
   exact hf.pow _ (by unfold Tf; rw [hf.code]; exact ht) h
theorem tame_sAppend (x b : Str) : Tame (sAppend x b) := tame_then (f := fun d => appendD d x b) (g := sSync x) (tame_append x b) (tame_twice (tame_sync x))
theorem tame_sDir : Tame sDir := tame_twice tame_syncDir
theorem tame_sUnlink (x : Str) : Tame (sUnlink x) := tame_twice (tame_unlink x)
theorem tame_sMake (x b : Str) : Tame (sMake x b) := by
 have hc := tame_create x
 have ht := tame_then (f := sAppend x b) (g := sDir) (tame_sAppend x b) tame_sDir
 refine ⟨fun d => ?_, fun d hf h => ?_⟩
 ·unfold sMake
  split
  ·rfl
  ·split
   ·exact hc.code d
   ·unfold tidyD
    split
    ·rw [ht.code]; exact hc.code d
    ·show (sUnlink x _).1.fail.2 = _
     rw [(tame_sUnlink x).code, ht.code]; exact hc.code d
 ·unfold sMake at h ⊢
  split at h
  ·exact absurd h (by simp)
  ·rename_i h0
   rw [if_neg h0]
   split at h
   ·rename_i h1; rw [if_pos h1]; exact hc.pow d hf h
   ·rename_i h1
    rw [if_neg h1]
    have hf1 : Tf (createD d x).1 := by unfold Tf; rw [hc.code]; exact hf
    unfold tidyD at h ⊢
    split at h
    ·rename_i h2; rw [if_pos h2]; exact ht.pow _ hf1 h
    ·rename_i h2
     exact absurd (.inr h) h2
theorem has_false (h : hasD d x = false) : Gone x d := by
 unfold hasD textD at h
 by_cases ho : d.off = true
 ·exact .inl ho
 ·rw [if_neg ho] at h
  cases hl : Vd.look d.seen x with
  |none => exact .inr hl
  |some i => rw [hl] at h; simp at h
/-- Make: done; there was such a file; the power is gone; or nothing is left -/
theorem make_out (hw : Wf d) (hf : Tf d) (hx : x ≠ []) : (sMake x b d).2 = 0 ∨ (sMake x b d).1 = d ∨ Gone x (sMake x b d).1 := by
 unfold sMake
 split
 ·exact .inr (.inl rfl)
 ·rename_i hh
  have hh : Gone x d := has_false (by simpa using hh)
  obtain ⟨e1, e2, e3, e4, -⟩ := changeD_seen d
  split
  ·rename_i h1
   refine .inr (.inr ?_)
   rcases hh with ho | hn
   ·unfold createD at h1 ⊢
    rw [change_off ho]
    rw [if_pos (by show (11 : Int) ≠ 0; decide)]
    exact .inl ho
   ·refine .inr ?_
    unfold createD at h1 ⊢
    split at h1
    ·rename_i h2; rw [if_pos h2, e1]; exact hn
    ·rename_i h2
     rw [if_neg h2]
     split at h1
     ·rename_i h3; rw [if_pos h3, e1]; exact hn
     ·rename_i h3
      rw [if_neg h3]
      split at h1
      ·rename_i h4; rw [if_pos h4, e1]; exact hn
      ·rename_i h4
       rw [if_neg h4]
       split at h1
       ·rename_i h5; rw [if_pos h5, e1]; exact hn
       ·exact absurd rfl h1
  ·rename_i h1
   have hw1 := (step_create d x).wf hw
   have hf1 : Tf (createD d x).1 := by unfold Tf; rw [(tame_create x).code]; exact hf
   have ht := tame_then (f := sAppend x b) (g := sDir) (tame_sAppend x b) tame_sDir
   have hw2 : Wf (thenD (sAppend x b (createD d x).1) sDir).1 := (step_then (step_sAppend _ x b) (step_sDir _)).wf hw1
   have hf2 : Tf (thenD (sAppend x b (createD d x).1) sDir).1 := by unfold Tf; rw [ht.code]; exact hf1
   unfold tidyD
   split
   ·rename_i h2
    rcases h2 with h2 | h2
    ·exact .inl h2
    ·exact .inr (.inr (.inl (ht.pow _ hf1 h2)))
   ·exact .inr (.inr (gone_unlink hw2 hf2 hx))
end
end Que
end Go.Proofs.YtcleakjjefmmbaaGreat

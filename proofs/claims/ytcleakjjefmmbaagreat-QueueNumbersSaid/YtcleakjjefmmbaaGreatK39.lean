/- Several texts in one: QuModPl, QuSetPl, QuOpenPl, QuOpnPl, QuNumPl. -/
import Derived.Test.YtcleakjjefmmbaaGreatK36
import Derived.Test.YtcleakjjefmmbaaGreatMapList
import Derived.Test.YtcleakjjefmmbaaGreatK38
import Derived.Test.YtcleakjjefmmbaaGreatK30
/- queue, plain: what Add and Set make of a queue and its disk; what holds of both. -/
namespace Go.Proofs.YtcleakjjefmmbaaGreat
open Go.RowKit
namespace Que
open Vd Sf
open Env (JobP StP goodJ bytesL bytesE stepE stepL freshS doneB)
open Mp (putL del)
structure QuP where
 next : Int
 last : Int
 jobs : List (Int × (JobP × Bool))
def freshJ (q : QuP) (j : JobP) : JobP := { j with id := q.next, st := List.replicate j.tos.length (freshS j.arr) }
def addedQ (q : QuP) (j : JobP) : QuP := ⟨q.next + 1, q.next, putL q.jobs q.next (freshJ q j, true)⟩
/-- the elder greatest job's file goes, if it waits for nothing -/
def sweepA (q : QuP) (jobs : List (Int × (JobP × Bool))) (d : Dsk) : Dsk := if 0 < q.last ∧ (Mp.look jobs q.last).isSome = false then (sDrop (nameQ q.last) d).1 else d
def qAdd (q : QuP) (d : Dsk) (j : JobP) : (QuP × Dsk) × Int × Int :=
 if 1099511627776 < q.next then ((q, d), 0, 6)
 else if bytesE (freshJ q j) ≠ 0 then ((q, d), 0, bytesE (freshJ q j))
 else if (sMake (nameQ q.next) (bytesL (freshJ q j)) d).2 ≠ 0 then ((q, (sMake (nameQ q.next) (bytesL (freshJ q j)) d).1), 0, (sMake (nameQ q.next) (bytesL (freshJ q j)) d).2)
 else ((addedQ q j, sweepA q (addedQ q j).jobs (sMake (nameQ q.next) (bytesL (freshJ q j)) d).1), q.next, 0)
def setJ (j : JobP) (t : Int) (s : StP) : JobP := { j with st := j.st.set t.toNat s }
/-- what Set writes -/
def setD (d : Dsk) (id t : Int) (s : StP) (k : JobP × Bool) : Dsk × Int := if k.2 then sAppend (nameQ id) (stepL t s) d else sSwap (nameQ id) (bytesL (setJ k.1 t s)) d
def qSet (q : QuP) (d : Dsk) (id t : Int) (s : StP) : (QuP × Dsk) × Int :=
 match Mp.look q.jobs id with
 |none => ((q, d), 7)
 |some k =>
  if stepE t s ≠ 0 then ((q, d), stepE t s)
  else if (k.1.tos.length : Int) ≤ t then ((q, d), 1)
  else if (setD d id t s k).2 ≠ 0 then ((q, (setD d id t s k).1), (setD d id t s k).2)
  else if doneB (setJ k.1 t s) then ((⟨q.next, q.last, del (putL q.jobs id (setJ k.1 t s, true)) id⟩, if id < q.last then (sDrop (nameQ id) (setD d id t s k).1).1 else (setD d id t s k).1), 0)
  else ((⟨q.next, q.last, putL q.jobs id (setJ k.1 t s, true)⟩, (setD d id t s k).1), 0)
/-- last: the greatest number for which Add answered OK -/
structure QI (last : Int) (q : QuP) (d : Dsk) : Prop where
 wf : Wf d
 tf : Tf d
 lq : last ≤ q.last
 l0 : 0 ≤ q.last
 ln : q.last < q.next
 keep : ∃ g, q.last ≤ g ∧ g ≤ 1099511627776 ∧ (0 < g → Dur (JobC g) (nameQ g) d)
 all : d.off = false → ∀ id, 1 ≤ id → id ≤ 1099511627776 → Vd.look d.seen (nameQ id) ≠ none → FineF id (nameQ id) d
 jobs : ∀ p ∈ q.jobs, goodJ p.2.1 = true ∧ p.2.1.id = p.1
 jw : ∀ p ∈ q.jobs, Whn (JobC p.1) (nameQ p.1) d
 jl : ∀ p ∈ q.jobs, p.1 ≤ q.last
section
variable {last : Int} {q : QuP} {d d' : Dsk} {Y : Str → Prop}
theorem closeds (id : Int) (x : Str) (hx : x ≠ []) : Good [(x, JobC id)] := fun k hk => by
 rw [List.mem_singleton.1 hk]
 exact ⟨jobC_closed id, hx⟩
/-- what a call on other names leaves of a file that is there for good -/
theorem dur_step (h : Step Y d d') (hw : Wf d) {id : Int} {x : Str} (hx : x ≠ []) (hY : ¬ Y x) (hd : Dur (JobC id) x d) : Dur (JobC id) x d' :=
 (h.inv [(x, JobC id)] (closeds id x hx) (fun k hk => by rw [List.mem_singleton.1 hk]; exact hY) ⟨hw, fun k hk => by rw [List.mem_singleton.1 hk]; exact hd⟩).dur (x, JobC id) (by simp)
theorem dur_pres {f : Dsk → Dsk × Int} {id : Int} {x : Str} (hp : Pres [(x, JobC id)] f) (hw : Wf d) (hd : Dur (JobC id) x d) : Dur (JobC id) x (f d).1 :=
 (hp d ⟨hw, fun k hk => by rw [List.mem_singleton.1 hk]; exact hd⟩).dur (x, JobC id) (by simp)
theorem fine_step (h : Step Y d d') (hw : Wf d) {id : Int} {x : Str} (hx : x ≠ []) (hY : ¬ Y x) (hf : FineF id x d) : FineF id x d' := by
 rcases hf with hf | hf
 ·exact .inl (dur_step h hw hx hY hf)
 ·exact .inr (h.has hw x hx hY (fun s => ¬ ReadsAs id s) hf)
theorem fine_same {id : Int} {x : Str} (e1 : d'.seen = d.seen) (e2 : d'.nodes = d.nodes) (e3 : d'.sure = d.sure) (e4 : d'.moves = d.moves) (hf : FineF id x d) : FineF id x d' := by
 rcases hf with hf | hf
 ·refine .inl (fun j => ?_)
  obtain ⟨i, nd, h1, h2, h3⟩ := hf j
  exact ⟨i, nd, by unfold gaveN at h1 ⊢; rw [e4, e3]; exact h1, by rw [e2]; exact h2, h3⟩
 ·obtain ⟨i, nd, h1, h2, h3⟩ := hf
  exact .inr ⟨i, nd, by rw [e1]; exact h1, by rw [e2]; exact h2, h3⟩
/-- a file that is a job's whenever it is there is there for good, if it is fine -/
theorem dur_of_fine {id : Int} {x : Str} (hw : Wf d) (hf : FineF id x d) (hW : Whn (JobC id) x d) : Dur (JobC id) x d := by
 rcases hf with hf | ⟨i, nd, h1, h2, h3⟩
 ·exact hf
 ·rw [← gave_end hw (Nat.le_refl _)] at h1
  obtain ⟨nd', h4, h5⟩ := hW _ i h1
  rw [h2] at h4
  simp only [Option.some.injEq] at h4
  subst h4
  exact absurd (jobC_read h5) h3
/-- all files but one are as they were -/
theorem all_but (hs : Step Y d d') (hw : Wf d) (hdown : d.off = true → d'.off = true) (hall : d.off = false → ∀ id, 1 ≤ id → id ≤ 1099511627776 → Vd.look d.seen (nameQ id) ≠ none → FineF id (nameQ id) d) (hY : ∀ id, 1 ≤ id → id ≤ 1099511627776 → Y (nameQ id) → Vd.look d'.seen (nameQ id) ≠ none → d'.off = false → FineF id (nameQ id) d') :
  d'.off = false → ∀ id, 1 ≤ id → id ≤ 1099511627776 → Vd.look d'.seen (nameQ id) ≠ none → FineF id (nameQ id) d' := fun ho id h1 h2 hl => by
 have ho' : d.off = false := by
  cases h : d.off with
  |false => rfl
  |true => rw [hdown h] at ho; cases ho
 by_cases hy : Y (nameQ id)
 ·exact hY id h1 h2 hy hl ho
 ·exact fine_step hs hw (nameQ_ne h1 h2) hy (hall ho' id h1 h2 (fun e => hl (hs.no hw _ (nameQ_ne h1 h2) hy e)))
theorem good_range {j : JobP} (h : goodJ j = true) : 1 ≤ j.id ∧ j.id ≤ 1099511627776 := by
 obtain ⟨-, h1, -⟩ := bytes_pre h
 unfold Env.envB at h1
 simp only [Bool.and_eq_true] at h1
 have := h1.1.1.1.1
 unfold Env.inB at this
 simpa using this
/-- Drop of one name -/
theorem QI.drop (h : QI last q d) {id : Int} (h1 : 1 ≤ id) (h2 : id ≤ 1099511627776) (hg : ∃ g, q.last ≤ g ∧ g ≤ 1099511627776 ∧ g ≠ id ∧ (0 < g → Dur (JobC g) (nameQ g) d)) : QI last q (sDrop (nameQ id) d).1 := by
 have hs := step_sDrop d (nameQ id)
 obtain ⟨g, g1, g2, g3, g4⟩ := hg
 refine ⟨hs.wf h.wf, by unfold Tf; rw [(tame_sDrop _).code]; exact h.tf, h.lq, h.l0, h.ln, ⟨g, g1, g2, fun hg0 => dur_step hs h.wf (nameQ_ne hg0 g2) (fun e => g3 (nameQ_inj ⟨hg0, g2⟩ ⟨h1, h2⟩ e)) (g4 hg0)⟩, ?_, h.jobs, fun p hp => ?_, h.jl⟩
 ·refine all_but hs h.wf (down_sDrop _ d) h.all (fun i i1 i2 hi hl ho => ?_)
  rcases drop_out h.wf (nameQ_ne h1 h2) with h3 | ⟨e1, e2, e3, e4⟩
  ·rw [hi] at hl
   exact absurd h3 hl
  ·have ho' : d.off = false := by
    cases hx : d.off with
    |false => rfl
    |true => rw [down_sDrop _ d hx] at ho; cases ho
   exact fine_same e1 e2 e3 e4 (h.all ho' i i1 i2 (by rw [← e1]; exact hl))
 ·have hr := good_range (h.jobs p hp).1
  rw [(h.jobs p hp).2] at hr
  exact wp_sDrop (jobC_closed _) (nameQ_ne hr.1 hr.2) _ d h.wf (h.jw p hp)
theorem putL_mem {l : List (Int × (JobP × Bool))} {k : Int} {v : JobP × Bool} {p : Int × (JobP × Bool)} (h : p ∈ putL l k v) : p ∈ l ∨ p = (k, v) := by
 unfold putL at h
 rcases List.mem_append.1 h with h | h
 ·exact .inl (List.mem_filter.1 h).1
 ·exact .inr (List.mem_singleton.1 h)
/-- Make where there is such a file, or no power -/
theorem make_there {y b : Str} (h : Vd.look d.seen y ≠ none ∨ d.off = true) : (sMake y b d).1 = d := by
 unfold sMake
 by_cases ho : d.off = true
 ·have hh : hasD d y = false := by unfold hasD textD; rw [if_pos ho]; rfl
  rw [if_neg (by simp [hh])]
  have hc : createD d y = (d, 11) := by
   unfold createD
   rw [change_off ho, if_pos (by show (11 : Int) ≠ 0; decide)]
  rw [hc, if_pos (by show (11 : Int) ≠ 0; decide)]
 ·have hl : Vd.look d.seen y ≠ none := h.elim id (fun e => absurd e ho)
  have hh : hasD d y = true := by
   unfold hasD textD
   rw [if_neg ho]
   cases hx : Vd.look d.seen y with
   |none => exact absurd hx hl
   |some i => simp
  rw [if_pos hh]
/-- Add -/
theorem QI.add (h : QI last q d) (j : JobP) : (qAdd q d j).2.2 ≠ 0 ∧ QI last (qAdd q d j).1.1 (qAdd q d j).1.2 ∨ (qAdd q d j).2.2 = 0 ∧ last < (qAdd q d j).2.1 ∧ QI (qAdd q d j).2.1 (qAdd q d j).1.1 (qAdd q d j).1.2 := by
 unfold qAdd
 split
 ·exact .inl ⟨by show (6 : Int) ≠ 0; decide, h⟩
 ·rename_i hm
  split
  ·rename_i hb; exact .inl ⟨hb, h⟩
  ·rename_i hb
   have hgood : goodJ (freshJ q j) = true := by
    unfold bytesE at hb
    split at hb
    ·rename_i hg; exact hg
    ·exact absurd (by decide) hb
   have hn1 : 1 ≤ q.next := by have := h.l0; have := h.ln; omega
   have hn2 : q.next ≤ 1099511627776 := by omega
   have hne := nameQ_ne hn1 hn2
   have hs := step_sMake d (nameQ q.next) (bytesL (freshJ q j))
   have htf : Tf (sMake (nameQ q.next) (bytesL (freshJ q j)) d).1 := by unfold Tf; rw [(tame_sMake _ _).code]; exact h.tf
   have hjw : ∀ p ∈ q.jobs, Whn (JobC p.1) (nameQ p.1) (sMake (nameQ q.next) (bytesL (freshJ q j)) d).1 := fun p hp => by
    have hr := good_range (h.jobs p hp).1
    rw [(h.jobs p hp).2] at hr
    have := h.jl p hp
    have := h.ln
    exact wp_sMake (jobC_closed _) (nameQ_ne hr.1 hr.2) (fun e => by have := nameQ_inj hr ⟨hn1, hn2⟩ e; omega) _ d h.wf (h.jw p hp)
   split
   ·rename_i he
    refine .inl ⟨he, hs.wf h.wf, htf, h.lq, h.l0, h.ln, ?_, ?_, h.jobs, hjw, h.jl⟩
    ·obtain ⟨g, g1, g2, g3⟩ := h.keep
     refine ⟨g, g1, g2, fun hg0 => ?_⟩
     by_cases e : nameQ g = nameQ q.next
     ·have hl : Vd.look d.seen (nameQ q.next) ≠ none := by
       obtain ⟨i, nd, h1, -⟩ := g3 hg0 d.moves.length
       rw [gave_end h.wf (Nat.le_refl _), e] at h1
       rw [h1]
       simp
      rw [make_there (.inl hl)]
      exact g3 hg0
     ·exact dur_step hs h.wf (nameQ_ne hg0 g2) e (g3 hg0)
    ·refine all_but hs h.wf (down_sMake _ _ d) h.all (fun i i1 i2 hi hl ho => ?_)
     have hi : nameQ i = nameQ q.next := hi
     rcases make_out h.wf h.tf hne (b := bytesL (freshJ q j)) with h4 | h4 | h4
     ·exact absurd h4 he
     ·rw [h4] at ho hl ⊢
      exact h.all ho i i1 i2 hl
     ·rcases h4 with h4 | h4
      ·rw [h4] at ho; cases ho
      ·rw [hi] at hl; exact absurd h4 hl
   ·rename_i he
    have he : (sMake (nameQ q.next) (bytesL (freshJ q j)) d).2 = 0 := Classical.byContradiction he
    have hnew := (make_new (K := []) (C := JobC q.next) (fun k hk => absurd hk List.not_mem_nil) (jobC_closed _) hne (fun k hk => absurd hk List.not_mem_nil) (fun nd a1 a2 a3 => jobC_new hgood nd a1 a2 a3) ⟨h.wf, fun k hk => absurd hk List.not_mem_nil⟩ he).dur (nameQ q.next, JobC q.next) (by simp)
    have hnew : Dur (JobC q.next) (nameQ q.next) (sMake (nameQ q.next) (bytesL (freshJ q j)) d).1 := hnew
    have hq : QI q.next (addedQ q j) (sMake (nameQ q.next) (bytesL (freshJ q j)) d).1 := by
     refine ⟨hs.wf h.wf, htf, Int.le_refl _, by show 0 ≤ q.next; omega, by show q.next < q.next + 1; omega, ⟨q.next, Int.le_refl _, hn2, fun _ => hnew⟩, ?_, fun p hp => ?_, fun p hp => ?_, fun p hp => ?_⟩
     ·refine all_but hs h.wf (down_sMake _ _ d) h.all (fun i i1 i2 hi hl ho => ?_)
      have e := nameQ_inj ⟨i1, i2⟩ ⟨hn1, hn2⟩ hi
      rw [e]
      exact .inl hnew
     ·rcases putL_mem hp with hp | rfl
      ·exact h.jobs p hp
      ·exact ⟨hgood, rfl⟩
     ·rcases putL_mem hp with hp | rfl
      ·exact hjw p hp
      ·exact hnew.whn
     ·show p.1 ≤ q.next
      rcases putL_mem hp with hp | rfl
      ·have := h.jl p hp; have := h.ln; omega
      ·exact Int.le_refl _
    refine .inr ⟨rfl, by show last < q.next; have := h.lq; have := h.ln; omega, ?_⟩
    show QI q.next (addedQ q j) (sweepA q (addedQ q j).jobs _)
    unfold sweepA
    split
    ·rename_i hc
     exact hq.drop (by omega) (by have := h.ln; omega) ⟨q.next, Int.le_refl _, hn2, by have := h.ln; omega, fun _ => hnew⟩
    ·exact hq
end
end Que
end Go.Proofs.YtcleakjjefmmbaaGreat

/- queue, plain: Set keeps what holds of a queue and its disk. -/
namespace Go.Proofs.YtcleakjjefmmbaaGreat
open Go.RowKit
namespace Que
open Vd Sf
open Env (JobP StP goodJ bytesL bytesE stepE stepL freshS doneB)
open Mp (putL del)
theorem lookup_mem {κ α : Type} [DecidableEq κ] {l : List (κ × α)} {k : κ} {v : α} (h : Mp.look l k = some v) : (k, v) ∈ l := by
 unfold Mp.look at h
 rw [Option.map_eq_some_iff] at h
 obtain ⟨p, hp, rfl⟩ := h
 have h1 := List.find?_some hp
 have h2 := List.mem_of_find?_eq_some hp
 have h1 : p.1 = k := by simpa using h1
 rw [← h1]
 exact h2
theorem setJ_good {j : JobP} {t : Int} {s : StP} (h : goodJ j = true) (hs : stepE t s = 0) : goodJ (setJ j t s) = true := by
 have hst : Env.goodStB s = true := by
  unfold stepE at hs
  split at hs
  ·exact absurd hs (by decide)
  ·split at hs
   ·exact absurd hs (by decide)
   ·rename_i h1; simpa using h1
 unfold goodJ at h ⊢
 simp only [Bool.and_eq_true, decide_eq_true_eq] at h ⊢
 obtain ⟨⟨⟨h1, h2⟩, h3⟩, h4⟩ := h
 refine ⟨⟨⟨h1, ?_⟩, h3⟩, ?_⟩
 ·show (j.st.set t.toNat s).length = j.tos.length
  rw [List.length_set]; exact h2
 ·show (j.st.set t.toNat s).all Env.goodStB = true
  rw [List.all_eq_true] at h4 ⊢
  intro x hx
  rcases List.mem_or_eq_of_mem_set hx with hx | rfl
  ·exact h4 x hx
  ·exact hst
section
variable {last : Int} {q : QuP} {d d' : Dsk}
theorem name_not_new {a b : Int} (ha : 1 ≤ a ∧ a ≤ 1099511627776) (hb : 1 ≤ b ∧ b ≤ 1099511627776) : nameQ a ≠ nameQ b ++ dotN := fun e => by
 have := congrArg List.length e
 rw [List.length_append, nameQ_len ha.1 ha.2, nameQ_len hb.1 hb.2] at this
 simp [dotN] at this
/-- bytes behind a job's file -/
theorem QI.append (h : QI last q d) {id : Int} {k : JobP × Bool} (hk : (id, k) ∈ q.jobs) (b : Str) : QI last q (sAppend (nameQ id) b d).1 := by
 have hr := good_range (h.jobs _ hk).1
 rw [(h.jobs _ hk).2] at hr
 have hr : 1 ≤ id ∧ id ≤ 1099511627776 := hr
 have hs := step_sAppend d (nameQ id) b
 refine ⟨hs.wf h.wf, by unfold Tf; rw [(tame_sAppend _ _).code]; exact h.tf, h.lq, h.l0, h.ln, ?_, ?_, h.jobs, fun p hp => wp_sAppend (jobC_closed _) _ b d h.wf (h.jw p hp), h.jl⟩
 ·obtain ⟨g, g1, g2, g3⟩ := h.keep
  exact ⟨g, g1, g2, fun hg => dur_pres (pres_sAppend (closeds g _ (nameQ_ne hg g2)) _ b) h.wf (g3 hg)⟩
 ·refine all_but hs h.wf (down_sAppend _ _ d) h.all (fun i i1 i2 hi hl ho => ?_)
  have e := nameQ_inj ⟨i1, i2⟩ hr hi
  subst e
  have ho' : d.off = false := by
   cases hx : d.off with
   |false => rfl
   |true => rw [down_sAppend _ _ d hx] at ho; cases ho
  rw [append_seen] at hl
  exact .inl (dur_pres (pres_sAppend (closeds i _ (nameQ_ne i1 i2)) _ b) h.wf (dur_of_fine h.wf (h.all ho' i i1 i2 hl) (h.jw _ hk)))
/-- a job's file written anew -/
theorem QI.swap (h : QI last q d) {id : Int} {k : JobP × Bool} (hk : (id, k) ∈ q.jobs) {j : JobP} (hj : goodJ j = true) (hji : j.id = id) : QI last q (sSwap (nameQ id) (bytesL j) d).1 := by
 have hr := good_range (h.jobs _ hk).1
 rw [(h.jobs _ hk).2] at hr
 have hr : 1 ≤ id ∧ id ≤ 1099511627776 := hr
 have hs := step_sSwap d (nameQ id) (bytesL j)
 have hb : ∀ nd : Nod, nd.seen = bytesL j → nd.sure = bytesL j → nd.pats = [] → JobC id nd := fun nd a1 a2 a3 => by rw [← hji]; exact jobC_new hj nd a1 a2 a3
 have hY : ∀ {a : Int}, 1 ≤ a → a ≤ 1099511627776 → (nameQ a = nameQ id ∨ nameQ a = nameQ id ++ dotN) → a = id := fun h1 h2 e => by
  rcases e with e | e
  ·exact nameQ_inj ⟨h1, h2⟩ hr e
  ·exact absurd e (name_not_new ⟨h1, h2⟩ hr)
 have hkeep : Dur (JobC id) (nameQ id) d → Dur (JobC id) (nameQ id) (sSwap (nameQ id) (bytesL j) d).1 := fun hd =>
  dur_pres (swap_keep (K := []) (fun k hk => absurd hk List.not_mem_nil) (jobC_closed id) (nameQ_ne hr.1 hr.2) (fun k hk => absurd hk List.not_mem_nil) (fun k hk => absurd hk List.not_mem_nil) hb) h.wf hd
 refine ⟨hs.wf h.wf, by unfold Tf; rw [(tame_sSwap _ _).code]; exact h.tf, h.lq, h.l0, h.ln, ?_, ?_, h.jobs, fun p hp => ?_, h.jl⟩
 ·obtain ⟨g, g1, g2, g3⟩ := h.keep
  refine ⟨g, g1, g2, fun hg => ?_⟩
  by_cases e : g = id
  ·subst e
   exact hkeep (g3 hg)
  ·exact dur_step hs h.wf (nameQ_ne hg g2) (fun e2 => e (hY hg g2 e2)) (g3 hg)
 ·refine all_but hs h.wf (down_sSwap _ _ d) h.all (fun i i1 i2 hi hl ho => ?_)
  have e := hY i1 i2 hi
  subst e
  have ho' : d.off = false := by
   cases hx : d.off with
   |false => rfl
   |true => rw [down_sSwap _ _ d hx] at ho; cases ho
  cases hx : Vd.look d.seen (nameQ i) with
  |some n => exact .inl (hkeep (dur_of_fine h.wf (h.all ho' i i1 i2 (by rw [hx]; simp)) (h.jw _ hk)))
  |none =>
   rcases swap_new (jobC_closed i) (nameQ_ne i1 i2) h.wf h.tf hb hx with h4 | h4 | h4
   ·exact .inl h4
   ·rw [h4] at ho; cases ho
   ·exact absurd h4 hl
 ·have hp2 := good_range (h.jobs p hp).1
  rw [(h.jobs p hp).2] at hp2
  refine wp_sSwap (jobC_closed _) (nameQ_ne hp2.1 hp2.2) (name_not_new hp2 hr) _ ?_ d h.wf (h.jw p hp)
  by_cases e : nameQ p.1 = nameQ id
  ·refine .inr ?_
   rw [nameQ_inj hp2 hr e]
   exact hb
  ·exact .inl e
theorem del_mem {l : List (Int × (JobP × Bool))} {k : Int} {p : Int × (JobP × Bool)} (h : p ∈ del l k) : p ∈ l ∧ p.1 ≠ k := by
 unfold del at h
 obtain ⟨h1, h2⟩ := List.mem_filter.1 h
 exact ⟨h1, by simpa using h2⟩
theorem QI.set (h : QI last q d) (id t : Int) (s : StP) : QI last (qSet q d id t s).1.1 (qSet q d id t s).1.2 := by
 unfold qSet
 split
 ·exact h
 ·rename_i k hk
  have hk := lookup_mem hk
  have hgk := h.jobs _ hk
  have hgk1 : goodJ k.1 = true := hgk.1
  have hgk2 : k.1.id = id := hgk.2
  have hr := good_range hgk1
  rw [hgk2] at hr
  split
  ·exact h
  ·rename_i hs
   have hs : stepE t s = 0 := Classical.byContradiction hs
   have hg := setJ_good (t := t) hgk1 hs
   have hd : QI last q (setD d id t s k).1 := by
    unfold setD
    split
    ·exact h.append hk _
    ·exact h.swap hk hg hgk2
   split
   ·exact h
   ·split
    ·exact hd
    ·have hput : QI last ⟨q.next, q.last, putL q.jobs id (setJ k.1 t s, true)⟩ (setD d id t s k).1 := by
      refine ⟨hd.wf, hd.tf, hd.lq, hd.l0, hd.ln, hd.keep, hd.all, fun p hp => ?_, fun p hp => ?_, fun p hp => ?_⟩
      ·rcases putL_mem hp with hp | rfl
       ·exact hd.jobs p hp
       ·exact ⟨hg, hgk2⟩
      ·rcases putL_mem hp with hp | rfl
       ·exact hd.jw p hp
       ·exact hd.jw (id, k) hk
      ·rcases putL_mem hp with hp | rfl
       ·exact hd.jl p hp
       ·exact hd.jl (id, k) hk
     split
     ·have hdel : QI last ⟨q.next, q.last, del (putL q.jobs id (setJ k.1 t s, true)) id⟩ (setD d id t s k).1 :=
       ⟨hput.wf, hput.tf, hput.lq, hput.l0, hput.ln, hput.keep, hput.all, fun p hp => hput.jobs p (del_mem hp).1, fun p hp => hput.jw p (del_mem hp).1, fun p hp => hput.jl p (del_mem hp).1⟩
      show QI last ⟨q.next, q.last, del (putL q.jobs id (setJ k.1 t s, true)) id⟩ (if id < q.last then _ else _)
      split
      ·rename_i hlt
       obtain ⟨g, g1, g2, g3⟩ := hdel.keep
       have g1 : q.last ≤ g := g1
       exact hdel.drop hr.1 hr.2 ⟨g, g1, g2, by omega, g3⟩
      ·exact hdel
     ·exact hput
end
end Que
end Go.Proofs.YtcleakjjefmmbaaGreat

/- queue, plain: Open keeps what holds of a queue and its disk; the new queue goes on behind the old one. -/
namespace Go.Proofs.YtcleakjjefmmbaaGreat
open Go.RowKit
namespace Que
open Vd Sf
open Env (JobP StP goodJ readR readF envR envOk envB capId capT stepsR freshS goodStB doneB stR stOk noJob)
open Mp (putL)
theorem stepsR_good {n : Nat} : ∀ (fs : List Frm.Fr1) (st : List StP), st.all goodStB = true → (stepsR n fs st).1.all goodStB = true ∧ (stepsR n fs st).1.length = st.length
 | [], st, h => ⟨h, rfl⟩
 |f :: r, st, h => by
  unfold stepsR
  split
  ·rename_i hc
   have h2 : (st.set (stR capT f.pay).1.1 (stR capT f.pay).1.2).all goodStB = true := by
    rw [List.all_eq_true] at h ⊢
    intro x hx
    rcases List.mem_or_eq_of_mem_set hx with hx | rfl
    ·exact h x hx
    ·have := hc.2
     unfold stOk at this
     simp only [Bool.and_eq_true] at this
     exact this.2
   have ih := stepsR_good (n := n) r _ h2
   exact ⟨ih.1, ih.2.trans (List.length_set)⟩
  ·exact ⟨h, rfl⟩
theorem fresh_good {a : Int} (h : Env.inB a 0 Env.maxT = true) : goodStB (freshS a) = true := by
 unfold goodStB freshS
 simp only [Bool.and_eq_true, Bool.or_eq_true]
 exact ⟨⟨⟨by decide, by decide⟩, h⟩, .inl (by decide)⟩
theorem reads_good {id : Int} {s : Str} (h : ReadsAs id s) : goodJ (readR s).1 = true := by
 obtain ⟨h1, -⟩ := h
 unfold readR at h1 ⊢
 generalize (Frm.rowR s).1 = fs at *
 match fs with
 | [] => simp [readF] at h1
 | [_] => simp [readF] at h1
 |f :: g :: r =>
  simp only [readF] at h1 ⊢
  split at h1
  ·rename_i hc
   rw [if_pos hc]
   obtain ⟨-, -, hb, he⟩ := hc
   unfold envOk at he
   simp only [Bool.and_eq_true] at he
   have hE := he.2
   have harr : Env.inB (envR 100 capId capT f.pay).1.arr 0 Env.maxT = true := by
    unfold envB at hE
    simp only [Bool.and_eq_true] at hE
    exact hE.1.1.1.2
   have hs := stepsR_good (n := (envR 100 capId capT f.pay).1.tos.length) r (List.replicate (envR 100 capId capT f.pay).1.tos.length (freshS (envR 100 capId capT f.pay).1.arr)) (by
    rw [List.all_eq_true]
    intro x hx
    rw [List.eq_of_mem_replicate hx]
    exact fresh_good harr)
   unfold goodJ
   simp only [Bool.and_eq_true, decide_eq_true_eq]
   exact ⟨⟨⟨hE, by rw [hs.2, List.length_replicate]⟩, hb⟩, hs.1⟩
  ·simp at h1
def isQ (x : Str) : Bool := decide (x.take 1 = [113])
/-- a job's file, read -/
def loadQ (d : Dsk) (x : Str) (id : Int) : (JobP × Bool) × Bool × Int :=
 if (textD d x).2 ≠ 0 then ((noJob, false), false, (textD d x).2)
 else if (readR (textD d x).1).2.2 ≠ 0 ∨ (readR (textD d x).1).1.id ≠ id then ((noJob, false), false, 0)
 else (((readR (textD d x).1).1, decide ((readR (textD d x).1).2.1 = ((textD d x).1.length : Int))), true, 0)
structure ScS where
 next : Int
 last : Int
 all : List (Str × (JobP × Bool))
def scanStep (d : Dsk) (s : ScS) (x : Str) : ScS :=
 if (loadQ d x (numQ x)).2.1 = true then ⟨max s.next ((numQ x : Int) + 1), numQ x, putL s.all x (loadQ d x (numQ x)).1⟩ else ⟨max s.next ((numQ x : Int) + 1), s.last, s.all⟩
def scanQ (d : Dsk) : List Str → ScS → Int × ScS
 | [], s => (0, s)
 |x :: l, s => if numQ x = 0 then (12, s) else if (loadQ d x (numQ x)).2.2 ≠ 0 then ((loadQ d x (numQ x)).2.2, ⟨max s.next ((numQ x : Int) + 1), s.last, s.all⟩) else scanQ d l (scanStep d s x)
/-- is the file dropped? -/
def dropsB (last : Int) (k : Option (JobP × Bool)) : Bool := match k with
 |none => true
 |some k => doneB k.1 && decide (k.1.id < last)
def sweepQ (all : List (Str × (JobP × Bool))) (last : Int) : List Str → List (Int × (JobP × Bool)) × Dsk → Int × (List (Int × (JobP × Bool)) × Dsk)
 | [], s => (0, s)
 |x :: l, s =>
  if dropsB last (Mp.look all x) then (if (sDrop x s.2).2 ≠ 0 then ((sDrop x s.2).2, (s.1, (sDrop x s.2).1)) else sweepQ all last l (s.1, (sDrop x s.2).1))
  else match Mp.look all x with
   |none => sweepQ all last l s
   |some k => if doneB k.1 then sweepQ all last l s else sweepQ all last l (putL s.1 k.1.id k, s.2)
def nextQ (least : Int) : Int := if least ≤ 1099511627776 then max 1 least else 1
def namesQ (d : Dsk) : List Str := (d.seen.map (·.1)).filter isQ
def openQ (d : Dsk) (least : Int) : (Option QuP × Int) × Dsk :=
 if d.off then ((none, 11), d)
 else if (sTidy [113] d).2 ≠ 0 then ((none, (sTidy [113] d).2), (sTidy [113] d).1)
 else if (scanQ (sTidy [113] d).1 (namesQ (sTidy [113] d).1) ⟨nextQ least, 0, []⟩).1 ≠ 0 then ((none, (scanQ (sTidy [113] d).1 (namesQ (sTidy [113] d).1) ⟨nextQ least, 0, []⟩).1), (sTidy [113] d).1)
 else
  let sc := (scanQ (sTidy [113] d).1 (namesQ (sTidy [113] d).1) ⟨nextQ least, 0, []⟩).2
  let sw := sweepQ sc.all sc.last (namesQ (sTidy [113] d).1) ([], (sTidy [113] d).1)
  if sw.1 ≠ 0 then ((none, sw.1), sw.2.2) else ((some ⟨sc.next, sc.last, sw.2.1⟩, 0), sw.2.2)
/-- what a file's bytes are as a job's -/
def RdF (d : Dsk) (x : Str) : Prop := (textD d x).2 = 0 ∧ ReadsAs (numQ x) (textD d x).1
theorem load_yes {d : Dsk} {x : Str} (h : (loadQ d x (numQ x)).2.1 = true) : RdF d x ∧ (loadQ d x (numQ x)).1.1 = (readR (textD d x).1).1 := by
 unfold loadQ at h ⊢
 split at h
 ·cases h
 ·rename_i h1
  rw [if_neg h1]
  split at h
  ·cases h
  ·rename_i h2
   rw [if_neg h2]
   have h1 : (textD d x).2 = 0 := Classical.byContradiction h1
   have h3 : (readR (textD d x).1).2.2 = 0 := Classical.byContradiction (fun e => h2 (.inl e))
   have h4 : (readR (textD d x).1).1.id = (numQ x : Int) := Classical.byContradiction (fun e => h2 (.inr e))
   exact ⟨⟨h1, h3, h4⟩, rfl⟩
theorem load_rd {d : Dsk} {x : Str} (h : RdF d x) : (loadQ d x (numQ x)).2.1 = true := by
 obtain ⟨h1, h2, h3⟩ := h
 unfold loadQ
 rw [if_neg (by simp [h1]), if_neg (by simp [h2, h3])]
theorem look_putL {l : List (Str × (JobP × Bool))} {x y : Str} {v : JobP × Bool} : Mp.look (putL l x v) y = if y = x then some v else Mp.look l y := by
 unfold Mp.look putL Mp.del
 rw [List.find?_append]
 by_cases e : y = x
 ·subst e
  rw [if_pos rfl]
  have : (l.filter fun p => decide (p.1 ≠ y)).find? (fun p => decide (p.1 = y)) = none := by
   rw [List.find?_eq_none]
   intro p hp
   have := (List.mem_filter.1 hp).2
   simpa using this
  rw [this]
  simp
 ·rw [if_neg e]
  have h1 : (l.filter fun p => decide (p.1 ≠ x)).find? (fun p => decide (p.1 = y)) = l.find? (fun p => decide (p.1 = y)) := by
   rw [List.find?_filter]
   congr 1
   funext p
   by_cases hp : p.1 = y
   ·simp [hp, e]
   ·simp [hp]
  rw [h1]
  have h2 : ([(x, v)] : List (Str × (JobP × Bool))).find? (fun p => decide (p.1 = y)) = none := by
   simp
   exact fun h => e h.symm
  rw [h2]
  simp
/-- what the scan found -/
structure ScOk (d : Dsk) (l : List Str) (s0 s : ScS) : Prop where
 num : ∀ x ∈ l, numQ x ≠ 0
 nx : s0.next ≤ s.next
 lt : ∀ x ∈ l, (numQ x : Int) < s.next
 la : s.last = s0.last ∨ ∃ x ∈ l, RdF d x ∧ s.last = numQ x
 up : ∀ x ∈ l, RdF d x → (numQ x : Int) ≤ s.last
 lo : (∀ x ∈ l, s0.last ≤ (numQ x : Int)) → s0.last ≤ s.last
 all : ∀ x k, Mp.look s.all x = some k → Mp.look s0.all x = some k ∨ (x ∈ l ∧ RdF d x ∧ k.1 = (readR (textD d x).1).1)
 rd : ∀ x ∈ l, RdF d x → Mp.look s.all x ≠ none
 ke : ∀ x, Mp.look s0.all x ≠ none → Mp.look s.all x ≠ none
theorem scan_ok (d : Dsk) : ∀ (l : List Str) (s : ScS), l.Pairwise (fun a b => numQ a ≠ 0 → numQ b ≠ 0 → numQ a < numQ b) → (scanQ d l s).1 = 0 → ScOk d l s (scanQ d l s).2
 | [], s, _, _ => ⟨by simp, Int.le_refl _, by simp, .inl rfl, by simp, fun _ => Int.le_refl _, fun x k h => .inl h, by simp, fun x h => h⟩
 |x :: l, s, hp, h => by
  obtain ⟨p1, p2⟩ := List.pairwise_cons.1 hp
  unfold scanQ at h ⊢
  split at h
  ·exact absurd h (by simp)
  ·rename_i h0
   rw [if_neg h0]
   split at h
   ·rename_i h1; exact absurd h h1
   ·rename_i h1
    rw [if_neg h1]
    have ih := scan_ok d l (scanStep d s x) p2 h
    have hnx : s.next ≤ (scanStep d s x).next ∧ (numQ x : Int) < (scanStep d s x).next := by
     unfold scanStep
     split <;> simp only <;> omega
    by_cases hr : RdF d x
    ·have hl := load_rd hr
     have e1 : (scanStep d s x).last = numQ x := by unfold scanStep; rw [if_pos hl]
     have e2 : (scanStep d s x).all = putL s.all x (loadQ d x (numQ x)).1 := by unfold scanStep; rw [if_pos hl]
     have hlo : (numQ x : Int) ≤ (scanQ d l (scanStep d s x)).2.last := by
      have := ih.lo (fun y hy => by rw [e1]; have := p1 y hy h0 (ih.num y hy); omega)
      rw [e1] at this
      exact this
     refine ⟨fun y hy => ?_, Int.le_trans hnx.1 ih.nx, fun y hy => ?_, ?_, fun y hy hry => ?_, fun hs => ?_, fun y k hk => ?_, fun y hy hry => ?_, fun y hy => ?_⟩
     ·rcases List.mem_cons.1 hy with rfl | hy
      ·exact h0
      ·exact ih.num y hy
     ·rcases List.mem_cons.1 hy with rfl | hy
      ·have := ih.nx; omega
      ·exact ih.lt y hy
     ·rcases ih.la with h2 | ⟨y, hy, h2⟩
      ·exact .inr ⟨x, by simp, hr, by rw [h2, e1]⟩
      ·exact .inr ⟨y, by simp [hy], h2⟩
     ·rcases List.mem_cons.1 hy with rfl | hy
      ·exact hlo
      ·exact ih.up y hy hry
     ·exact Int.le_trans (hs x (by simp)) hlo
     ·rcases ih.all y k hk with h2 | ⟨h2, h3⟩
      ·rw [e2, look_putL] at h2
       split at h2
       ·rename_i e
        subst e
        simp only [Option.some.injEq] at h2
        subst h2
        exact .inr ⟨by simp, hr, (load_yes hl).2⟩
       ·exact .inl h2
      ·exact .inr ⟨by simp [h2], h3⟩
     ·rcases List.mem_cons.1 hy with rfl | hy
      ·exact ih.ke y (by rw [e2, look_putL, if_pos rfl]; simp)
      ·exact ih.rd y hy hry
     ·refine ih.ke y ?_
      rw [e2, look_putL]
      split
      ·simp
      ·exact hy
    ·have hl : (loadQ d x (numQ x)).2.1 ≠ true := fun e => hr (load_yes e).1
     have e1 : (scanStep d s x).last = s.last := by unfold scanStep; rw [if_neg hl]
     have e2 : (scanStep d s x).all = s.all := by unfold scanStep; rw [if_neg hl]
     refine ⟨fun y hy => ?_, Int.le_trans hnx.1 ih.nx, fun y hy => ?_, ?_, fun y hy hry => ?_, fun hs => ?_, fun y k hk => ?_, fun y hy hry => ?_, fun y hy => ?_⟩
     ·rcases List.mem_cons.1 hy with rfl | hy
      ·exact h0
      ·exact ih.num y hy
     ·rcases List.mem_cons.1 hy with rfl | hy
      ·have := ih.nx; omega
      ·exact ih.lt y hy
     ·rcases ih.la with h2 | ⟨y, hy, h2⟩
      ·exact .inl (by rw [h2, e1])
      ·exact .inr ⟨y, by simp [hy], h2⟩
     ·rcases List.mem_cons.1 hy with rfl | hy
      ·exact absurd hry hr
      ·exact ih.up y hy hry
     ·have := ih.lo (fun y hy => by rw [e1]; exact hs y (by simp [hy]))
      rw [e1] at this
      exact this
     ·rcases ih.all y k hk with h2 | ⟨h2, h3⟩
      ·rw [e2] at h2; exact .inl h2
      ·exact .inr ⟨by simp [h2], h3⟩
     ·rcases List.mem_cons.1 hy with rfl | hy
      ·exact absurd hry hr
      ·exact ih.rd y hy hry
     ·exact ih.ke y (by rw [e2]; exact hy)
end Que
end Go.Proofs.YtcleakjjefmmbaaGreat

/- queue, plain: Open, as a whole. -/
namespace Go.Proofs.YtcleakjjefmmbaaGreat
open Go.RowKit
namespace Que
open Vd Sf
open Env (JobP StP goodJ readR doneB)
open Mp (putL)
section
variable {last : Int} {q : QuP} {d d' : Dsk}
theorem tidy_not {id : Int} (h1 : 1 ≤ id) (h2 : id ≤ 1099511627776) : ¬ tidyN [113] (nameQ id) = true := fun h => by
 obtain ⟨s, k, e, hl⟩ := nameQ_end h1 h2
 unfold tidyN at h
 simp only [Bool.and_eq_true, decide_eq_true_eq] at h
 have h3 := h.2.2
 rw [e, List.length_append, hl] at h3
 have h4 := congrArg List.getLast? h3
 rw [show (13 + [UInt8.ofNat (48 + k % 10)].length - 2) = 12 from rfl, List.drop_append_of_le_length (by omega), List.getLast?_append] at h4
 simp only [List.getLast?_singleton, Option.some_or] at h4
 have h5 : UInt8.ofNat (48 + k % 10) = 110 := by simpa [dotN] using h4
 have h6 := congrArg UInt8.toNat h5
 rw [digit_is] at h6
 have : (110 : UInt8).toNat = 110 := rfl
 omega
/-- Tidy -/
theorem QI.tidy (h : QI last q d) : QI last q (sTidy [113] d).1 := by
 have hs := step_sTidy d [113]
 refine ⟨hs.wf h.wf, by unfold Tf; rw [(tame_sTidy _).code]; exact h.tf, h.lq, h.l0, h.ln, ?_, ?_, h.jobs, fun p hp => ?_, h.jl⟩
 ·obtain ⟨g, g1, g2, g3⟩ := h.keep
  exact ⟨g, g1, g2, fun hg => dur_step hs h.wf (nameQ_ne hg g2) (tidy_not hg g2) (g3 hg)⟩
 ·exact all_but hs h.wf (down_sTidy _ d) h.all (fun i i1 i2 hi _ _ => absurd hi (tidy_not i1 i2))
 ·have hr := good_range (h.jobs p hp).1
  rw [(h.jobs p hp).2] at hr
  exact wp_sTidy (nameQ_ne hr.1 hr.2) _ d h.wf (h.jw p hp)
theorem unlinks_on : ∀ (l : List Str) (d : Dsk), d.off = false → (unlinksD l d).2 = 0 → (unlinksD l d).1.off = false
 | [], d, h, _ => h
 |x :: l, d, h, he => by
  unfold unlinksD at he ⊢
  split at he
  ·rename_i h1; exact absurd he h1
  ·rename_i h1
   rw [if_neg h1]
   refine unlinks_on l _ ?_ he
   have h1 : (unlinkD d x).2 = 0 := Classical.byContradiction h1
   unfold unlinkD at h1 ⊢
   rcases touch_cases d x with ⟨h2, h3⟩ | ⟨h2, h3, h4⟩ | ⟨h2, i, h3, h4⟩
   ·rw [if_pos (by rw [h3]; exact h2)] at h1
    rw [h3] at h1
    exact absurd h1 h2
   ·rw [if_pos (by rw [h4]; decide)] at h1
    rw [h4] at h1
    exact absurd h1 (by decide)
   ·rw [if_neg (by rw [h4]; simp)]
    show (touchD d x).1.off = false
    rw [touch_fst']
    exact change_on h2
theorem tidy_on (h : d.off = false) (he : (sTidy [113] d).2 = 0) : (sTidy [113] d).1.off = false := by
 unfold sTidy at he ⊢
 rw [if_neg (by simp [h])] at he ⊢
 exact unlinks_on _ d h he
theorem name_isQ {id : Int} (h1 : 1 ≤ id) (h2 : id ≤ 1099511627776) : isQ (nameQ id) = true := by
 rw [nameQ_eq h1 h2]
 rfl
theorem num_lt {x y : Str} (h : x < y) (hx : numQ x ≠ 0) (hy : numQ y ≠ 0) : numQ x < numQ y := by
 obtain ⟨a1, a2, a3⟩ := numQ_some hx
 obtain ⟨b1, b2, b3⟩ := numQ_some hy
 unfold maxId at a3 b3
 refine Classical.byContradiction (fun hn => ?_)
 rcases Nat.eq_or_lt_of_le (Nat.le_of_not_lt hn) with h1 | h1
 ·rw [← a1, ← b1, h1] at h
  exact absurd h (List.lt_irrefl _)
 ·have := nameQ_lt (a := numQ y) (b := numQ x) (by omega) (by omega) (by omega)
  rw [a1, b1] at this
  exact absurd (List.lt_trans h this) (List.lt_irrefl _)
theorem names_pair (h : AscN d.seen) : (namesQ d).Pairwise (fun a b => numQ a ≠ 0 → numQ b ≠ 0 → numQ a < numQ b) := by
 unfold namesQ
 have h1 : (d.seen.map (·.1)).Pairwise (· < ·) := List.pairwise_map.2 h
 exact (h1.filter _).imp (fun hab ha hb => num_lt hab ha hb)
theorem names_in {x : Str} : x ∈ namesQ d ↔ (∃ i, (x, i) ∈ d.seen) ∧ isQ x = true := by
 unfold namesQ
 rw [List.mem_filter, List.mem_map]
 constructor
 ·rintro ⟨⟨p, hp, rfl⟩, h2⟩
  exact ⟨⟨p.2, hp⟩, h2⟩
 ·rintro ⟨⟨i, hi⟩, h2⟩
  exact ⟨⟨_, hi, rfl⟩, h2⟩
/-- what stands in a file that reads as a job's is there for good -/
theorem rd_dur (hw : Wf d) (ho : d.off = false) (hall : d.off = false → ∀ id, 1 ≤ id → id ≤ 1099511627776 → Vd.look d.seen (nameQ id) ≠ none → FineF id (nameQ id) d) {x : Str} (hn : numQ x ≠ 0) (hr : RdF d x) : Dur (JobC (numQ x)) x d := by
 obtain ⟨a1, a2, a3⟩ := numQ_some hn
 unfold maxId at a3
 obtain ⟨r1, r2⟩ := hr
 unfold textD at r1 r2
 rw [if_neg (by simp [ho])] at r1 r2
 cases hl : Vd.look d.seen x with
 |none => rw [hl] at r1; simp at r1
 |some i =>
  rw [hl] at r2
  have hf := hall ho (numQ x) (by omega) (by omega) (by rw [a1, hl]; simp)
  rw [a1] at hf
  rcases hf with hf | ⟨i', nd, h1, h2, h3⟩
  ·exact hf
  ·rw [hl] at h1
   simp only [Option.some.injEq] at h1
   subst h1
   exfalso
   apply h3
   simpa [h2] using r2
/-- a file that is there for good as a job's reads as that -/
theorem dur_rd (hw : Wf d) (ho : d.off = false) {id : Int} (h1 : 1 ≤ id) (h2 : id ≤ 1099511627776) (hd : Dur (JobC id) (nameQ id) d) : nameQ id ∈ namesQ d ∧ RdF d (nameQ id) ∧ (numQ (nameQ id) : Int) = id := by
 obtain ⟨i, nd, a1, a2, a3⟩ := hd d.moves.length
 rw [gave_end hw (Nat.le_refl _)] at a1
 have hn := numQ_of (s := nameQ id) (id := id) rfl (nameQ_ne h1 h2)
 refine ⟨names_in.2 ⟨⟨i, (look_mem hw.names.asc).1 a1⟩, name_isQ h1 h2⟩, ?_, hn⟩
 unfold RdF textD
 rw [if_neg (by simp [ho]), a1, hn]
 refine ⟨rfl, ?_⟩
 have := jobC_read a3
 simpa [a2] using this
/-- where Open's second round stands: both queues -/
structure SwI (last : Int) (q : QuP) (next' last' : Int) (l : List Str) (all : List (Str × (JobP × Bool))) (jobs : List (Int × (JobP × Bool))) (d : Dsk) : Prop where
 a : QI last q d
 b : QI last ⟨next', last', jobs⟩ d
 c : 0 < last' → Dur (JobC last') (nameQ last') d
 e : ∀ x ∈ l, ∀ k, Mp.look all x = some k → Whn (JobC (numQ x)) x d ∧ goodJ k.1 = true ∧ k.1.id = (numQ x : Int) ∧ (numQ x : Int) ≤ last'
theorem sweep_ok {next' last' : Int} {all : List (Str × (JobP × Bool))} (hlm : last' ≤ 1099511627776) (hql : q.last ≤ last') (hl0 : 0 < last' → ∃ k, Mp.look all (nameQ last') = some k) : ∀ (l : List Str) (jobs : List (Int × (JobP × Bool))) (d : Dsk), (∀ x ∈ l, numQ x ≠ 0) → SwI last q next' last' l all jobs d →
  QI last q (sweepQ all last' l (jobs, d)).2.2 ∧ QI last ⟨next', last', (sweepQ all last' l (jobs, d)).2.1⟩ (sweepQ all last' l (jobs, d)).2.2
 | [], jobs, d, _, h => ⟨h.a, h.b⟩
 |x :: l, jobs, d, hn, h => by
  have hx := hn x (by simp)
  obtain ⟨a1, a2, a3⟩ := numQ_some hx
  unfold maxId at a3
  have hr1 : 1 ≤ (numQ x : Int) := by omega
  have hr2 : (numQ x : Int) ≤ 1099511627776 := by omega
  unfold sweepQ
  split
  ·rename_i hd
   have hne : last' ≠ (numQ x : Int) := fun e => by
    obtain ⟨k, hk⟩ := hl0 (by omega)
    rw [e, a1] at hk
    rw [hk] at hd
    unfold dropsB at hd
    simp only [Bool.and_eq_true, decide_eq_true_eq] at hd
    have := (h.e x (by simp) k hk).2.2.1
    omega
   have hdur : 0 < last' → Dur (JobC last') (nameQ last') (sDrop x d).1 := fun h0 => dur_step (step_sDrop d x) h.a.wf (nameQ_ne h0 hlm) (fun e => by
    rw [← a1] at e
    exact hne (nameQ_inj ⟨h0, hlm⟩ ⟨hr1, hr2⟩ e)) (h.c h0)
   have hA : QI last q (sDrop x d).1 := by
    have := h.a.drop hr1 hr2 ⟨last', hql, hlm, hne, h.c⟩
    rw [a1] at this
    exact this
   have hB : QI last ⟨next', last', jobs⟩ (sDrop x d).1 := by
    have := h.b.drop hr1 hr2 ⟨last', Int.le_refl _, hlm, hne, h.c⟩
    rw [a1] at this
    exact this
   show QI last q (if (sDrop x d).2 ≠ 0 then _ else _ : Int × (List (Int × (JobP × Bool)) × Dsk)).2.2 ∧ _
   split
   ·exact ⟨hA, hB⟩
   ·refine sweep_ok hlm hql hl0 l jobs _ (fun y hy => hn y (by simp [hy])) ⟨hA, hB, hdur, fun y hy k hk => ?_⟩
    obtain ⟨e1, e2⟩ := h.e y (by simp [hy]) k hk
    have hy1 := numQ_some (hn y (by simp [hy]))
    unfold maxId at hy1
    exact ⟨wp_sDrop (jobC_closed _) (by rw [← hy1.1]; exact nameQ_ne (by omega) (by omega)) _ d h.a.wf e1, e2⟩
  ·rename_i hd
   have hrest : ∀ y ∈ l, ∀ k, Mp.look all y = some k → Whn (JobC (numQ y)) y d ∧ goodJ k.1 = true ∧ k.1.id = (numQ y : Int) ∧ (numQ y : Int) ≤ last' := fun y hy => h.e y (by simp [hy])
   split
   ·exact sweep_ok hlm hql hl0 l jobs d (fun y hy => hn y (by simp [hy])) ⟨h.a, h.b, h.c, hrest⟩
   ·rename_i k hk
    split
    ·exact sweep_ok hlm hql hl0 l jobs d (fun y hy => hn y (by simp [hy])) ⟨h.a, h.b, h.c, hrest⟩
    ·obtain ⟨e1, e2, e3, e4⟩ := h.e x (by simp) k hk
     refine sweep_ok hlm hql hl0 l _ d (fun y hy => hn y (by simp [hy])) ⟨h.a, ?_, h.c, hrest⟩
     refine ⟨h.b.wf, h.b.tf, h.b.lq, h.b.l0, h.b.ln, h.b.keep, h.b.all, fun p hp => ?_, fun p hp => ?_, fun p hp => ?_⟩
     ·rcases putL_mem hp with hp | rfl
      ·exact h.b.jobs p hp
      ·exact ⟨e2, rfl⟩
     ·rcases putL_mem hp with hp | rfl
      ·exact h.b.jw p hp
      ·show Whn (JobC k.1.id) (nameQ k.1.id) d
       rw [e3, a1]
       exact e1
     ·rcases putL_mem hp with hp | rfl
      ·exact h.b.jl p hp
      ·show k.1.id ≤ last'
       rw [e3]; exact e4
/-- Open: the elder queue's facts stay; a new queue goes on behind it -/
theorem QI.opens (h : QI last q d) (least : Int) : QI last q (openQ d least).2 ∧ ∀ q', (openQ d least).1.1 = some q' → QI last q' (openQ d least).2 := by
 unfold openQ
 split
 ·exact ⟨h, fun q' e => by cases e⟩
 ·rename_i ho
  have ho : d.off = false := by simpa using ho
  have ht := h.tidy
  split
  ·exact ⟨ht, fun q' e => by cases e⟩
  ·rename_i he
   have he : (sTidy [113] d).2 = 0 := Classical.byContradiction he
   have ho1 := tidy_on ho he
   generalize (sTidy [113] d).1 = d1 at *
   split
   ·exact ⟨ht, fun q' e => by cases e⟩
   ·rename_i hs
    have hs := scan_ok d1 (namesQ d1) ⟨nextQ least, 0, []⟩ (names_pair ht.wf.names.asc) (Classical.byContradiction hs)
    generalize (scanQ d1 (namesQ d1) ⟨nextQ least, 0, []⟩).2 = sc at *
    have hnx : 1 ≤ sc.next := by
     have := hs.nx
     have h2 : 1 ≤ nextQ least := by unfold nextQ; split <;> omega
     have h3 : nextQ least ≤ sc.next := this
     omega
    have hla0 : 0 ≤ sc.last := hs.lo (fun x _ => by show (0 : Int) ≤ _; omega)
    have hla : sc.last ≤ 1099511627776 ∧ sc.last < sc.next ∧ (0 < sc.last → ∃ x ∈ namesQ d1, RdF d1 x ∧ sc.last = numQ x) := by
     rcases hs.la with h1 | ⟨x, hx, h1, h2⟩
     ·have h1 : sc.last = 0 := h1
      exact ⟨by omega, by omega, fun h0 => by omega⟩
     ·have h3 := numQ_some (hs.num x hx)
      unfold maxId at h3
      exact ⟨by omega, by rw [h2]; exact hs.lt x hx, fun _ => ⟨x, hx, h1, h2⟩⟩
    have hql : q.last ≤ sc.last := by
     obtain ⟨g, g1, g2, g3⟩ := ht.keep
     rcases Int.lt_or_le 0 g with hg | hg
     ·obtain ⟨m1, m2, m3⟩ := dur_rd ht.wf ho1 hg g2 (g3 hg)
      have := hs.up _ m1 m2
      omega
     ·have := h.l0; omega
    have hc : 0 < sc.last → Dur (JobC sc.last) (nameQ sc.last) d1 ∧ ∃ k, Mp.look sc.all (nameQ sc.last) = some k := fun h0 => by
     obtain ⟨x, hx, hr, e⟩ := hla.2.2 h0
     have hd := rd_dur ht.wf ho1 ht.all (hs.num x hx) hr
     obtain ⟨b1, -, -⟩ := numQ_some (hs.num x hx)
     rw [e, b1]
     refine ⟨hd, ?_⟩
     have := hs.rd x hx hr
     cases hk : Mp.look sc.all x with
     |none => exact absurd hk this
     |some k => exact ⟨k, rfl⟩
    have hsw := sweep_ok (last := last) (q := q) (next' := sc.next) (all := sc.all) hla.1 hql (fun h0 => (hc h0).2) (namesQ d1) [] d1 hs.num
     ⟨ht, ⟨ht.wf, ht.tf, by have := h.lq; show last ≤ sc.last; omega, hla0, hla.2.1, ⟨sc.last, Int.le_refl _, hla.1, fun h0 => (hc h0).1⟩, ht.all, fun p hp => absurd hp List.not_mem_nil, fun p hp => absurd hp List.not_mem_nil, fun p hp => absurd hp List.not_mem_nil⟩, fun h0 => (hc h0).1, fun x hx k hk => by
      rcases hs.all x k hk with h1 | ⟨-, h2, h3⟩
      ·exact absurd h1 (by simp [Mp.look])
      ·refine ⟨(rd_dur ht.wf ho1 ht.all (hs.num x hx) h2).whn, ?_, ?_, hs.up x hx h2⟩
       ·rw [h3]; exact reads_good h2.2
       ·rw [h3]; exact h2.2.2⟩
    simp only
    split
    ·exact ⟨hsw.1, fun q' e => by cases e⟩
    ·refine ⟨hsw.1, fun q' e => ?_⟩
     simp only [Option.some.injEq] at e
     subst e
     exact hsw.2
end
end Que
end Go.Proofs.YtcleakjjefmmbaaGreat

/- queue, plain: traps, the power, the first queue: what QueueNumbers' acts leave. -/
namespace Go.Proofs.YtcleakjjefmmbaaGreat
open Go.RowKit
namespace Que
open Vd Sf
section
variable {last : Int} {q : QuP} {d d' : Dsk}
theorem dur_same {C : Nod → Prop} {x : Str} (e2 : d'.nodes = d.nodes) (e3 : d'.sure = d.sure) (e4 : d'.moves = d.moves) (h : Dur C x d) : Dur C x d' := fun j => by
 obtain ⟨i, nd, h1, h2, h3⟩ := h j
 exact ⟨i, nd, by unfold gaveN at h1 ⊢; rw [e4, e3]; exact h1, by rw [e2]; exact h2, h3⟩
theorem QI.traps (h : QI last q d) (f c : Int × Int) (hf : f.2 ≠ 11) : QI last q { d with fail := f, crash := c } := by
 obtain ⟨g, g1, g2, g3⟩ := h.keep
 exact ⟨⟨h.wf.seen, h.wf.sure, h.wf.im, h.wf.kn⟩, hf, h.lq, h.l0, h.ln, ⟨g, g1, g2, fun hg => dur_same (d := d) rfl rfl rfl (g3 hg)⟩, fun ho id h1 h2 hl => fine_same (d := d) rfl rfl rfl rfl (h.all ho id h1 h2 hl), h.jobs, fun p hp => whn_same (d := d) (h.jw p hp) rfl rfl rfl, h.jl⟩
theorem QI.fail (h : QI last q d) (n e : Int) : QI last q { d with fail := failT n e } := by
 refine h.traps (failT n e) d.crash ?_
 have h1 : ∀ x : Int, x ≠ 11 → (setT n x).2 ≠ 11 := fun x hx => by
  unfold setT
  split
  ·show (0 : Int) ≠ 11
   decide
  ·exact hx
 unfold failT
 split
 ·exact h1 0 (by decide)
 ·rename_i h2
  exact h1 e h2
theorem QI.crash (h : QI last q d) (n : Int) : QI last q { d with crash := setT n 11 } := h.traps d.fail (setT n 11) h.tf
theorem QI.boot (h : QI last q d) (t : Int) (ks : List Int) : QI last q (bootD d t ks).1 := by
 by_cases ho : d.off = true
 ·have hm := boot_moves ho t ks
  have hi : Inv [] (bootD d t ks).1 := Inv.boot (K := []) ⟨h.wf, fun k hk => absurd hk List.not_mem_nil⟩ (fun k hk => absurd hk List.not_mem_nil) t ks
  obtain ⟨g, g1, g2, g3⟩ := h.keep
  refine ⟨hi.wf, ?_, h.lq, h.l0, h.ln, ⟨g, g1, g2, fun hg => ?_⟩, fun _ id h1 h2 hl => boot_fine h.wf ho t ks id hl, h.jobs, fun p hp => whn_boot (jobC_closed _) (h.jw p hp) t ks, h.jl⟩
  ·unfold Tf
   rw [hm.2.2.2.1]
   decide
  ·exact (Inv.boot (K := [(nameQ g, JobC g)]) ⟨h.wf, fun k hk => by rw [List.mem_singleton.1 hk]; exact g3 hg⟩ (closeds g _ (nameQ_ne hg g2)) t ks).dur (nameQ g, JobC g) (by simp)
 ·have e : bootD d t ks = (d, 13) := by
   unfold bootD
   rw [if_pos (by simpa using ho)]
  rw [e]
  exact h
/-- a disk without files -/
theorem QI.first (room : Int) (f c : Int × Int) (hf : f.2 ≠ 11) : QI 0 ⟨1, 0, []⟩ ⟨room, [], [], [], [], false, 0, f, c⟩ := by
 refine ⟨⟨rfl, ⟨List.Pairwise.nil, fun p hp => absurd hp List.not_mem_nil, fun p hp => absurd hp List.not_mem_nil⟩, fun m hm => absurd hm List.not_mem_nil, fun m hm => absurd hm List.not_mem_nil⟩, hf, Int.le_refl _, Int.le_refl _, by decide, ⟨0, Int.le_refl _, by decide, fun h => absurd h (by decide)⟩, fun _ id _ _ hl => absurd rfl hl, fun p hp => absurd hp List.not_mem_nil, fun p hp => absurd hp List.not_mem_nil, fun p hp => absurd hp List.not_mem_nil⟩
theorem open_new (room : Int) (f c : Int × Int) (least : Int) : openQ ⟨room, [], [], [], [], false, 0, f, c⟩ least = ((some ⟨nextQ least, 0, []⟩, 0), ⟨room, [], [], [], [], false, 0, f, c⟩) := by
 unfold openQ
 rfl
theorem new_is (cap : Int) (h : newD [] cap = some d) : d = ⟨cap, [], [], [], [], false, 0, (-1, 0), (-1, 0)⟩ := by
 unfold newD at h
 split at h
 ·cases h
 ·simp only [newF, Option.map_some, Option.some.injEq] at h
  exact h.symm
end
end Que
end Go.Proofs.YtcleakjjefmmbaaGreat

/- The last step of every law: a call that returns true and keeps old memory meets its row, whatever the arguments' types. -/
import Derived.Test.YtcleakjjefmmbaaGreatK00
import Derived.Below
import Derived.ChangeSame
import Derived.Carry
import Derived.JoinedCond
import Derived.OpenShut
import Derived.Lib.SmallJoins
namespace Go.Proofs.YtcleakjjefmmbaaGreat
open Go.RowKit Go.WideShapes Go.ChangeShapes

section
variable {H : Type} {enc : TypeId × Value → H} {P : Program}

theorem trodAll_stays (hl : laidOutB P = true) {W W' : World} {sp : Nat → Bool} : ∀ (ts : List TypeId) (vs : List Value) (ds : List (DataW H)) (ps : List MemPlace),
  (∀ t ∈ ts, P.readableRec t = true ∧ t < P.types.size) → DataW.TrodAll enc P W 0 (fun _ => true) true ts vs ds ps → (∀ p ∈ ps, W.sameAt W' p) → (∀ p ∈ ps, sp p.block = true) →
  DataW.TrodAll enc P W' 0 sp true ts vs ds ps
 | [], vs, ds, ps, _, h, _, _ => by
  cases vs <;> cases ds <;> simp_all [DataW.TrodAll]
 |t :: ts, vs, ds, ps, hts, h, hsame, hs => by
  cases vs with
  |nil => simp [DataW.TrodAll] at h
  |cons v vs =>
   cases ds with
   |nil => simp [DataW.TrodAll] at h
   |cons d ds =>
    obtain ⟨p, q, h1, h2, rfl⟩ := h
    obtain ⟨hr, hrow⟩ := hts t (by simp)
    exact ⟨p, q, WideElems.Trod_stays hl hr hrow h1 (fun x hx => hsame x (by simp [hx])) (fun x hx => hs x (by simp [hx])),
     trodAll_stays hl ts vs ds q (fun t ht => hts t (by simp [ht])) h2 (fun x hx => hsame x (by simp [hx])) (fun x hx => hs x (by simp [hx])), rfl⟩

theorem post_of_below {f : Func} {s : ChangeSpec} {apart fresh handsOn again : Bool} {W W' : World} {args : Array Value} {v : Value} {ds gs : List (DataW H)} {before pa pv : List MemPlace}
  (hW : DataW.Whole enc P f.params.toList s.vars apart W args.toList ds gs before)
  (hres : ∀ (b : Nat) (sp : Nat → Bool) (hd : Bool), DataW.TrodAll enc P W' b sp hd f.resultTypes.toList (v.resultList f.resultTypes.size) (s.fn H (ds ++ gs)).results [])
  (hargs : ∀ sp : Nat → Bool, (∀ p ∈ before, sp p.block = true) → DataW.TrodAll enc P W' 0 sp true f.params.toList args.toList (s.fn H (ds ++ gs)).args pa)
  (hvars : ∀ sp : Nat → Bool, (∀ p ∈ before, sp p.block = true) → DataW.TrodVars enc P W' sp s.vars (s.fn H (ds ++ gs)).vars pv)
  (hps : before = pa ++ pv) (hb : Below W.heap.size W W')
  (hok : ∀ (j : Nat) (t : TypeId) (r : Value), f.resultTypes[j]? = some t → (v.resultList f.resultTypes.size)[j]? = some r → Value.okWide P W' .any 0 t r) :
  s.post enc P f apart fresh handsOn again W args v W' := by
 have hlt : ∀ p ∈ before, p.block < W.heap.size := fun p hp => hW.lt p hp
 have hold : ∀ p ∈ before, (fun b => decide (b < W.heap.size)) p.block = true := fun p hp => by simpa using hlt p hp
 refine ⟨ds, gs, before, [], pa, pv, hW, hres _ _ _, hargs _ hold, hvars _ hold, World.keptBut_mono (fun p hp => ⟨hp, ?_⟩) (hb.frame (· ∈ before)), fun _ => ?_⟩
 ·rw [hps, List.mem_append] at hp
  exact Or.inr hp
 ·obtain ⟨_, _, _, _, _, hz, hn⟩ := hW
  refine ⟨hok, _, _, ([] ++ pa) ++ pv, ⟨[] ++ pa, pv, trodAll_append (hargs _ (fun _ _ => rfl)) (hres _ _ _), hvars _ (fun _ _ => rfl), rfl, ?_, ?_⟩, ?_⟩
  ·intro b off hp
   have hin : MemPlace.cell b off ∈ before := by rw [hps]; simpa using hp
   rw [hb.frozen (hlt _ hin)]
   exact hz b off hin
  ·intro ha
   have := hn ha
   rw [hps] at this
   simpa using this
  ·intro p hp _
   rw [hps]
   simpa using hp

/-- THE LAW's LAST STEP. 'tb' is bool's number. -/
theorem law_post {f : Func} {s : ChangeSpec} {apart fresh handsOn again : Bool} {W W' : World} {args : Array Value} {ds gs : List (DataW H)} {before : List MemPlace} {tb : TypeId}
  (hl : laidOutB P = true) (htb : P.underlying tb = some .bool) (hvars : s.vars = []) (hres : f.resultTypes = #[tb])
  (hts : ∀ t ∈ f.params.toList, P.readableRec t = true ∧ t < P.types.size)
  (hs : (s.fn H ds).results = [.lit (.bool true)] ∧ (s.fn H ds).args = ds ∧ (s.fn H ds).vars = [])
  (hW : DataW.Whole enc P f.params.toList s.vars apart W args.toList ds gs before) (hk : Keeps W W') :
  s.post enc P f apart fresh handsOn again W args (.bool true) W' := by
 have hW' := hW
 have hlt : ∀ p ∈ before, p.block < W.heap.size := fun p hp => hW.lt p hp
 obtain ⟨p, q, hA, hV, hpq, hfz, hnd⟩ := hW
 rw [hvars] at hV
 obtain ⟨rfl, rfl⟩ := trodVars_none hV
 subst hpq
 have hsd : (s.fn H (ds ++ [])) = s.fn H ds := by simp
 refine post_of_below (pa := p) (pv := []) hW' ?_ ?_ ?_ rfl hk.below ?_
 ·intro b sp hd
  rw [hsd, hs.1, hres]
  exact trodAll_cons_mk (shut_bool htb _) trodAll_mk0
 ·intro sp hsp
  rw [hsd, hs.2.1]
  exact trodAll_stays hl _ _ _ _ hts hA (fun x hx => hk.below.same (hlt x (by simp [hx]))) (fun x hx => hsp x (by simp [hx]))
 ·intro sp hsp
  rw [hsd, hs.2.2, hvars]
  rfl
 ·exact ok_one hres rfl (okWide_bool_mk htb _)

/-! ### Opening arguments -/
end
end Go.Proofs.YtcleakjjefmmbaaGreat

/- Several texts in one: OctetSinks, OctetBackPlain, OctetSrcPlain, UsRdPlain. -/
import Derived.Test.YtklbemkafdccgaaGreatOctetWords
import Derived.Deep.RegionHeld3
import Derived.Deep.DeepCutAuto
import Derived.Test.YtklbemkafdccgaaGreatK00
/- The law OctetSinks, walked. -/
namespace Go.Proofs.YtklbemkafdccgaaGreat
open Go.RowKit
namespace Oct

/-- what a word puts down -/
def putW (x : Word) : List UInt8 :=
 if x.kind = 0 then putL x.v x.k else if x.kind = 1 then (if fitsB x.n x.k then putL (unsV x.n x.k) x.k else []) else if x.kind = 2 then textL x.s else if x.kind = 3 then x.s.data.toList else []
def acc (l : List Word) : List UInt8 := l.flatMap putW

/-- behind j words: the sink, and all -/
structure SinksRel (W w : World) (g : Nat) (vs va : Value) (a : List UInt8) : Prop where
 sink : SinkAt w g vs a
 own : Own w W.heap.size 5 va (a.map u8v)
 apart : ∀ x, va.ownBlock = some x → ¬ Fr g vs x
 base : ∀ x, Fr g vs x → W.heap.size ≤ x
 keeps : Keeps W w

theorem SinksRel.kept {W w w' : World} {g : Nat} {vs va : Value} {a : List UInt8} (h : SinksRel W w g vs va a) (k : Keeps w w') : SinksRel W w' g vs va a :=
 ⟨h.sink.keeps k, h.own.keeps k, h.apart, h.base, h.keeps.trans k⟩
/-- the sink's call -/
theorem SinksRel.did {W w w' : World} {g : Nat} {vs va vs' : Value} {a m : List UInt8} (h : SinksRel W w g vs va a) (hs : SinkAt w' g vs' m) (hm : Mods (Fr g vs) w w') (hf : Fresh w vs vs') :
  SinkAt w' g vs' m ∧ Own w' W.heap.size 5 va (a.map u8v) ∧ (∀ x, va.ownBlock = some x → ¬ Fr g vs' x) ∧ (∀ x, Fr g vs' x → W.heap.size ≤ x) ∧ Keeps W w' := by
 have hlt := h.own.block_lt
 refine ⟨hs, h.own.mods hm (fun x hx => h.apart x hx), ?_, ?_, hm.keeps h.keeps h.base⟩
 ·rintro x hx (h1 | h1)
  ·exact h.apart x hx (.inl h1)
  ·rcases hf x h1 with h2 | h2
   ·exact h.apart x hx (.inr h2)
   ·have := hlt x hx; omega
 ·rintro x (h1 | h1)
  ·exact h.base x (.inl h1)
  ·rcases hf x h1 with h2 | h2
   ·exact h.base x (.inr h2)
   ·have := h.keeps.size; omega
/-- .. and all's append -/
theorem SinksRel.grown {W w w' : World} {g : Nat} {vs va va' : Value} {a m : List UInt8} (h1 : SinkAt w g vs m) (_h2 : Own w W.heap.size 5 va (a.map u8v)) (h3 : ∀ x, va.ownBlock = some x → ¬ Fr g vs x) (h4 : ∀ x, Fr g vs x → W.heap.size ≤ x) (h5 : Keeps W w)
  (ho : Own w' W.heap.size 5 va' (m.map u8v)) (hg : w.grownBy w' va.ownBlock) (hf : Fresh w va va') : SinksRel W w' g vs va' m := by
 have hM : Mods (fun x => va.ownBlock = some x) w w' := (Mods.refl _ w).grown hg (fun k hk _ => hk)
 refine ⟨h1.mods hM (fun x hx hh => h3 x hh hx), ho, ?_, h4, hM.keeps h5 (fun x hx => _h2.base x hx)⟩
 intro x hx hfr
 rcases hf x hx with h | h
 ·exact h3 x h hfr
 ·have := h1.lt x hfr; omega

end Oct
end Go.Proofs.YtklbemkafdccgaaGreat

/- What is put is taken as it was: plain. And the sink beside another row of the call's own. -/
namespace Go.Proofs.YtklbemkafdccgaaGreat
open Go.RowKit
namespace Oct

/-- was the word put? -/
def inB (x : Word) : Bool := if x.kind = 0 then putB x.v x.k else if x.kind = 1 then fitsB x.n x.k else true

theorem taken {pre m post : List UInt8} {n : Nat} (h : m.length = n) : ((pre ++ (m ++ post)).drop pre.length).take n = m := by
 rw [List.drop_left, ← h, List.take_left]
theorem getB_pre {pre m post : List UInt8} {n : Nat} (h : m.length = n) (h1 : 1 ≤ n) (h8 : n ≤ 8) : getB (pre ++ (m ++ post)) (pre.length : Nat) n = true := by
 simp [getB, okk]
 omega
theorem getV_pre {pre m post : List UInt8} {n : Nat} (h : m.length = n) (h1 : 1 ≤ n) (h8 : n ≤ 8) : getV (pre ++ (m ++ post)) (pre.length : Nat) n = valOf m := by
 rw [getV_nat (getB_pre h h1 h8), taken h]

/-- a number is taken -/
theorem back_num {pre post : List UInt8} {v : Nat} {k : Int} (hp : putB v k = true) {L : List UInt8} (hL : L = pre ++ (putL v k ++ post)) :
  uE L.length pre.length 0 k = 0 ∧ uA L.length pre.length 0 k = (pre ++ putL v k).length ∧ uV L pre.length 0 k = v := by
 have hk : okk k = true := by simp [putB] at hp; exact hp.1
 have hv : v < 256 ^ k.toNat := by simp [putB] at hp; exact hp.2
 obtain ⟨n, rfl, h1, h8⟩ := okk_nat hk
 have hl : putL v n = be n v := by simp [putL, hp]
 have hbl := be_length n v
 rw [hl] at hL ⊢
 have hE : uE L.length pre.length 0 n = 0 := by
  simp [uE, hk]
  subst hL
  simp
  omega
 refine ⟨hE, by simp [uA, hE, hbl], ?_⟩
 simp only [uV, hE, if_true]
 rw [hL, getV_pre hbl h1 h8, valOf_be]
 exact Nat.mod_eq_of_lt (by simpa using hv)
/-- the sink, and another row of the call's own -/
structure Beside (W w : World) (g : Nat) (vs : Value) (a : List UInt8) (e : TypeId) (va : Value) (xs : List Value) : Prop where
 sink : SinkAt w g vs a
 own : Own w W.heap.size e va xs
 apart : ∀ x, va.ownBlock = some x → ¬ Fr g vs x
 base : ∀ x, Fr g vs x → W.heap.size ≤ x
 keeps : Keeps W w
theorem Beside.kept {W w w' : World} {g : Nat} {vs va : Value} {a : List UInt8} {e : TypeId} {xs : List Value} (h : Beside W w g vs a e va xs) (k : Keeps w w') : Beside W w' g vs a e va xs :=
 ⟨h.sink.keeps k, h.own.keeps k, h.apart, h.base, h.keeps.trans k⟩
theorem Beside.did {W w w' : World} {g : Nat} {vs va vs' : Value} {a m : List UInt8} {e : TypeId} {xs : List Value} (h : Beside W w g vs a e va xs) (hs : SinkAt w' g vs' m) (hm : Mods (Fr g vs) w w') (hf : Fresh w vs vs') : Beside W w' g vs' m e va xs := by
 have hlt := h.own.block_lt
 refine ⟨hs, h.own.mods hm (fun x hx => h.apart x hx), ?_, ?_, hm.keeps h.keeps h.base⟩
 ·rintro x hx (h1 | h1)
  ·exact h.apart x hx (.inl h1)
  ·rcases hf x h1 with h2 | h2
   ·exact h.apart x hx (.inr h2)
   ·have := hlt x hx; omega
 ·rintro x (h1 | h1)
  ·exact h.base x (.inl h1)
  ·rcases hf x h1 with h2 | h2
   ·exact h.base x (.inr h2)
   ·have := h.keeps.size; omega
theorem Beside.grown {W w w' : World} {g : Nat} {vs va va' : Value} {m : List UInt8} {e : TypeId} {xs ys : List Value} (h : Beside W w g vs m e va xs)
  (ho : Own w' W.heap.size e va' ys) (hg : w.grownBy w' va.ownBlock) (hf : Fresh w va va') : Beside W w' g vs m e va' ys := by
 have hM : Mods (fun x => va.ownBlock = some x) w w' := (Mods.refl _ w).grown hg (fun k hk _ => hk)
 refine ⟨h.sink.mods hM (fun x hx hh => h.apart x hh hx), ho, ?_, h.base, hM.keeps h.keeps (fun x hx => h.own.base x hx)⟩
 intro x hx hfr
 rcases hf x hx with h1 | h1
 ·exact h.apart x h1 hfr
 ·have := h.sink.lt x hfr; omega

end Oct
end Go.Proofs.YtklbemkafdccgaaGreat

/- What is taken of any bytes, word by word: plain. -/
namespace Go.Proofs.YtklbemkafdccgaaGreat
open Go.RowKit
namespace Oct

/-- what becomes of a word that is taken: the error, the place, the number, the text -/
def sE (L : List UInt8) (a : Nat) (er : Int) (x : Word) : Int :=
 if x.kind = 0 ∨ x.kind = 1 then uE L.length a er x.k else if x.kind = 2 then tE L a er x.n else if x.kind = 3 then rE L.length a er x.n else er
def sA (L : List UInt8) (a : Nat) (er : Int) (x : Word) : Nat :=
 if x.kind = 0 ∨ x.kind = 1 then uA L.length a er x.k else if x.kind = 2 then tA L a er x.n else if x.kind = 3 then rA L.length a er x.n else a
def sN (L : List UInt8) (a : Nat) (er : Int) (x : Word) : Int := (sA L a er x : Int) - a
def sV (L : List UInt8) (a : Nat) (er : Int) (x : Word) : Nat := if x.kind = 0 ∨ x.kind = 1 then uV L a er x.k else 0
def sT (L : List UInt8) (a : Nat) (er : Int) (x : Word) : List UInt8 := if x.kind = 2 then tL L a er x.n else if x.kind = 3 then rL L a er x.n else []

theorem uE_er {n a : Nat} {er k : Int} (h : er ≠ 0) : uE n a er k = er := by simp [uE, h]
theorem tE_er {L : List UInt8} {a : Nat} {er k : Int} (h : er ≠ 0) : tE L a er k = er := by
 unfold tE; rw [uE_er h, if_pos h]
end Oct
end Go.Proofs.YtklbemkafdccgaaGreat

/- Reading, plain: programs that take numbers and texts of bytes, and give up where bytes lacked. -/
namespace Go.Proofs.YtklbemkafdccgaaGreat.Usr
open Adr (Str)
open Oct (uE uA uV tE tA tL okk getB getV valOf)
inductive Rd (α : Type) where
 |ret : α → Rd α
 |num : Nat → (Nat → Rd α) → Rd α
 |txt : Nat → (Str → Rd α) → Rd α
 |must : Rd α → Rd α
/-- what comes of it, from a place and an error on: none: it gave up -/
def Rd.run {α : Type} : Rd α → Str → Nat → Int → Option α × Nat × Int
 | .ret x, _, a, er => (some x, a, er)
 | .num k f, l, a, er => (f (uV l a er k)).run l (uA l.length a er k) (uE l.length a er k)
 | .txt m f, l, a, er => (f (tL l a er m)).run l (tA l a er m) (tE l a er m)
 | .must p, l, a, er => if er = 0 then p.run l a er else (none, a, er)
def Rd.bind {α β : Type} : Rd α → (α → Rd β) → Rd β
 | .ret x, g => g x
 | .num k f, g => .num k fun v => (f v).bind g
 | .txt m f, g => .txt m fun s => (f s).bind g
 | .must p, g => .must (p.bind g)
theorem Rd.run_bind {α β : Type} (p : Rd α) (g : α → Rd β) (l : Str) : ∀ a er, (p.bind g).run l a er = match p.run l a er with
  |(some x, a', er') => (g x).run l a' er'
  |(none, a', er') => (none, a', er') := by
 induction p with
 |ret x => intro a er; rfl
 |num k f ih => intro a er; simp only [Rd.bind, Rd.run]; exact ih _ _ _
 |txt m f ih => intro a er; simp only [Rd.bind, Rd.run]; exact ih _ _ _
 |must p ih =>
  intro a er
  simp only [Rd.bind, Rd.run]
  by_cases h : er = 0
  ·rw [if_pos h, if_pos h]; exact ih _ _
  ·rw [if_neg h, if_neg h]
theorem Rd.stuck {α : Type} (p : Rd α) (l : Str) : ∀ a er, er ≠ 0 → (p.run l a er).2.2 = er := by
 induction p with
 |ret x => intro a er _; rfl
 |num k f ih =>
  intro a er h
  simp only [Rd.run]
  have e : uE l.length a er k = er := Oct.uE_er h
  rw [ih _ _ _ (by rw [e]; exact h), e]
 |txt m f ih =>
  intro a er h
  simp only [Rd.run]
  have e : tE l a er m = er := Oct.tE_er h
  rw [ih _ _ _ (by rw [e]; exact h), e]
 |must p ih =>
  intro a er h
  simp only [Rd.run]
  rw [if_neg h]
/-- numbers of one to eight bytes -/
def Rd.ok {α : Type} : Rd α → Prop
 | .ret _ => True
 | .num k f => (1 ≤ k ∧ k ≤ 8) ∧ ∀ v, (f v).ok
 | .txt _ f => ∀ s, (f s).ok
 | .must p => p.ok
theorem okk_n {k : Nat} (h : 1 ≤ k ∧ k ≤ 8) : okk (k : Int) = true := by simp [okk]; omega
theorem uE_0 {n a k : Nat} (h : 1 ≤ k ∧ k ≤ 8) : uE n a 0 k = if (n : Int) - a < k then 2 else 0 := by
 unfold uE
 rw [if_neg (by simp), okk_n h, if_neg (by simp)]
theorem take_mid {l : Str} {a k c : Nat} (h : a + k ≤ c) : ((l.take c).drop a).take k = (l.drop a).take k := by
 rw [List.drop_take, List.take_take, Nat.min_eq_left (by omega)]
theorem getB_n {l : Str} {a k : Nat} (h : 1 ≤ k ∧ k ≤ 8) : getB l a k = decide (a + k ≤ l.length) := by
 unfold getB
 rw [okk_n h, Bool.true_and, decide_eq_decide]
 omega
theorem getV_cut {l : Str} {a k c : Nat} (hk : 1 ≤ k ∧ k ≤ 8) (h : a + k ≤ c) (hc : c ≤ l.length) : getV (l.take c) a k = getV l a k := by
 have hl : (l.take c).length = c := by rw [List.length_take]; omega
 unfold getV
 rw [getB_n hk, getB_n hk, hl, decide_eq_true h, decide_eq_true (show a + k ≤ l.length by omega), if_pos rfl, if_pos rfl]
 simp only [Int.toNat_natCast]
 rw [take_mid h]
theorem u_cut {l : Str} {a k c : Nat} (hk : 1 ≤ k ∧ k ≤ 8) (hc : c < l.length) (hE : uE l.length a 0 k = 0) :
  (a + k ≤ c ∧ uE (l.take c).length a 0 k = 0 ∧ uV (l.take c) a 0 k = uV l a 0 k ∧ uA (l.take c).length a 0 k = a + k ∧ uA l.length a 0 k = a + k) ∨ uE (l.take c).length a 0 k = 2 := by
 have hl : (l.take c).length = c := by rw [List.length_take]; omega
 by_cases h : a + k ≤ c
 ·left
  have e : uE (l.take c).length a 0 k = 0 := by rw [hl, uE_0 hk, if_neg (by omega)]
  refine ⟨h, e, ?_, ?_, ?_⟩
  ·unfold uV
   rw [e, hE, if_pos rfl, if_pos rfl, getV_cut hk h (by omega)]
  ·unfold uA
   rw [e, if_pos rfl]; simp
  ·unfold uA
   rw [hE, if_pos rfl]; simp
 ·right
  rw [hl, uE_0 hk, if_pos (by omega)]
theorem t_cut {l : Str} {a m c : Nat} (hc : c < l.length) (hE : tE l a 0 m = 0) :
  (∃ n, a + 4 + n ≤ c ∧ tE (l.take c) a 0 m = 0 ∧ tL (l.take c) a 0 m = tL l a 0 m ∧ tA (l.take c) a 0 m = a + 4 + n ∧ tA l a 0 m = a + 4 + n) ∨ tE (l.take c) a 0 m = 2 := by
 have hl : (l.take c).length = c := by rw [List.length_take]; omega
 have hu : uE l.length a 0 4 = 0 := by
  apply Classical.byContradiction
  intro h
  unfold tE at hE
  rw [if_pos h] at hE
  exact h hE
 have hm : ¬ ((m : Int) < 0 ∨ (m : Int) < (getV l a 4 : Int)) := by
  intro h
  unfold tE at hE
  rw [if_neg (by rw [hu]; decide), if_pos h] at hE
  cases hE
 have hn : ¬ ((l.length : Int) - a - 4 < (getV l a 4 : Int)) := by
  intro h
  unfold tE at hE
  rw [if_neg (by rw [hu]; decide), if_neg hm, if_pos h] at hE
  cases hE
 have key := u_cut (k := 4) (by omega) hc hu
 rw [show ((4 : Nat) : Int) = 4 from rfl] at key
 rcases key with ⟨h1, h2, h3, -, -⟩ | h2
 ·have hg : getV (l.take c) a 4 = getV l a 4 := getV_cut (k := 4) (by omega) h1 (by omega)
  by_cases h : a + 4 + getV l a 4 ≤ c
  ·left
   have e : tE (l.take c) a 0 m = 0 := by
    unfold tE
    rw [h2, if_neg (by decide), hg, if_neg hm, hl, if_neg (by omega)]
   refine ⟨getV l a 4, h, e, ?_, ?_, ?_⟩
   ·unfold tL
    rw [e, hE, if_pos rfl, if_pos rfl, hg, take_mid h]
   ·unfold tA
    rw [e, if_pos rfl, hg]
   ·unfold tA
    rw [hE, if_pos rfl]
  ·right
   unfold tE
   rw [h2, if_neg (by decide), hg, if_neg hm, hl, if_pos (by omega)]
 ·right
  unfold tE
  rw [h2, if_pos (by decide)]
/-- bytes that were read to their end: of fewer, some lack -/
theorem Rd.cut {α : Type} (p : Rd α) (l : Str) (c : Nat) (hc : c < l.length) : ∀ a x, p.ok → a ≤ c → p.run l a 0 = (some x, l.length, 0) → (p.run (l.take c) a 0).2.2 = 2 := by
 induction p with
 |ret y =>
  intro a x _ ha h
  simp only [Rd.run, Prod.mk.injEq] at h
  omega
 |num k f ih =>
  intro a x ho ha h
  simp only [Rd.run] at h ⊢
  have hE : uE l.length a 0 k = 0 := by
   apply Classical.byContradiction
   intro hne
   have := Rd.stuck (f (uV l a 0 k)) l (uA l.length a 0 k) _ hne
   rw [h] at this
   exact hne this.symm
  rcases u_cut ho.1 hc hE with ⟨h1, h2, h3, h4, h5⟩ | h2
  ·rw [h2, h3, h4]
   refine ih _ _ x (ho.2 _) h1 ?_
   rw [hE, h5] at h
   exact h
  ·rw [h2]
   exact Rd.stuck _ _ _ _ (by decide)
 |txt m f ih =>
  intro a x ho ha h
  simp only [Rd.run] at h ⊢
  have hE : tE l a 0 m = 0 := by
   apply Classical.byContradiction
   intro hne
   have := Rd.stuck (f (tL l a 0 m)) l (tA l a 0 m) _ hne
   rw [h] at this
   exact hne this.symm
  rcases t_cut hc hE with ⟨n, h1, h2, h3, h4, h5⟩ | h2
  ·rw [h2, h3, h4]
   refine ih _ _ x (ho _) h1 ?_
   rw [hE, h5] at h
   exact h
  ·rw [h2]
   exact Rd.stuck _ _ _ _ (by decide)
 |must p ih =>
  intro a x ho ha h
  simp only [Rd.run] at h ⊢
  simp only [if_true] at h ⊢
  exact ih a x ho ha h
end Go.Proofs.YtklbemkafdccgaaGreat.Usr

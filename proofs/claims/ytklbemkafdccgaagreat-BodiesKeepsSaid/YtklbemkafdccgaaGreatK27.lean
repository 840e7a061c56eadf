/- Several texts in one: FrameSame, OctetWords, OctetSinks, OctetBackPlain, OctetSrcPlain, UsRdPlain, FrameRows, TxRefBytes, TxBegin, TxOne, TxRepPlain, TxReplay. -/
import Derived.Test.YtklbemkafdccgaaGreatFrameAwake
import Derived.Test.YtklbemkafdccgaaGreatDrawn
import Derived.Test.YtklbemkafdccgaaGreatK26
import Derived.Test.YtklbemkafdccgaaGreatK10
import Derived.Deep.RegionHeld3
import Derived.Deep.DeepCutAuto
import Derived.Test.YtklbemkafdccgaaGreatK00
import Derived.Test.YtklbemkafdccgaaGreatK12
import Derived.Test.YtklbemkafdccgaaGreatK09
import Derived.Test.YtklbemkafdccgaaGreatLawKit
import Derived.Test.YtklbemkafdccgaaGreatFrameRef
import Derived.Test.YtklbemkafdccgaaGreatK02
import Derived.Test.YtklbemkafdccgaaGreatMid
import Derived.Deep.LoopGhost
/- The reference's Same and SameGaps: of what is the same they say so. -/
namespace Go.Proofs.YtklbemkafdccgaaGreat
open Go.RowKit
namespace Frm
open Oct

theorem fr_at {l : List (Fr1 × Value)} {i : Nat} (h : i < l.length) {j : Nat} (hj : j < 4) : (l.flatMap frC)[i * 4 + j]? = (frC l[i])[j]? := flat_get frC_len l i j _ (List.getElem?_eq_getElem h) hj
/-- one frame of a list in memory: its cells and its payload -/
theorem FramesAt.one {w : World} {base : Nat} {p : Option Addr} {n cap : Nat} {l : List (Fr1 × Value)} (h : FramesAt w base (.slice p n cap) l) {j : Nat} (hj : j < l.length) : ∃ g, p = some ⟨g, 0, none⟩ ∧ (w.cell? ⟨g, j * 4, none⟩ = some (.int .i64 l[j].1.at') ∧ w.cell? ⟨g, j * 4 + 1, none⟩ = some (.int .i64 l[j].1.len) ∧ w.cell? ⟨g, j * 4 + 2, none⟩ = some (.int .i64 l[j].1.kind) ∧ w.cell? ⟨g, j * 4 + 3, none⟩ = some l[j].2) ∧ Row w l[j].2 (l[j].1.pay.map u8v) := by
 obtain ⟨g, cap', hv, -, -, -, hc⟩ := ownsRow_at h.own (by omega)
 simp only [Value.slice.injEq] at hv
 obtain ⟨rfl, -, rfl⟩ := hv
 refine ⟨g, rfl, ⟨hc (j * 4 + 0) _ (by rw [fr_at hj (by omega)]; rfl), hc (j * 4 + 1) _ (by rw [fr_at hj (by omega)]; rfl), hc (j * 4 + 2) _ (by rw [fr_at hj (by omega)]; rfl), hc (j * 4 + 3) _ (by rw [fr_at hj (by omega)]; rfl)⟩, (h.pay _ (List.getElem_mem hj)).row⟩

end Frm
end Go.Proofs.YtklbemkafdccgaaGreat

/- The words of the laws of octet: how they lie in memory; 'some'. -/
namespace Go.Proofs.YtklbemkafdccgaaGreat
open Go.RowKit
namespace Oct

structure Word where
 kind : Int
 k : Int
 n : Int
 v : Nat
 s : ByteArray

def wordC (x : Word) : List Value := [.int .i64 x.kind, .int .i64 x.k, .int .i64 x.n, .int .u64 (x.v : Int), .string x.s]
def wordOk (x : Word) : Prop := (Lit.int .i64 x.kind).wf = true ∧ (Lit.int .i64 x.k).wf = true ∧ (Lit.int .i64 x.n).wf = true ∧ x.v < 18446744073709551616 ∧ x.s.size ≤ maxLen

theorem c3 : Tryz.prog.cellsOf 3 = 1 := by kernel_rfl
theorem c9 : Tryz.prog.cellsOf 9 = 1 := by kernel_rfl

def someB (l : List Word) : Bool := decide (l.length ≤ 60) && l.all fun x => decide (x.s.size ≤ 300)

end Oct
end Go.Proofs.YtklbemkafdccgaaGreat

/- The law OctetSinks, walked. -/
namespace Go.Proofs.YtklbemkafdccgaaGreat
open Go.RowKit
namespace Oct

/-- what a word puts down -/
def putW (x : Word) : List UInt8 :=
 if x.kind = 0 then putL x.v x.k else if x.kind = 1 then (if fitsB x.n x.k then putL (unsV x.n x.k) x.k else []) else if x.kind = 2 then textL x.s else if x.kind = 3 then x.s.data.toList else []
def acc (l : List Word) : List UInt8 := l.flatMap putW

/-- behind j words: the sink, and all -/
structure SinksRel (W w : World) (g : Nat) (vs va : Value) (a : List UInt8) : Prop where
 sink : SinkAt w g vs a
 own : Own w W.heap.size 5 va (a.map u8v)
 apart : ∀ x, va.ownBlock = some x → ¬ Fr g vs x
 base : ∀ x, Fr g vs x → W.heap.size ≤ x
 keeps : Keeps W w

theorem SinksRel.kept {W w w' : World} {g : Nat} {vs va : Value} {a : List UInt8} (h : SinksRel W w g vs va a) (k : Keeps w w') : SinksRel W w' g vs va a :=
 ⟨h.sink.keeps k, h.own.keeps k, h.apart, h.base, h.keeps.trans k⟩
/-- the sink's call -/
theorem SinksRel.did {W w w' : World} {g : Nat} {vs va vs' : Value} {a m : List UInt8} (h : SinksRel W w g vs va a) (hs : SinkAt w' g vs' m) (hm : Mods (Fr g vs) w w') (hf : Fresh w vs vs') :
  SinkAt w' g vs' m ∧ Own w' W.heap.size 5 va (a.map u8v) ∧ (∀ x, va.ownBlock = some x → ¬ Fr g vs' x) ∧ (∀ x, Fr g vs' x → W.heap.size ≤ x) ∧ Keeps W w' := by
 have hlt := h.own.block_lt
 refine ⟨hs, h.own.mods hm (fun x hx => h.apart x hx), ?_, ?_, hm.keeps h.keeps h.base⟩
 ·rintro x hx (h1 | h1)
  ·exact h.apart x hx (.inl h1)
  ·rcases hf x h1 with h2 | h2
   ·exact h.apart x hx (.inr h2)
   ·have := hlt x hx; omega
 ·rintro x (h1 | h1)
  ·exact h.base x (.inl h1)
  ·rcases hf x h1 with h2 | h2
   ·exact h.base x (.inr h2)
   ·have := h.keeps.size; omega
/-- .. and all's append -/
theorem SinksRel.grown {W w w' : World} {g : Nat} {vs va va' : Value} {a m : List UInt8} (h1 : SinkAt w g vs m) (_h2 : Own w W.heap.size 5 va (a.map u8v)) (h3 : ∀ x, va.ownBlock = some x → ¬ Fr g vs x) (h4 : ∀ x, Fr g vs x → W.heap.size ≤ x) (h5 : Keeps W w)
  (ho : Own w' W.heap.size 5 va' (m.map u8v)) (hg : w.grownBy w' va.ownBlock) (hf : Fresh w va va') : SinksRel W w' g vs va' m := by
 have hM : Mods (fun x => va.ownBlock = some x) w w' := (Mods.refl _ w).grown hg (fun k hk _ => hk)
 refine ⟨h1.mods hM (fun x hx hh => h3 x hh hx), ho, ?_, h4, hM.keeps h5 (fun x hx => _h2.base x hx)⟩
 intro x hx hfr
 rcases hf x hx with h | h
 ·exact h3 x h hfr
 ·have := h1.lt x hfr; omega

end Oct
end Go.Proofs.YtklbemkafdccgaaGreat

/- What is put is taken as it was: plain. And the sink beside another row of the call's own. -/
namespace Go.Proofs.YtklbemkafdccgaaGreat
open Go.RowKit
namespace Oct

/-- was the word put? -/
def inB (x : Word) : Bool := if x.kind = 0 then putB x.v x.k else if x.kind = 1 then fitsB x.n x.k else true

theorem taken {pre m post : List UInt8} {n : Nat} (h : m.length = n) : ((pre ++ (m ++ post)).drop pre.length).take n = m := by
 rw [List.drop_left, ← h, List.take_left]
/-- the sink, and another row of the call's own -/
structure Beside (W w : World) (g : Nat) (vs : Value) (a : List UInt8) (e : TypeId) (va : Value) (xs : List Value) : Prop where
 sink : SinkAt w g vs a
 own : Own w W.heap.size e va xs
 apart : ∀ x, va.ownBlock = some x → ¬ Fr g vs x
 base : ∀ x, Fr g vs x → W.heap.size ≤ x
 keeps : Keeps W w
theorem Beside.kept {W w w' : World} {g : Nat} {vs va : Value} {a : List UInt8} {e : TypeId} {xs : List Value} (h : Beside W w g vs a e va xs) (k : Keeps w w') : Beside W w' g vs a e va xs :=
 ⟨h.sink.keeps k, h.own.keeps k, h.apart, h.base, h.keeps.trans k⟩
theorem Beside.did {W w w' : World} {g : Nat} {vs va vs' : Value} {a m : List UInt8} {e : TypeId} {xs : List Value} (h : Beside W w g vs a e va xs) (hs : SinkAt w' g vs' m) (hm : Mods (Fr g vs) w w') (hf : Fresh w vs vs') : Beside W w' g vs' m e va xs := by
 have hlt := h.own.block_lt
 refine ⟨hs, h.own.mods hm (fun x hx => h.apart x hx), ?_, ?_, hm.keeps h.keeps h.base⟩
 ·rintro x hx (h1 | h1)
  ·exact h.apart x hx (.inl h1)
  ·rcases hf x h1 with h2 | h2
   ·exact h.apart x hx (.inr h2)
   ·have := hlt x hx; omega
 ·rintro x (h1 | h1)
  ·exact h.base x (.inl h1)
  ·rcases hf x h1 with h2 | h2
   ·exact h.base x (.inr h2)
   ·have := h.keeps.size; omega
theorem Beside.grown {W w w' : World} {g : Nat} {vs va va' : Value} {m : List UInt8} {e : TypeId} {xs ys : List Value} (h : Beside W w g vs m e va xs)
  (ho : Own w' W.heap.size e va' ys) (hg : w.grownBy w' va.ownBlock) (hf : Fresh w va va') : Beside W w' g vs m e va' ys := by
 have hM : Mods (fun x => va.ownBlock = some x) w w' := (Mods.refl _ w).grown hg (fun k hk _ => hk)
 refine ⟨h.sink.mods hM (fun x hx hh => h.apart x hh hx), ho, ?_, h.base, hM.keeps h.keeps (fun x hx => h.own.base x hx)⟩
 intro x hx hfr
 rcases hf x hx with h1 | h1
 ·exact h.apart x h1 hfr
 ·have := h.sink.lt x hfr; omega

end Oct
end Go.Proofs.YtklbemkafdccgaaGreat

/- What is taken of any bytes, word by word: plain. -/
namespace Go.Proofs.YtklbemkafdccgaaGreat
open Go.RowKit
namespace Oct

/-- what becomes of a word that is taken: the error, the place, the number, the text -/
def sE (L : List UInt8) (a : Nat) (er : Int) (x : Word) : Int :=
 if x.kind = 0 ∨ x.kind = 1 then uE L.length a er x.k else if x.kind = 2 then tE L a er x.n else if x.kind = 3 then rE L.length a er x.n else er
def sA (L : List UInt8) (a : Nat) (er : Int) (x : Word) : Nat :=
 if x.kind = 0 ∨ x.kind = 1 then uA L.length a er x.k else if x.kind = 2 then tA L a er x.n else if x.kind = 3 then rA L.length a er x.n else a
def sN (L : List UInt8) (a : Nat) (er : Int) (x : Word) : Int := (sA L a er x : Int) - a
def sV (L : List UInt8) (a : Nat) (er : Int) (x : Word) : Nat := if x.kind = 0 ∨ x.kind = 1 then uV L a er x.k else 0
def sT (L : List UInt8) (a : Nat) (er : Int) (x : Word) : List UInt8 := if x.kind = 2 then tL L a er x.n else if x.kind = 3 then rL L a er x.n else []

theorem uE_er {n a : Nat} {er k : Int} (h : er ≠ 0) : uE n a er k = er := by simp [uE, h]
theorem tE_er {L : List UInt8} {a : Nat} {er k : Int} (h : er ≠ 0) : tE L a er k = er := by
 unfold tE; rw [uE_er h, if_pos h]
end Oct
end Go.Proofs.YtklbemkafdccgaaGreat

/- Reading, plain: programs that take numbers and texts of bytes, and give up where bytes lacked. -/
namespace Go.Proofs.YtklbemkafdccgaaGreat.Usr
open Adr (Str)
open Oct (uE uA uV tE tA tL okk getB getV valOf)
inductive Rd (α : Type) where
 |ret : α → Rd α
 |num : Nat → (Nat → Rd α) → Rd α
 |txt : Nat → (Str → Rd α) → Rd α
 |must : Rd α → Rd α
/-- what comes of it, from a place and an error on: none: it gave up -/
def Rd.run {α : Type} : Rd α → Str → Nat → Int → Option α × Nat × Int
 | .ret x, _, a, er => (some x, a, er)
 | .num k f, l, a, er => (f (uV l a er k)).run l (uA l.length a er k) (uE l.length a er k)
 | .txt m f, l, a, er => (f (tL l a er m)).run l (tA l a er m) (tE l a er m)
 | .must p, l, a, er => if er = 0 then p.run l a er else (none, a, er)
def Rd.bind {α β : Type} : Rd α → (α → Rd β) → Rd β
 | .ret x, g => g x
 | .num k f, g => .num k fun v => (f v).bind g
 | .txt m f, g => .txt m fun s => (f s).bind g
 | .must p, g => .must (p.bind g)
theorem Rd.run_bind {α β : Type} (p : Rd α) (g : α → Rd β) (l : Str) : ∀ a er, (p.bind g).run l a er = match p.run l a er with
  |(some x, a', er') => (g x).run l a' er'
  |(none, a', er') => (none, a', er') := by
 induction p with
 |ret x => intro a er; rfl
 |num k f ih => intro a er; simp only [Rd.bind, Rd.run]; exact ih _ _ _
 |txt m f ih => intro a er; simp only [Rd.bind, Rd.run]; exact ih _ _ _
 |must p ih =>
  intro a er
  simp only [Rd.bind, Rd.run]
  by_cases h : er = 0
  ·rw [if_pos h, if_pos h]; exact ih _ _
  ·rw [if_neg h, if_neg h]
theorem Rd.stuck {α : Type} (p : Rd α) (l : Str) : ∀ a er, er ≠ 0 → (p.run l a er).2.2 = er := by
 induction p with
 |ret x => intro a er _; rfl
 |num k f ih =>
  intro a er h
  simp only [Rd.run]
  have e : uE l.length a er k = er := Oct.uE_er h
  rw [ih _ _ _ (by rw [e]; exact h), e]
 |txt m f ih =>
  intro a er h
  simp only [Rd.run]
  have e : tE l a er m = er := Oct.tE_er h
  rw [ih _ _ _ (by rw [e]; exact h), e]
 |must p ih =>
  intro a er h
  simp only [Rd.run]
  rw [if_neg h]
/-- numbers of one to eight bytes -/
def Rd.ok {α : Type} : Rd α → Prop
 | .ret _ => True
 | .num k f => (1 ≤ k ∧ k ≤ 8) ∧ ∀ v, (f v).ok
 | .txt _ f => ∀ s, (f s).ok
 | .must p => p.ok
theorem okk_n {k : Nat} (h : 1 ≤ k ∧ k ≤ 8) : okk (k : Int) = true := by simp [okk]; omega
theorem uE_0 {n a k : Nat} (h : 1 ≤ k ∧ k ≤ 8) : uE n a 0 k = if (n : Int) - a < k then 2 else 0 := by
 unfold uE
 rw [if_neg (by simp), okk_n h, if_neg (by simp)]
theorem take_mid {l : Str} {a k c : Nat} (h : a + k ≤ c) : ((l.take c).drop a).take k = (l.drop a).take k := by
 rw [List.drop_take, List.take_take, Nat.min_eq_left (by omega)]
theorem getB_n {l : Str} {a k : Nat} (h : 1 ≤ k ∧ k ≤ 8) : getB l a k = decide (a + k ≤ l.length) := by
 unfold getB
 rw [okk_n h, Bool.true_and, decide_eq_decide]
 omega
theorem getV_cut {l : Str} {a k c : Nat} (hk : 1 ≤ k ∧ k ≤ 8) (h : a + k ≤ c) (hc : c ≤ l.length) : getV (l.take c) a k = getV l a k := by
 have hl : (l.take c).length = c := by rw [List.length_take]; omega
 unfold getV
 rw [getB_n hk, getB_n hk, hl, decide_eq_true h, decide_eq_true (show a + k ≤ l.length by omega), if_pos rfl, if_pos rfl]
 simp only [Int.toNat_natCast]
 rw [take_mid h]
theorem u_cut {l : Str} {a k c : Nat} (hk : 1 ≤ k ∧ k ≤ 8) (hc : c < l.length) (hE : uE l.length a 0 k = 0) :
  (a + k ≤ c ∧ uE (l.take c).length a 0 k = 0 ∧ uV (l.take c) a 0 k = uV l a 0 k ∧ uA (l.take c).length a 0 k = a + k ∧ uA l.length a 0 k = a + k) ∨ uE (l.take c).length a 0 k = 2 := by
 have hl : (l.take c).length = c := by rw [List.length_take]; omega
 by_cases h : a + k ≤ c
 ·left
  have e : uE (l.take c).length a 0 k = 0 := by rw [hl, uE_0 hk, if_neg (by omega)]
  refine ⟨h, e, ?_, ?_, ?_⟩
  ·unfold uV
   rw [e, hE, if_pos rfl, if_pos rfl, getV_cut hk h (by omega)]
  ·unfold uA
   rw [e, if_pos rfl]; simp
  ·unfold uA
   rw [hE, if_pos rfl]; simp
 ·right
  rw [hl, uE_0 hk, if_pos (by omega)]
theorem t_cut {l : Str} {a m c : Nat} (hc : c < l.length) (hE : tE l a 0 m = 0) :
  (∃ n, a + 4 + n ≤ c ∧ tE (l.take c) a 0 m = 0 ∧ tL (l.take c) a 0 m = tL l a 0 m ∧ tA (l.take c) a 0 m = a + 4 + n ∧ tA l a 0 m = a + 4 + n) ∨ tE (l.take c) a 0 m = 2 := by
 have hl : (l.take c).length = c := by rw [List.length_take]; omega
 have hu : uE l.length a 0 4 = 0 := by
  apply Classical.byContradiction
  intro h
  unfold tE at hE
  rw [if_pos h] at hE
  exact h hE
 have hm : ¬ ((m : Int) < 0 ∨ (m : Int) < (getV l a 4 : Int)) := by
  intro h
  unfold tE at hE
  rw [if_neg (by rw [hu]; decide), if_pos h] at hE
  cases hE
 have hn : ¬ ((l.length : Int) - a - 4 < (getV l a 4 : Int)) := by
  intro h
  unfold tE at hE
  rw [if_neg (by rw [hu]; decide), if_neg hm, if_pos h] at hE
  cases hE
 have key := u_cut (k := 4) (by omega) hc hu
 rw [show ((4 : Nat) : Int) = 4 from rfl] at key
 rcases key with ⟨h1, h2, h3, -, -⟩ | h2
 ·have hg : getV (l.take c) a 4 = getV l a 4 := getV_cut (k := 4) (by omega) h1 (by omega)
  by_cases h : a + 4 + getV l a 4 ≤ c
  ·left
   have e : tE (l.take c) a 0 m = 0 := by
    unfold tE
    rw [h2, if_neg (by decide), hg, if_neg hm, hl, if_neg (by omega)]
   refine ⟨getV l a 4, h, e, ?_, ?_, ?_⟩
   ·unfold tL
    rw [e, hE, if_pos rfl, if_pos rfl, hg, take_mid h]
   ·unfold tA
    rw [e, if_pos rfl, hg]
   ·unfold tA
    rw [hE, if_pos rfl]
  ·right
   unfold tE
   rw [h2, if_neg (by decide), hg, if_neg hm, hl, if_pos (by omega)]
 ·right
  unfold tE
  rw [h2, if_pos (by decide)]
/-- bytes that were read to their end: of fewer, some lack -/
theorem Rd.cut {α : Type} (p : Rd α) (l : Str) (c : Nat) (hc : c < l.length) : ∀ a x, p.ok → a ≤ c → p.run l a 0 = (some x, l.length, 0) → (p.run (l.take c) a 0).2.2 = 2 := by
 induction p with
 |ret y =>
  intro a x _ ha h
  simp only [Rd.run, Prod.mk.injEq] at h
  omega
 |num k f ih =>
  intro a x ho ha h
  simp only [Rd.run] at h ⊢
  have hE : uE l.length a 0 k = 0 := by
   apply Classical.byContradiction
   intro hne
   have := Rd.stuck (f (uV l a 0 k)) l (uA l.length a 0 k) _ hne
   rw [h] at this
   exact hne this.symm
  rcases u_cut ho.1 hc hE with ⟨h1, h2, h3, h4, h5⟩ | h2
  ·rw [h2, h3, h4]
   refine ih _ _ x (ho.2 _) h1 ?_
   rw [hE, h5] at h
   exact h
  ·rw [h2]
   exact Rd.stuck _ _ _ _ (by decide)
 |txt m f ih =>
  intro a x ho ha h
  simp only [Rd.run] at h ⊢
  have hE : tE l a 0 m = 0 := by
   apply Classical.byContradiction
   intro hne
   have := Rd.stuck (f (tL l a 0 m)) l (tA l a 0 m) _ hne
   rw [h] at this
   exact hne this.symm
  rcases t_cut hc hE with ⟨n, h1, h2, h3, h4, h5⟩ | h2
  ·rw [h2, h3, h4]
   refine ih _ _ x (ho _) h1 ?_
   rw [hE, h5] at h
   exact h
  ·rw [h2]
   exact Rd.stuck _ _ _ _ (by decide)
 |must p ih =>
  intro a x ho ha h
  simp only [Rd.run] at h ⊢
  simp only [if_true] at h ⊢
  exact ih a x ho ha h
end Go.Proofs.YtklbemkafdccgaaGreat.Usr

/- Lists of payloads: how they lie in memory; Bulk, and the law's rows. -/
namespace Go.Proofs.YtklbemkafdccgaaGreat
open Go.RowKit
namespace Frm
open Oct

theorem row_cells {w : World} {v : Value} {l : List Value} (h : Row w v l) (hl : 0 < l.length) : ∃ b off cap, v = .slice (some ⟨b, off, none⟩) l.length cap ∧ Hid (∀ i x, l[i]? = some x → w.cell? ⟨b, off + i, none⟩ = some x) := by
 rcases h with ⟨a0, cap', rfl, hl0, -, -⟩ | ⟨b, off, cap', rfl, h1, h2, hcell⟩
 ·rw [hl0] at hl
  simp at hl
 ·exact ⟨b, off, cap', rfl, Lib.hid hcell⟩

/-- a payload in memory: its slice, its bytes -/
def payC (x : Value × List UInt8) : List Value := [x.1]
theorem payC_len (x : Value × List UInt8) : (payC x).length = 1 := rfl
def payOk (w : World) (x : Value × List UInt8) : Prop := Row w x.1 (x.2.map u8v)
theorem pay_map (l : List (Value × List UInt8)) : l.flatMap payC = l.map (·.1) := by
 induction l with
 |nil => rfl
 |cons x l ih => simp only [List.flatMap_cons, List.map_cons, ih]; rfl
theorem c5 : Tryz.prog.cellsOf 5 = 1 := by kernel_rfl
theorem c22 : Tryz.prog.cellsOf 51 = 1 := by kernel_rfl
theorem opens_pay {H : Type} {enc : TypeId × Value → H} {w : World} {base : Nat} {sp : Nat → Bool} {held : Bool} : Opens enc Tryz.prog w base sp held 51 payC (payOk w) := by
 have h := opens_slice (enc := enc) (w := w) (base := base) (sp := sp) (held := held) Tryz.underlying51 c5 (by decide) (fun _ => rfl) (opens_int (enc := enc) (P := Tryz.prog) (w := w) (base := base) (sp := sp) (held := held) Tryz.underlying5)
 refine opens_map h (fun x => (x.1, x.2.map fun n => UInt8.ofNat n.toNat)) (fun x _ => rfl) ?_
 rintro ⟨v, zs⟩ ⟨hr, hw⟩
 have e1 : zs.flatMap (fun a : Int => [Value.int .u8 a]) = zs.map (.int .u8) := by
  clear hr hw
  induction zs with
  |nil => rfl
  |cons z zs ih => simp only [List.flatMap_cons, List.map_cons, ih]; rfl
 have : (zs.map fun n => UInt8.ofNat n.toNat).map u8v = zs.map (.int .u8) := by
  rw [List.map_map]
  refine List.map_congr_left fun n hn => ?_
  have hb : 0 ≤ n ∧ n ≤ 255 := by simpa [Lit.wf, IntKind.min, IntKind.max, IntKind.signed, IntKind.bits] using hw n hn
  simp [u8v]
  omega
 unfold payOk
 simp only
 rw [this, ← e1]
 exact hr.row

def BulkDid (l : List (Value × List UInt8)) (w : World) (e : Ending) (w' : World) : Prop :=
 ∃ n : Nat, e = .returned (.int .i64 (n : Int)) ∧ (n ≤ 1000 → ∀ x ∈ l, x.2.length ≤ 1000) ∧ w = w'

/-- kinds and payloads -/
def zipF (ks : List UInt8) (l : List (Value × List UInt8)) : List (Nat × List UInt8) := List.zipWith (fun k x => (k.toNat, x.2)) ks l
def endsL (F : List (Nat × List UInt8)) (n : Nat) : List Value := (List.range n).map fun i => .int .i64 (endAt F i : Nat)
def RowsDid (F : List (Nat × List UInt8)) (n : Nat) (W : World) (e : Ending) (w' : World) : Prop :=
 ∃ va ve, e = .returned (.tuple #[va, ve]) ∧ Own w' W.heap.size 5 va ((cat F).map u8v) ∧ Own w' W.heap.size 3 ve (endsL F n) ∧ Keeps W w'
end Frm
end Go.Proofs.YtklbemkafdccgaaGreat

/- The document's bytes of a transaction. -/
namespace Go.Proofs.YtklbemkafdccgaaGreat
open Go.RowKit
namespace Txl
open Oct Frm
theorem wrapU {n : Nat} (h : n < 18446744073709551616) : IntKind.u64.wrap (n : Int) = (n : Int) := by rw [IntKind.wrap_u64]; omega
end Txl
end Go.Proofs.YtklbemkafdccgaaGreat

/- txlog.begin, commit. -/
namespace Go.Proofs.YtklbemkafdccgaaGreat
open Go.RowKit
namespace Txl
open Oct Frm
def numP (l : List UInt8) : Nat := if 8 ≤ l.length then Oct.valOf (l.take 8) else 0
def cntP (l : List UInt8) : Nat := if 10 ≤ l.length then Oct.valOf ((l.drop 8).take 2) else 0
def beginB (n : Nat) (f : Fr1) : Bool := decide (f.kind = 32) && decide (f.pay.length = 10) && decide (numP f.pay = n) && decide (cntP f.pay ≤ 1000)
def commitB (n : Nat) (f : Fr1) : Bool := decide (numP f.pay = n) && decide (f.pay.length = 8) && decide (f.kind = 34)
theorem u8 (l : List UInt8) : uE l.length 0 0 8 = (if 8 ≤ l.length then 0 else 2) ∧ uA l.length 0 0 8 = (if 8 ≤ l.length then 8 else 0) ∧ uV l 0 0 8 = numP l := by
 have hE : uE l.length 0 0 8 = if 8 ≤ l.length then 0 else 2 := by
  unfold uE
  rw [if_neg (by simp), if_neg (by simp [okk])]
  by_cases h : 8 ≤ l.length
  ·rw [if_neg (by omega), if_pos h]
  ·rw [if_pos (by omega), if_neg h]
 refine ⟨hE, ?_, ?_⟩
 ·unfold uA
  rw [hE]
  split <;> simp
 ·unfold uV numP
  rw [hE]
  by_cases h : 8 ≤ l.length
  ·rw [if_pos h, if_pos h, if_pos rfl]
   unfold getV
   rw [if_pos (by simp [getB, okk]; omega)]
   rfl
  ·rw [if_neg h, if_neg h, if_neg (by decide)]
theorem d10 (l : List UInt8) : (doneE (if 10 ≤ l.length then 0 else 2) (if 10 ≤ l.length then 10 else if 8 ≤ l.length then 8 else 0) l.length = 0) ↔ l.length = 10 := by
 unfold doneE
 by_cases h : 10 ≤ l.length
 ·rw [if_pos h, if_pos h]
  by_cases h2 : 10 < l.length
  ·rw [if_pos ⟨rfl, h2⟩]
   constructor
   ·intro e; cases e
   ·intro e; omega
  ·rw [if_neg (fun e => h2 e.2)]
   exact ⟨fun _ => by omega, fun _ => rfl⟩
 ·rw [if_neg h, if_neg h, if_neg (fun e => absurd e.1 (by decide))]
  constructor
  ·intro e; cases e
  ·intro e; omega
def BeginDid (W : World) (n : Nat) (f : Fr1) (e : Ending) (w' : World) : Prop := e = .returned (.tuple #[.int .i64 (cntP f.pay : Int), .bool (beginB n f)]) ∧ Keeps W w'
def CommitDid (W : World) (n : Nat) (f : Fr1) (e : Ending) (w' : World) : Prop := e = .returned (.bool (commitB n f)) ∧ Keeps W w'
end Txl
end Go.Proofs.YtklbemkafdccgaaGreat

/- txlog.one. -/
namespace Go.Proofs.YtklbemkafdccgaaGreat
open Go.RowKit
namespace Txl
open Oct Frm
/-- a row of frames that is read alone -/
structure FrmsR (w : World) (base : Nat) (v : Value) (l : List (Fr1 × Value)) : Prop where
 row : RowS w 4 v l.length (l.flatMap frC)
 pay : ∀ x ∈ l, Piece w base 5 x.2 (x.1.pay.map u8v)
 len : ∀ x ∈ l, x.1.pay.length ≤ 35184372088832
 ty : ∀ b off n cap, v = .slice (some ⟨b, off, none⟩) n cap → 0 < n → ∃ cs fr, w.heap[b]? = some (.cells cs 238 fr)
section
variable {w w' : World} {base : Nat} {v : Value} {l : List (Fr1 × Value)}
theorem FrmsR.keeps (h : FrmsR w base v l) (k : Keeps w w') : FrmsR w' base v l := ⟨h.row.keeps k, fun x hx => (h.pay x hx).keeps k, h.len, fun b off n cap hv hn => by
 obtain ⟨cs, fr, hh⟩ := h.ty b off n cap hv hn
 exact ⟨cs, fr, by rw [k.block (Array.getElem?_eq_some_iff.1 hh).1]; exact hh⟩⟩
theorem FrmsR.form (h : FrmsR w base v l) : ∃ p cap, v = .slice p l.length cap ∧ l.length ≤ cap ∧ cap ≤ 9223372036854775807 := h.row.form
theorem FrmsR.at_ (h : FrmsR w base v l) {j : Nat} (hj : j < l.length) : ∃ b off cap, v = .slice (some ⟨b, off, none⟩) l.length cap ∧ w.rangeAt b (off + j * 4) (frC l[j]) := by
 obtain ⟨b, off, cap, hv, -, -, hc⟩ := RowS.at_ h.row (by omega)
 refine ⟨b, off, cap, hv, fun i x hx => ?_⟩
 have hi : i < 4 := by
  have := (List.getElem?_eq_some_iff.1 hx).1
  simpa [frC] using this
 rw [Nat.add_assoc]
 refine hc.out (j * 4 + i) x ?_
 rw [flat_get frC_len l j i _ (List.getElem?_eq_getElem hj) hi]
 exact hx
theorem FrmsR.cut {p : Option Addr} {cap : Nat} (h : FrmsR w base (.slice p l.length cap) l) {lo hi : Nat} (h1 : lo ≤ hi) (h2 : hi ≤ l.length) : FrmsR w base (cutS 4 p lo hi cap) ((l.drop lo).take (hi - lo)) := by
 have hp := RowS.part frC_len h.row h1 h2
 refine ⟨?_, fun x hx => h.pay x (List.mem_of_mem_drop (List.mem_of_mem_take hx)), fun x hx => h.len x (List.mem_of_mem_drop (List.mem_of_mem_take hx)), fun b off n c hv hn => ?_⟩
 ·have e : ((l.drop lo).take (hi - lo)).length = hi - lo := by rw [List.length_take, List.length_drop]; omega
  rw [e]
  exact hp
 ·unfold cutS at hv
  simp only [Value.slice.injEq] at hv
  obtain ⟨h3, h4, -⟩ := hv
  have hl : 0 < l.length := by omega
  cases p with
  |none => split at h3 <;> simp at h3
  |some a =>
   obtain ⟨b0, o0, s0⟩ := a
   obtain ⟨b1, o1, c1, hv1, -⟩ := RowS.at_ h.row hl
   simp only [Value.slice.injEq, Option.some.injEq, Addr.mk.injEq] at hv1
   obtain ⟨⟨rfl, rfl, rfl⟩, -, -⟩ := hv1
   have hb : b0 = b := by
    split at h3
    ·simp only [Option.some.injEq, Addr.mk.injEq] at h3; exact h3.1
    ·simp only [Option.map_some, Option.some.injEq, Go.WideShapes.add_plain, Addr.mk.injEq] at h3; exact h3.1
   subst hb
   exact h.ty b0 o0 l.length cap rfl hl
theorem FrmsR.modsT {S : Nat → Prop} (h : FrmsR w base v l) (k : Mods S w w') (h1 : ∀ x, S x → ∀ cs fr, w.heap[x]? ≠ some (.cells cs 238 fr)) (h2 : ∀ x, S x → ∀ cs fr, w.heap[x]? ≠ some (.cells cs 5 fr)) : FrmsR w' base v l := by
 have hn : ∀ b off n cap, v = .slice (some ⟨b, off, none⟩) n cap → 0 < n → ¬ S b := fun b off n cap hv hp hs => by
  obtain ⟨cs, fr, hh⟩ := h.ty b off n cap hv hp
  exact h1 b hs cs fr hh
 refine ⟨⟨h.row.1, ?_⟩, fun x hx => (h.pay x hx).modsT k h2, h.len, fun b off n cap hv hp => ?_⟩
 ·rcases h.row.2 with h3 | ⟨b, off, cap, hv, g1, g2, g3⟩
  ·exact .inl h3
  ·by_cases hz : l.length = 0
   ·have : l = [] := List.eq_nil_of_length_eq_zero hz
    subst this
    exact .inr ⟨b, off, cap, hv, g1, g2, fun i x hx => by simp at hx⟩
   ·exact .inr ⟨b, off, cap, hv, g1, g2, fun i x hx => k.cell (g3 i x hx) (hn b off _ cap hv (by omega))⟩
 ·obtain ⟨cs, fr, hh⟩ := h.ty b off n cap hv hp
  exact ⟨cs, fr, k.heap hh (hn b off n cap hv hp)⟩
end
def itemB (f : Fr1) : Bool := decide (f.kind = 33) && decide (f.pay.length ≤ 4096)
/-- how many items the transaction n has that the frames begin with; none: they begin with none -/
def oneK (n : Nat) (fs : List Fr1) : Option Nat := match fs with
 | [] => none
 |f :: r => if beginB n f = true ∧ cntP f.pay < r.length ∧ commitB n (r.getD (cntP f.pay) ⟨0, 0, 0, []⟩) = true ∧ (r.take (cntP f.pay)).all itemB = true then some (cntP f.pay) else none
def txZero : Array Value := #[.int .i64 0, .slice none 0 0]
def OneDid (W : World) (n : Nat) (fs : List (Fr1 × Value)) (r : Option Nat) (e : Ending) (w' : World) : Prop := Keeps W w' ∧ match r with
 |none => e = .returned (.tuple #[.agg #[.int .i64 0, .slice none 0 0], .int .i64 0, .bool false])
 |some c => ∃ iv, e = .returned (.tuple #[.agg #[.int .i64 (n : Int), iv], .int .i64 ((c : Int) + 2), .bool true]) ∧ Own w' W.heap.size 51 iv (((fs.drop 1).take c).map (·.2))
end Txl
end Go.Proofs.YtklbemkafdccgaaGreat

/- The transactions of frames, plain. -/
namespace Go.Proofs.YtklbemkafdccgaaGreat
open Go.RowKit
namespace Txl
open Oct Frm
def lenS (fs : List Fr1) : Int := (fs.map (·.len)).sum
/-- the transactions from number n on, and how many bytes they have -/
def replayN : Nat → Nat → List Fr1 → List (Nat × List Item) × Int
 | 0, _, _ => ([], 0)
 |k + 1, n, fs => match oneK n fs with
  |none => ([], 0)
  |some c => ((n, ((fs.drop 1).take c).map (·.pay)) :: (replayN k (n + 1) (fs.drop (c + 2))).1, lenS (fs.take (c + 2)) + (replayN k (n + 1) (fs.drop (c + 2))).2)
def replayF (fs : List Fr1) : List (Nat × List Item) × Int := replayN fs.length 1 fs
end Txl
end Go.Proofs.YtklbemkafdccgaaGreat

/- txlog.Replay. -/
namespace Go.Proofs.YtklbemkafdccgaaGreat
open Go.RowKit
namespace Txl
open Oct Frm
theorem rowS_of {w : World} {base C n : Nat} {e : TypeId} {v : Value} {xs : List Value} (h : w.ownsRow base e C v n xs) : RowS w C v n xs := by
 refine ⟨h.1, ?_⟩
 rcases h.2 with ⟨rfl, rfl⟩ | ⟨q, cap, cur, rfl, _, hgg, h1, h2, h3, h4⟩
 ·exact .inl ⟨none, 0, rfl, rfl, Nat.zero_le _, fun _ => rfl⟩
 ·refine .inr ⟨q, 0, cap, rfl, h1, h2, fun i x hx => ?_⟩
  have hc := World.ownsRow.cells (h := h) (g := q) rfl i x hx
  rw [Go.WideShapes.add_plain] at hc
  exact hc
theorem FrmsR.of {w : World} {base : Nat} {v : Value} {l : List (Fr1 × Value)} (h : FramesAt w base v l) (hl : ∀ x ∈ l, x.1.pay.length ≤ 35184372088832) : FrmsR w base v l := ⟨rowS_of h.own, h.pay, hl, fun b off n cap hv hn => by
 rcases h.own.2 with ⟨e, _⟩ | ⟨q, cap', cur, e, _, hgg, _⟩
 ·rw [e] at hv; simp at hv
 ·rw [e] at hv
  simp only [Value.slice.injEq, Option.some.injEq, Addr.mk.injEq] at hv
  obtain ⟨⟨rfl, -, -⟩, -, -⟩ := hv
  exact ⟨_, _, hgg⟩⟩
/-- a transaction in memory: its number, its items' slice, the items' slices and bytes -/
abbrev TxX := Nat × Value × List (Value × Item)
def txC (x : TxX) : List Value := [.int .i64 (x.1 : Int), x.2.1]
def txP (x : TxX) : Nat × List Item := (x.1, x.2.2.map (·.2))
section
variable {w w' : World} {base : Nat} {v : Value} {X : List TxX}
end
end Txl
end Go.Proofs.YtklbemkafdccgaaGreat

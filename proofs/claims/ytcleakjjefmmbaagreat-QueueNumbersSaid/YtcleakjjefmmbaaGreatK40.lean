/- Several texts in one: EnSrc, EnRdPlain, EnBytes, EnRead, EnStep, EnRdMem, TxBegin. -/
import Derived.Test.YtcleakjjefmmbaaGreatK38
import Derived.Test.YtcleakjjefmmbaaGreatK11
import Derived.Test.YtcleakjjefmmbaaGreatK12
import Derived.Test.YtcleakjjefmmbaaGreatK16
import Derived.Test.YtcleakjjefmmbaaGreatK00
import Derived.Test.YtcleakjjefmmbaaGreatK15
import Derived.Test.YtcleakjjefmmbaaGreatK28
import Derived.Test.YtcleakjjefmmbaaGreatLawKit
import Derived.Test.YtcleakjjefmmbaaGreatDrawn
import Derived.Test.YtcleakjjefmmbaaGreatK33
import Derived.Test.YtcleakjjefmmbaaGreatK02
/- envel: a source that is read by steps that may lack something. -/
namespace Go.Proofs.YtcleakjjefmmbaaGreat
open Go.RowKit
namespace Env
open Adr (Str)
open Oct (uE uA uV tE tA tL getV getB okk doneE SrcAt SrcDid NewSourceDid newSource_any srcU_any srcText_any err_any QuietI)
/-- the source at block g: at a place, or something lacked -/
def SrcO (W w : World) (g : Nat) (l : Str) (σ : Option Nat) : Prop := ∃ v a er, SrcAt w g v l a er ∧ (σ = none ↔ er ≠ 0) ∧ (∀ b, σ = some b → a = b) ∧ W.heap.size ≤ g ∧ Keeps W w
theorem SrcO.keepsW {W w : World} {g : Nat} {l : Str} {σ : Option Nat} (h : SrcO W w g l σ) : Keeps W w := let ⟨_, _, _, _, _, _, _, h⟩ := h; h
theorem SrcO.ge {W w : World} {g : Nat} {l : Str} {σ : Option Nat} (h : SrcO W w g l σ) : W.heap.size ≤ g := let ⟨_, _, _, _, _, _, h, _⟩ := h; h
theorem SrcO.lt {W w : World} {g : Nat} {l : Str} {σ : Option Nat} (h : SrcO W w g l σ) : g < w.heap.size := let ⟨_, _, _, h, _⟩ := h; h.blk.lt
theorem SrcO.kept {W w w' : World} {g : Nat} {l : Str} {σ : Option Nat} (h : SrcO W w g l σ) (k : Keeps w w') : SrcO W w' g l σ := by
 obtain ⟨v, a, er, h1, h2, h3, h4, h5⟩ := h
 exact ⟨v, a, er, h1.keeps k, h2, h3, h4, h5.trans k⟩
theorem SrcO.modsB {W w w' : World} {g : Nat} {l : Str} {σ : Option Nat} {S : Nat → Prop} (h : SrcO W w g l σ) (k : Mods S w w') (hS : ∀ x, S x → W.heap.size ≤ x ∧ x ≠ g ∧ ∀ cs fr, w.heap[x]? ≠ some (.cells cs 5 fr)) : SrcO W w' g l σ := by
 obtain ⟨v, a, er, h1, h2, h3, h4, h5⟩ := h
 refine ⟨v, a, er, h1.mods k (fun x hx hs => ?_), h2, h3, h4, k.keeps h5 (fun x hx => (hS x hx).1)⟩
 rcases hx with rfl | hx
 ·exact (hS _ hs).2.1 rfl
 ·exact absurd hs (fun hs => by
   have h6 := h1.own
   rcases h6.2 with ⟨rfl, _⟩ | ⟨g', cap, cur, rfl, hb, hgg, rest⟩
   ·simp [Value.ownBlock] at hx
   ·simp [Value.ownBlock] at hx
    subst hx
    exact (hS _ hs).2.2 _ _ hgg)
/-- the source without where its blocks lie -/
def SrcC (w : World) (g : Nat) (l : Str) (σ : Option Nat) : Prop := ∃ v a er, SrcAt w g v l a er ∧ (σ = none ↔ er ≠ 0) ∧ (∀ b, σ = some b → a = b)
theorem SrcO.core {W w : World} {g : Nat} {l : Str} {σ : Option Nat} (h : SrcO W w g l σ) : SrcC w g l σ := let ⟨v, a, er, h1, h2, h3, _⟩ := h; ⟨v, a, er, h1, h2, h3⟩
theorem SrcC.kept {w w' : World} {g : Nat} {l : Str} {σ : Option Nat} (h : SrcC w g l σ) (k : Keeps w w') : SrcC w' g l σ := let ⟨v, a, er, h1, h2⟩ := h; ⟨v, a, er, h1.keeps k, h2⟩
theorem SrcC.mods {w w' : World} {g : Nat} {l : Str} {σ : Option Nat} {S : Nat → Prop} (h : SrcC w g l σ) (k : Mods S w w') (hS : ∀ x, S x → x ≠ g ∧ ∀ cs fr, w.heap[x]? ≠ some (.cells cs 5 fr)) : SrcC w' g l σ := by
 obtain ⟨v, a, er, h1, h2⟩ := h
 refine ⟨v, a, er, h1.mods k (fun x hx hs => ?_), h2⟩
 rcases hx with rfl | hx
 ·exact (hS _ hs).1 rfl
 ·have h6 := h1.own
  rcases h6.2 with ⟨rfl, _⟩ | ⟨g', cap, cur, rfl, hb, hgg, rest⟩
  ·simp [Value.ownBlock] at hx
  ·simp [Value.ownBlock] at hx
   subst hx
   exact (hS _ hs).2 _ _ hgg
theorem u_plain {l : Str} {a k : Nat} (hk : 1 ≤ k ∧ k ≤ 8) (ha : a ≤ l.length) : uV l a 0 k = (uR l k (some a)).1 ∧ ((uR l k (some a)).2 = none ↔ uE l.length a 0 k ≠ 0) ∧ (∀ b, (uR l k (some a)).2 = some b → uA l.length a 0 k = b) := by
 have hok : okk (k : Int) = true := by simp [okk]; omega
 by_cases h : a + k ≤ l.length
 ·have h1 : uE l.length a 0 k = 0 := by
   unfold uE
   rw [if_neg (by simp), if_neg (by simp [hok]), if_neg (by omega)]
  have h2 : getB l a k = true := by simp [getB, hok]; omega
  have h3 : uR l k (some a) = (Oct.valOf ((l.drop a).take k), some (a + k)) := by simp [uR, h]
  refine ⟨?_, ?_, ?_⟩
  ·rw [h3]
   unfold uV
   rw [if_pos h1]
   unfold getV
   rw [if_pos h2]
   simp
  ·rw [h3]; simp [h1]
  ·intro b hb
   rw [h3] at hb
   simp only [Option.some.injEq] at hb
   unfold uA
   rw [if_pos h1]
   simp; omega
 ·have h1 : uE l.length a 0 k ≠ 0 := by
   unfold uE
   rw [if_neg (by simp), if_neg (by simp [hok]), if_pos (by omega)]
   simp
  have h3 : uR l k (some a) = (0, none) := by simp [uR, h]
  refine ⟨?_, ?_, ?_⟩
  ·rw [h3]
   unfold uV
   rw [if_neg h1]
  ·rw [h3]; simp [h1]
  ·rw [h3]; simp
theorem u_bad {l : Str} {a : Nat} {er k : Int} (h : er ≠ 0) : uV l a er k = 0 ∧ uE l.length a er k ≠ 0 := by
 have h1 : uE l.length a er k = er := by unfold uE; rw [if_pos h]
 refine ⟨?_, by rw [h1]; exact h⟩
 unfold uV
 rw [h1, if_neg h]
theorem srcOU {W w : World} {g : Nat} {l : Str} {σ : Option Nat} (h : SrcO W w g l σ) (k : Nat) (ki : Int) (hki : ki = (k : Int)) (hk : 1 ≤ k ∧ k ≤ 8) :
  Calls Tryz.prog 204 #[.pointer (some ⟨g, 0, none⟩), .int .i64 ki] w fun e w' => e = .returned (.int .u64 ((uR l k σ).1 : Nat)) ∧ SrcO W w' g l (uR l k σ).2 ∧ Mods (· = g) w w' := by
 subst hki
 obtain ⟨v, a, er, h1, h2, h3, h4, h5⟩ := h
 refine (srcU_any g v l a er k w h1).mono ?_
 rintro e w' ⟨rfl, hs, hm⟩
 have hkk : Keeps W w' := hm.keeps h5 (fun x hx => by rw [hx]; exact h4)
 cases σ with
 |none =>
  have he := h2.1 rfl
  have hb := u_bad (l := l) (a := a) (k := (k : Int)) he
  exact ⟨by rw [hb.1]; rfl, ⟨v, _, _, hs, ⟨fun _ => hb.2, fun _ => rfl⟩, by simp [uR], h4, hkk⟩, hm⟩
 |some b =>
  have he : er = 0 := by
   by_cases e : er = 0
   ·exact e
   ·exact absurd (h2.2 e) (by simp)
  have hab := h3 b rfl
  subst he hab
  obtain ⟨p1, p2, p3⟩ := u_plain hk h1.le
  exact ⟨by rw [p1], ⟨v, _, _, hs, p2, p3, h4, hkk⟩, hm⟩
theorem t_plain {l : Str} {a most : Nat} (ha : a ≤ l.length) : tL l a 0 most = (tR l most (some a)).1 ∧ ((tR l most (some a)).2 = none ↔ tE l a 0 most ≠ 0) ∧ (∀ b, (tR l most (some a)).2 = some b → tA l a 0 most = b) := by
 obtain ⟨p1, p2, p3⟩ := u_plain (l := l) (a := a) (k := 4) (by decide) ha
 by_cases h : a + 4 ≤ l.length
 ·have h3 : uR l 4 (some a) = (Oct.valOf ((l.drop a).take 4), some (a + 4)) := by simp [uR, h]
  rw [h3] at p1 p2 p3
  have hz : uE l.length a 0 (4 : Nat) = 0 := by
   by_cases e : uE l.length a 0 (4 : Nat) = 0
   ·exact e
   ·exact absurd (p2.2 e) (by simp)
  have hgv : getV l a 4 = Oct.valOf ((l.drop a).take 4) := by
   unfold uV at p1
   rw [if_pos hz] at p1
   exact p1
  generalize Oct.valOf ((l.drop a).take 4) = n at *
  have h4 : tR l most (some a) = if n ≤ most ∧ a + 4 + n ≤ l.length then ((l.drop (a + 4)).take n, some (a + 4 + n)) else ([], none) := by
   unfold tR
   rw [h3]
  have hz' : uE l.length a 0 4 = 0 := hz
  by_cases hc : n ≤ most ∧ a + 4 + n ≤ l.length
  ·have h5 : tE l a 0 most = 0 := by
    unfold tE
    rw [if_neg (by simp [hz']), hgv, if_neg (by omega), if_neg (by omega)]
   rw [h4, if_pos hc]
   refine ⟨?_, by simp [h5], ?_⟩
   ·unfold tL; rw [if_pos h5, hgv]
   ·intro b hb
    simp only [Option.some.injEq] at hb
    unfold tA
    rw [if_pos h5, hgv]
    omega
  ·have h5 : tE l a 0 most ≠ 0 := by
    unfold tE
    rw [if_neg (by simp [hz']), hgv]
    by_cases h6 : n ≤ most
    ·rw [if_neg (by omega), if_pos (by omega)]; simp
    ·rw [if_pos (by omega)]; simp
   rw [h4, if_neg hc]
   refine ⟨?_, by simp [h5], by simp⟩
   unfold tL; rw [if_neg h5]
 ·have h3 : uR l 4 (some a) = (0, none) := by simp [uR, h]
  rw [h3] at p1 p2 p3
  have hz : uE l.length a 0 4 ≠ 0 := p2.1 rfl
  have h4 : tR l most (some a) = ([], none) := by unfold tR; rw [h3]
  have h5 : tE l a 0 most ≠ 0 := by unfold tE; rw [if_pos hz]; exact hz
  rw [h4]
  refine ⟨?_, by simp [h5], by simp⟩
  unfold tL; rw [if_neg h5]
theorem srcOT {W w : World} {g : Nat} {l : Str} {σ : Option Nat} (h : SrcO W w g l σ) (m : Nat) (mi : Int) (hmi : mi = (m : Int)) (hm : m ≤ 1000000) :
  Calls Tryz.prog 203 #[.pointer (some ⟨g, 0, none⟩), .int .i64 mi] w fun e w' => e = .returned (.string (bstr (tR l m σ).1)) ∧ SrcO W w' g l (tR l m σ).2 ∧ Mods (· = g) w w' := by
 subst hmi
 obtain ⟨v, a, er, h1, h2, h3, h4, h5⟩ := h
 refine (srcText_any g v l a er m w h1 (by omega) (by omega)).mono ?_
 rintro e w' ⟨rfl, hs, hm⟩
 have hkk : Keeps W w' := hm.keeps h5 (fun x hx => by rw [hx]; exact h4)
 cases σ with
 |none =>
  have he := h2.1 rfl
  have hb := u_bad (l := l) (a := a) (k := 4) he
  have ht : tE l a er m ≠ 0 := by unfold tE; rw [if_pos hb.2]; exact hb.2
  have hl : tL l a er m = [] := by unfold tL; rw [if_neg ht]
  exact ⟨by rw [hl]; rfl, ⟨v, _, _, hs, ⟨fun _ => ht, fun _ => rfl⟩, by simp [tR, uR], h4, hkk⟩, hm⟩
 |some b =>
  have he : er = 0 := by
   by_cases e : er = 0
   ·exact e
   ·exact absurd (h2.2 e) (by simp)
  have hab := h3 b rfl
  subst he hab
  obtain ⟨p1, p2, p3⟩ := t_plain (most := m) h1.le
  exact ⟨by rw [p1], ⟨v, _, _, hs, p2, p3, h4, hkk⟩, hm⟩
theorem srcONew {w : World} (v : Value) (l : Str) (hr : Row w v (l.map u8v)) (hl : l.length ≤ 35184372088832) : Calls Tryz.prog 201 #[v] w fun e w' => ∃ g, e = .returned (.pointer (some ⟨g, 0, none⟩)) ∧ SrcO w w' g l (some 0) := by
 refine (newSource_any v l w hr hl).mono ?_
 rintro e w' ⟨g, v', rfl, hg, hs, -, hk⟩
 exact ⟨g, rfl, ⟨v', 0, 0, hs, by simp, by simp, hg, hk⟩⟩
theorem srcOErr {W w : World} {g : Nat} {l : Str} {σ : Option Nat} (h : SrcO W w g l σ) : Calls Tryz.prog 205 #[.pointer (some ⟨g, 0, none⟩)] w fun e w' => ∃ er : Int, e = .returned (.int .i64 er) ∧ (σ = none ↔ er ≠ 0) ∧ w = w' := by
 obtain ⟨v, a, er, h1, h2, h3, h4, h5⟩ := h
 refine (err_any g v l a er w h1).mono ?_
 rintro e w' ⟨rfl, rfl⟩
 exact ⟨er, rfl, h2, rfl⟩
theorem srcODone {w : World} {g : Nat} {l : Str} {σ : Option Nat} (h : SrcC w g l σ) : Calls Tryz.prog 206 #[.pointer (some ⟨g, 0, none⟩)] w fun e w' => ∃ er : Int, e = .returned (.int .i64 er) ∧ (σ = some l.length ↔ er = 0) ∧ Keeps w w' := by
 obtain ⟨v, a, er, h1, h2, h3⟩ := h
 refine (Oct.done_any g v l a er w h1).mono ?_
 rintro e w' ⟨rfl, hk⟩
 refine ⟨_, rfl, ?_, hk⟩
 have hle := h1.le
 unfold doneE
 cases σ with
 |none =>
  have he := h2.1 rfl
  rw [if_neg (by simp [he])]
  simp [he]
 |some b =>
  have he : er = 0 := by
   by_cases e : er = 0
   ·exact e
   ·exact absurd (h2.2 e) (by simp)
  have hab := h3 b rfl
  subst he hab
  by_cases hlt : a < l.length
  ·rw [if_pos ⟨rfl, hlt⟩]
   simp; omega
  ·rw [if_neg (by simp; omega)]
   simp; omega
theorem uR_lt (l : Str) (k : Nat) (hk : k ≤ 8) (σ : Option Nat) : (uR l k σ).1 < 256 ^ k := by
 have hp : 0 < 256 ^ k := Nat.pow_pos (by decide)
 unfold uR
 split
 ·exact hp
 ·split
  ·exact Oct.valOf_lt' (by rw [List.length_take]; omega)
  ·exact hp
end Env
end Go.Proofs.YtcleakjjefmmbaaGreat

/- envel's reading, plain: targets one by one. -/
namespace Go.Proofs.YtcleakjjefmmbaaGreat
open Go.RowKit
namespace Env
open Adr (Str)
theorem tgsR_snoc (l : Str) (m : Nat) : ∀ (i : Nat) (σ : Option Nat), tgsR l m (i + 1) σ = ((tgsR l m i σ).1 ++ [(tgR l m (tgsR l m i σ).2).1], (tgR l m (tgsR l m i σ).2).2)
 | 0, σ => by simp [tgsR]
 |i + 1, σ => by
  have ih := tgsR_snoc l m i (tgR l m σ).2
  rw [tgsR, ih]
  simp [tgsR]
theorem tgsR_stop {l : Str} {m : Nat} {σ : Option Nat} {i : Nat} (h : (tgsR l m i σ).2 = none) : ∀ {n : Nat}, i ≤ n → (tgsR l m n σ).2 = none := by
 intro n hn
 induction n with
 |zero =>
  have : i = 0 := by omega
  subst this; exact h
 |succ n ih =>
  by_cases e : i = n + 1
  ·subst e; exact h
  ·rw [tgsR_snoc, ih (by omega)]
   rfl
theorem tR_len (l : Str) (m : Nat) (σ : Option Nat) : (tR l m σ).1.length ≤ m := by
 unfold tR
 split
 ·simp
 ·split
  ·rename_i h; rw [List.length_take]; omega
  ·simp
theorem tgsR_len (l : Str) (m : Nat) : ∀ (n : Nat) (σ : Option Nat), (tgsR l m n σ).1.length = n
 | 0, _ => rfl
 |n + 1, σ => by rw [tgsR]; simp [tgsR_len l m n]
/-- what the targets that are read are -/
def TgSm (m : Nat) (t : TgP) : Prop := (∃ u : Nat, t.u = u ∧ u < 65536) ∧ t.l.length ≤ m ∧ t.d.length ≤ m
theorem tgR_sm (l : Str) (m : Nat) (σ : Option Nat) : TgSm m (tgR l m σ).1 := ⟨⟨_, rfl, by simpa using uR_lt l 2 (by omega) σ⟩, tR_len _ _ _, tR_len _ _ _⟩
theorem tgsR_sm (l : Str) (m : Nat) : ∀ (n : Nat) (σ : Option Nat), ∀ t ∈ (tgsR l m n σ).1, TgSm m t
 | 0, _, t, h => by simp [tgsR] at h
 |n + 1, σ, t, h => by
  rw [tgsR] at h
  rcases List.mem_cons.1 h with rfl | h
  ·exact tgR_sm l m σ
  ·exact tgsR_sm l m n _ t h
theorem tgSm_wf {m : Nat} {t : TgP} (h : TgSm m t) : (Lit.int .i64 t.u).wf = true := by
 obtain ⟨⟨u, hu, h1⟩, -⟩ := h
 rw [hu]
 simp [Lit.wf, IntKind.min, IntKind.max, IntKind.signed, IntKind.bits]
 omega
end Env
end Go.Proofs.YtcleakjjefmmbaaGreat

/- envel.env, envel.step, envel.Step, envel.Bytes. -/
namespace Go.Proofs.YtcleakjjefmmbaaGreat
open Go.RowKit
namespace Env
open Oct (be putL putB okk textL SinkAt NewSinkDid newSink_any sinkU_any sinkText_any sinkBytes_any be_length RetS)
open Frm (Sole RetSI wrap_any wrapL wrapE)
/-- the sink holds l then; a block that is none of its own is as it was -/
def SoleDid (W w : World) (g : Nat) (v : Value) (l : List UInt8) (r : Ending) (e : Ending) (w' : World) : Prop :=
 ∃ v', e = r ∧ Sole W w' g v' l ∧ ∀ q t cs, Blk w q t cs → (∀ x, Oct.Fr g v x → x ≠ q) → Blk w' q t cs ∧ ∀ x, Oct.Fr g v' x → x ≠ q
theorem apart_did {w w' : World} {g : Nat} {v v' : Value} (hm : Mods (Oct.Fr g v) w w') (hf : Fresh w v v') : ∀ q t cs, Blk w q t cs → (∀ x, Oct.Fr g v x → x ≠ q) → Blk w' q t cs ∧ ∀ x, Oct.Fr g v' x → x ≠ q := by
 intro q t cs hB hq
 refine ⟨hB.mods hm (fun h => hq q h rfl), ?_⟩
 rintro x (rfl | hx)
 ·exact hq _ (.inl rfl)
 ·rcases hf x hx with h | h
  ·exact hq _ (.inr h)
  ·have := hB.lt; omega
theorem putL_be {x k : Nat} (hk : 1 ≤ k ∧ k ≤ 8) (hx : x < 256 ^ k) : putL x k = be k x ∧ putB x k = true := by
 have : putB x k = true := by simp [putB, okk, hx]; omega
 refine ⟨?_, this⟩
 unfold putL
 rw [if_pos this]
 rfl
theorem soleU {W w : World} {g : Nat} {v : Value} {l : List UInt8} (h : Sole W w g v l) (x k : Nat) (ki : Int) (hki : ki = (k : Int)) (hk : 1 ≤ k ∧ k ≤ 8) (hx : x < 256 ^ k) (hl : l.length ≤ 1000000000) :
  Calls Tryz.prog 181 #[.pointer (some ⟨g, 0, none⟩), .int .u64 (x : Int), .int .i64 ki] w (SoleDid W w g v (l ++ be k x) (.returned (.bool true))) := by
 subst hki
 have h1 := putL_be hk hx
 have h64 : x < 18446744073709551616 := Nat.lt_of_lt_of_le hx (Nat.le_trans (Nat.pow_le_pow_right (by omega) hk.2) (by decide))
 refine (sinkU_any g v l x h64 k w h.sink (by omega)).mono ?_
 rintro e w' ⟨v', rfl, hs, hm, hf⟩
 refine ⟨v', by rw [h1.2], ?_, apart_did hm hf⟩
 have := h.did hs hm hf
 rwa [h1.1] at this
theorem soleText {W w : World} {g : Nat} {v : Value} {l : List UInt8} (h : Sole W w g v l) (s : List UInt8) (hs : s.length ≤ 1000000) (hl : l.length ≤ 1000000000) :
  Calls Tryz.prog 186 #[.pointer (some ⟨g, 0, none⟩), .string (bstr s)] w (SoleDid W w g v (l ++ textB s) (.returned (.tuple #[]))) := by
 refine (sinkText_any g v l (bstr s) w h.sink (by rw [bstr_size]; omega)).mono ?_
 rintro e w' ⟨v', rfl, hk, hm, hf⟩
 refine ⟨v', rfl, ?_, apart_did hm hf⟩
 have := h.did hk hm hf
 have e : textL (bstr s) = textB s := by
  unfold textL textB
  rw [bstr_size, show putL s.length 4 = be 4 s.length from (putL_be (by decide) (Nat.lt_of_le_of_lt hs (by decide))).1]
  rfl
 rwa [e] at this
theorem soleNew (w : World) : Calls Tryz.prog 180 #[] w fun e w' => ∃ g, e = .returned (.pointer (some ⟨g, 0, none⟩)) ∧ w.heap.size ≤ g ∧ Sole w w' g (.slice none 0 0) [] := by
 refine (newSink_any w).mono ?_
 rintro e w' ⟨g, rfl, hg, hs, hk⟩
 exact ⟨g, rfl, hg, Sole.new hs hg hk⟩
theorem goodSt_nat {x : StP} (h : goodStB x = true) : ∃ s t d c : Nat, x = ⟨s, t, d, c⟩ ∧ s ≤ 3 ∧ t ≤ 65535 ∧ d ≤ 4503599627370496 ∧ c ≤ 599 := by
 obtain ⟨s, t, d, c⟩ := x
 simp [goodStB, inB, maxT] at h
 obtain ⟨⟨⟨⟨h1, h2⟩, h3, h4⟩, h5, h6⟩, h7⟩ := h
 have h6 : d ≤ 4503599627370496 := of_decide_eq_true h6
 obtain ⟨s, rfl⟩ := Int.eq_ofNat_of_zero_le h1
 obtain ⟨t, rfl⟩ := Int.eq_ofNat_of_zero_le h3
 obtain ⟨d, rfl⟩ := Int.eq_ofNat_of_zero_le h5
 obtain ⟨c, rfl⟩ := Int.eq_ofNat_of_zero_le (show 0 ≤ c by omega)
 exact ⟨s, t, d, c, rfl, by omega, by omega, by omega, by omega⟩
theorem stepP_len (k : Nat) (x : StP) : (stepP k x).length = 14 := by simp [stepP, be_length]
set_option maxRecDepth 100000 in
set_option maxHeartbeats 1000000 in
theorem step_any (w : World) (k s t d c : Nat) (hk : k ≤ 19) (hs : s ≤ 3) (ht : t ≤ 65535) (hd : d ≤ 4503599627370496) (hc : c ≤ 599) :
  Calls Tryz.prog 127 #[.int .i64 (k : Int), .agg #[.int .i64 (s : Int), .int .i64 (t : Int), .int .i64 (d : Int), .int .i64 (c : Int)]] w (RetS w (stepP k ⟨s, t, d, c⟩)) := by
 have HX := Lib.hid (show be 1 k ++ be 1 s ++ be 2 t ++ be 8 d ++ be 2 c = stepP k ⟨s, t, d, c⟩ from rfl)
 have HL := Lib.hid (fun n x => be_length n x)
 have HK := Lib.hid ((Keeps.refl w).alloc (.cells #[.int .i64 (s : Int), .int .i64 (t : Int), .int .i64 (d : Int), .int .i64 (c : Int)] 57))
 have HB := Lib.hid (Blk.new w 57 #[.int .i64 (s : Int), .int .i64 (t : Int), .int .i64 (d : Int), .int .i64 (c : Int)] rfl)
 generalize stepP k ⟨s, t, d, c⟩ = L at *
 go_enter Tryz.func127, Tryz.ntmps127
 go_wp2_with fail
 refine (soleNew _).mono ?_
 rintro e w1 ⟨g, rfl, hg, hso⟩
 generalize w.alloc (.cells #[.int .i64 (s : Int), .int .i64 (t : Int), .int .i64 (d : Int), .int .i64 (c : Int)] 57) = w0 at *
 generalize w.heap.size = b at *
 have HSo := Lib.hid hso
 clear hso
 go_wp2_with fail
 refine (soleU HSo.out k 1 1 rfl (by omega) (by omega) (by simp [be_length])).mono ?_
 rintro e w2 ⟨v2, rfl, hso, -⟩
 have HS2 := Lib.hid hso
 clear hso
 have c0 : w2.cell? ⟨b, 0, none⟩ = some (.int .i64 (s : Int)) := by rw [(HB.out.keeps HS2.out.keeps).cell]; rfl
 go_wp2_with fail
 refine (soleU HS2.out s 1 1 rfl (by omega) (by omega) (by simp [be_length])).mono ?_
 rintro e w3 ⟨v3, rfl, hso, -⟩
 have HS3 := Lib.hid hso
 clear hso c0
 have c1 : w3.cell? ⟨b, 1, none⟩ = some (.int .i64 (t : Int)) := by rw [(HB.out.keeps HS3.out.keeps).cell]; rfl
 go_wp2_with fail
 refine (soleU HS3.out t 2 2 rfl (by omega) (by omega) (by simp [be_length])).mono ?_
 rintro e w4 ⟨v4, rfl, hso, -⟩
 have HS4 := Lib.hid hso
 clear hso c1
 have c2 : w4.cell? ⟨b, 2, none⟩ = some (.int .i64 (d : Int)) := by rw [(HB.out.keeps HS4.out.keeps).cell]; rfl
 go_wp2_with fail
 refine (soleU HS4.out d 8 8 rfl (by omega) (by omega) (by simp [be_length])).mono ?_
 rintro e w5 ⟨v5, rfl, hso, -⟩
 have HS5 := Lib.hid hso
 clear hso c2
 have c3 : w5.cell? ⟨b, 3, none⟩ = some (.int .i64 (c : Int)) := by rw [(HB.out.keeps HS5.out.keeps).cell]; rfl
 go_wp2_with fail
 refine (soleU HS5.out c 2 2 rfl (by omega) (by omega) (by simp [be_length])).mono ?_
 rintro e w6 ⟨v6, rfl, hso, -⟩
 have HS6 := Lib.hid hso
 clear hso c3
 have hle : w.heap.size ≤ w6.heap.size := (HK.out.trans HS6.out.keeps).size
 go_wp2_with fail
 refine (sinkBytes_any g v6 _ w6 HS6.out.sink (by simp [be_length])).mono ?_
 rintro e w7 ⟨v7, rfl, ho, hk⟩
 have HO := Lib.hid ho
 have HKK := Lib.hid (HK.out.trans (HS6.out.keeps.trans hk))
 clear ho hk
 go_wp2_with fail
 go_ret
 refine ⟨v7, rfl, ?_, HKK.out⟩
 rw [← HX.out]
 exact HO.out.lower hle
theorem fresh_any (a : Int) (w : World) : Calls Tryz.prog 58 #[.int .i64 a] w fun e w' => e = .returned (.agg #[.int .i64 0, .int .i64 0, .int .i64 a, .int .i64 0]) ∧ Keeps w w' := by
 go_enter Tryz.func58, Tryz.ntmps58
 go_wp2_with fail
 have HL := Lib.hid (ld_run (P := Tryz.prog) stM (Blk.new w 57 #[.int .i64 0, .int .i64 0, .int .i64 a, .int .i64 0] rfl))
 exact bodyPost_ret (v := .agg #[.int .i64 0, .int .i64 0, .int .i64 a, .int .i64 0]) (by simp [results, Tryz.results58, go_sem, HL.out]) rfl ⟨rfl, (Keeps.refl _).alloc _⟩
theorem wrapL_le {k : Int} {p : List UInt8} : (wrapL k p).length ≤ 131091 := by
 unfold wrapL
 split
 ·rename_i h
  have hp : p.length ≤ 65536 := by
   unfold wrapE at h
   split at h
   ·simp at h
   ·split at h
    ·simp at h
    ·omega
  have := (Frm.veil_len (Frm.body k.toNat p)).2
  rw [Frm.body_len] at this
  simp only [List.length_cons]
  omega
 ·simp
set_option maxRecDepth 100000 in
theorem stepS_any (w : World) (k : Int) (x : StP) : Calls Tryz.prog 61 #[.int .i64 k, .agg (stA x)] w (RetSI w (stepL k x) (stepE k x)) := by
 have HB := Lib.hid (Blk.new w 57 (stA x) rfl)
 have HK := Lib.hid ((Keeps.refl w).alloc (.cells (stA x) 57))
 have HW := Lib.hid (within_any k 0 19)
 have HG := Lib.hid (goodState_any x)
 have HP := Lib.hid (show stepE k x = (if inB k 0 19 = false then 1 else if goodStB x = false then 3 else 0) from rfl)
 have HQ := Lib.hid (show stepL k x = (if stepE k x = 0 then wrapL 18 (stepP k.toNat x) else []) from rfl)
 have HH := Lib.hid (show inB k 0 19 = true → ∃ n : Nat, k = n ∧ n ≤ 19 from fun h => by
  simp [inB] at h
  obtain ⟨n, rfl⟩ := Int.eq_ofNat_of_zero_le h.1
  exact ⟨n, rfl, by omega⟩)
 have HS := Lib.hid (@goodSt_nat x)
 generalize stepE k x = er at *
 generalize stepL k x = L at *
 generalize inB k 0 19 = b1 at *
 generalize goodStB x = b2 at *
 go_enter Tryz.func61, Tryz.ntmps61
 go_wp2_with fail
 refine (HW.out _).mono ?_
 rintro e w1 ⟨rfl, rfl⟩
 generalize w.alloc (.cells (stA x) 57) = w1 at *
 generalize hwb : w.heap.size = b at *
 have HWB := Lib.hid hwb
 clear hwb
 cases b1 with
 |false =>
  have HX := Lib.hid (show er = 1 from by rw [HP.out]; rfl)
  have HY := Lib.hid (show L = [] from by rw [HQ.out, HX.out]; rfl)
  go_wp2_with fail
  exact bodyPost_ret (v := .tuple #[.slice none 0 0, .int .i64 1]) (by simp [results, Tryz.results61, go_sem]) rfl ⟨_, by rw [HX.out], by rw [HY.out]; exact Own.nil _ _ _, HK.out⟩
 |true =>
 obtain ⟨n, rfl, hn⟩ := HH.out rfl
 go_wp2_with (refine wpList_ld rfl stM HB.out _ rfl rfl ?_)
 refine (HG.out _).mono ?_
 rintro e w2 ⟨rfl, hk⟩
 have HB2 := Lib.hid (HB.out.keeps hk)
 have HK2 := Lib.hid (HK.out.trans hk)
 clear hk
 cases b2 with
 |false =>
  have HX := Lib.hid (show er = 3 from by rw [HP.out]; rfl)
  have HY := Lib.hid (show L = [] from by rw [HQ.out, HX.out]; rfl)
  go_wp2_with fail
  exact bodyPost_ret (v := .tuple #[.slice none 0 0, .int .i64 3]) (by simp [results, Tryz.results61, go_sem]) rfl ⟨_, by rw [HX.out], by rw [HY.out]; exact Own.nil _ _ _, HK2.out⟩
 |true =>
 obtain ⟨s, t, d, c, rfl, h1, h2, h3, h4⟩ := HS.out rfl
 have HX := Lib.hid (show er = 0 from by rw [HP.out]; rfl)
 have HY := Lib.hid (show L = wrapL 18 (stepP n ⟨s, t, d, c⟩) from by rw [HQ.out, HX.out]; rfl)
 have HST := Lib.hid (step_any w2 n s t d c hn h1 h2 h3 h4)
 have HL := Lib.hid (stepP_len n ⟨s, t, d, c⟩)
 clear HP HQ HG HS HH
 generalize stepP n ⟨s, t, d, c⟩ = P at *
 go_wp2_with (refine wpList_ld rfl stM HB2.out _ rfl rfl ?_)
 refine HST.out.mono ?_
 rintro e w3 ⟨v3, rfl, ho, hk⟩
 have HO := Lib.hid ho
 have HK3 := Lib.hid (HK2.out.trans hk)
 obtain ⟨p3, n3, c3, rfl⟩ := ho.sl
 clear ho hk
 go_wp2_with fail
 refine (wrap_any 18 _ P w3 HO.out.row).mono ?_
 rintro e w4 ⟨v4, rfl, ho, hk⟩
 have HO4 := Lib.hid (show Own w4 w.heap.size 5 v4 ((wrapL 18 P).map u8v) from ho.lower HK3.out.size)
 have HK4 := Lib.hid (HK3.out.trans hk)
 have HE := Lib.hid (show wrapE 18 P.length = 0 from by rw [HL.out]; rfl)
 obtain ⟨p4, n4, c4, rfl⟩ := ho.sl
 clear ho hk
 rw [HE.out]
 go_wp2_with fail
 exact bodyPost_ret (v := .tuple #[.slice p4 n4 c4, .int .i64 0]) (by simp [results, Tryz.results61, go_sem]) rfl ⟨_, by rw [HX.out], by rw [HY.out]; exact HO4.out, HK4.out⟩
end Env
end Go.Proofs.YtcleakjjefmmbaaGreat

/- envel.readEnv, envel.readStep. -/
namespace Go.Proofs.YtcleakjjefmmbaaGreat
open Go.RowKit
namespace Env
open Adr (Str)
set_option maxRecDepth 100000 in
set_option maxHeartbeats 1000000 in
theorem box_any {W w : World} {g : Nat} {l : Str} {σ : Option Nat} (h : SrcO W w g l σ) (B : Nat) (hB : Blk w B 260 #[.pointer (some ⟨g, 0, none⟩)]) (hBg : B ≠ g) :
  Calls Tryz.prog 202 #[.pointer (some ⟨B, 0, none⟩)] w fun e w' => e = .returned (.agg #[.string (bstr (tR l 100 σ).1), .string (bstr (tR l 100 (tR l 100 σ).2).1)]) ∧ SrcO W w' g l (tR l 100 (tR l 100 σ).2).2 ∧ Mods (· = g) w w' := by
 have HS := Lib.hid h
 have HA := Lib.hid (Blk.new w 50 #[.string ⟨#[]⟩, .string ⟨#[]⟩] rfl)
 have HB := Lib.hid hB
 have HCG := Lib.hid (show w.heap.size ≠ g from fun e => by have := h.lt; omega)
 have HCB := Lib.hid (show B ≠ w.heap.size from fun e => by have := hB.lt; omega)
 have HWG := Lib.hid (Nat.le_trans h.keepsW.size (Nat.le_refl w.heap.size))
 clear h hB
 generalize hx1 : (tR l 100 σ).1 = x1 at *
 generalize hs1 : (tR l 100 σ).2 = s1 at *
 generalize hx2 : (tR l 100 s1).1 = x2 at *
 generalize hs2 : (tR l 100 s1).2 = s2 at *
 have HE := Lib.hid (And.intro hx1 (And.intro hs1 (And.intro hx2 hs2)))
 clear hx1 hs1 hx2 hs2
 go_enter Tryz.func202, Tryz.ntmps202
 go_wp2_with fail
 have HM0 := Lib.hid (show Mods (· = g) w (w.alloc (.cells #[.string ⟨#[]⟩, .string ⟨#[]⟩] 50)) from Mods.of_keeps ((Keeps.refl _).alloc _))
 have HS0 := Lib.hid (HS.out.kept ((Keeps.refl w).alloc (.cells #[.string ⟨#[]⟩, .string ⟨#[]⟩] 50)))
 have HB0 := Lib.hid (HB.out.alloc (.cells #[.string ⟨#[]⟩, .string ⟨#[]⟩] 50))
 generalize w.alloc (.cells #[.string ⟨#[]⟩, .string ⟨#[]⟩] 50) = w1 at *
 generalize hc : w.heap.size = c at *
 have HCC := Lib.hid hc
 clear hc HS HB
 have HS0 := Lib.hid (HS0.out.kept ((Keeps.refl w1).drew))
 have HAx := Lib.hid HA.out.drew
 have hcell : w1.cell? ⟨B, 0, none⟩ = some (.pointer (some ⟨g, 0, none⟩)) := by rw [HB0.out.cell]; rfl
 have hNB : ¬ (B = g ∨ B = c) := fun h => h.elim hBg HCB.out
 refine wp_region_noPanic ?_
 refine wp_region_held_drew (S := fun w' => Mods (fun x => x = g ∨ x = c) w1 w') (by kernel_rfl) ((Mods.refl (fun x => x = g ∨ x = c) w1).drew) (fun _ => ?_)
 have hHeld : Mods (fun x => x = g ∨ x = c) w1 (w1).drew := (Mods.refl (fun x => x = g ∨ x = c) w1).drew
 generalize World.drew w1 = xs at *
 refine tq 0 2 ?_ (hy := fun w' hSw => by
  have hSw : Mods (fun x => x = g ∨ x = c) w1 w' := hSw
  have hx := hSw.cell hcell hNB
  clear hSw
  go_simp
  try with_reducible rfl)
 refine tq 2 4 ?_ (hy := fun w' hSw => by
  have hSw : Mods (fun x => x = g ∨ x = c) w1 w' := hSw
  have hx := hSw.cell hcell hNB
  clear hSw
  go_simp
  try with_reducible rfl)
 refine rd1 1 (fun K hK => ?_)
 go_simp
 refine (srcOT HS0.out 100 100 rfl (by omega)).mono ?_
 rintro e z1 ⟨rfl, hso, hm⟩
 rw [HE.out.2.1] at hso
 rw [HE.out.1]
 have HS1 := Lib.hid hso
 have HA1 := Lib.hid (HAx.out.mods hm HCG.out)
 have hb := hHeld.trans hm (fun x h _ => .inl h)
 clear hso hm
 go_wp2_with fail
 refine bkm hK hb ?_
 clear hK K hHeld
 have hHeld : Mods (fun x => x = g ∨ x = c) w1 z1 := hb
 clear hb
 refine rd1 3 (fun K hK => ?_)
 go_simp
 refine (srcOT HS1.out 100 100 rfl (by omega)).mono ?_
 rintro e z2 ⟨rfl, hso, hm⟩
 rw [HE.out.2.2.2] at hso
 rw [HE.out.2.2.1]
 have HS2 := Lib.hid hso
 have HA2 := Lib.hid (HA1.out.mods hm HCG.out)
 have hb := hHeld.trans hm (fun x h _ => .inl h)
 clear hso hm
 go_wp2_with fail
 refine bkm hK hb ?_
 clear hK K hHeld
 have hHeld : Mods (fun x => x = g ∨ x = c) w1 z2 := hb
 clear hb
 refine tq 4 6 ?_
 refine rd1 5 (fun K hK => ?_)
 refine step_st (ds := #[.string (bstr x1), .string (bstr x2)]) rfl adM HA2.out rfl (by simp [Value.oneCell']) _ _ rfl rfl rfl rfl ?_
 intro yF hBF hMF
 have hb := hHeld.trans hMF (fun x h _ => .inr h)
 have HF := Lib.hid (show yF.cell? ⟨c, 0, none⟩ = some (.string (bstr x1)) ∧ yF.cell? ⟨c, 1, none⟩ = some (.string (bstr x2)) from ⟨by rw [hBF.cell]; rfl, by rw [hBF.cell]; rfl⟩)
 have HSF := Lib.hid (HS2.out.modsB hMF (fun x hx => by subst hx; exact ⟨HWG.out, HCG.out, fun cs fr hh => by have h2 := HA2.out; unfold Blk at h2; rw [h2] at hh; simp at hh⟩))
 clear hBF hMF
 refine bkm hK hb ?_
 clear hK K hHeld
 have hHeld : Mods (fun x => x = g ∨ x = c) w1 yF := hb
 clear hb
 refine wpAnyH_done (by kernel_rfl) ?_ _
 refine NoPanic.normal ?_
 have HM := Lib.hid (show Mods (· = g) w yF from HM0.out.trans hHeld (fun x hx hl => hx.elim id (fun e => absurd hl (by rw [e, ← HCC.out]; omega))))
 clear hHeld
 go_wp2_with fail
 exact bodyPost_ret (v := .agg #[.string (bstr x1), .string (bstr x2)]) (by simp [results, Tryz.results202, go_sem, HF.out.1, HF.out.2]) rfl ⟨rfl, HSF.out, HM.out⟩
end Env
end Go.Proofs.YtcleakjjefmmbaaGreat

/- envel.readStep. Printed by gen_enread.py. -/
namespace Go.Proofs.YtcleakjjefmmbaaGreat
open Go.RowKit
namespace Env
open Adr (Str)
theorem capI_if (v : Nat) : (if (4503599627370497 : Int) < (v : Int) then (4503599627370497 : Int) else (v : Int)) = capI capT v := by
 unfold capI capT
 split <;> split <;> omega
theorem capI_le (v : Nat) : 0 ≤ capI capT v ∧ capI capT v ≤ 4503599627370497 := by
 unfold capI capT
 split <;> omega
/-- one block may change, and holds these cells -/
def HB1 (t : TypeId) (X : Nat) (cs : Array Value) (y w : World) : Prop := Mods (· = X) y w ∧ Blk w X t cs
theorem HB1.keeps {t : TypeId} {X : Nat} {cs : Array Value} {y w w' : World} (h : HB1 t X cs y w) (k : Keeps w w') : HB1 t X cs y w' := ⟨h.1.then k, h.2.keeps k⟩
def StepRet (W : World) (l : Str) (n : Nat) (e : Ending) (w' : World) : Prop :=
 e = .returned (.tuple #[.int .i64 ((stR capT l).1.1 : Nat), .agg (stA (stR capT l).1.2), .bool (stOk (stR capT l) l n)]) ∧ Keeps W w'
set_option maxRecDepth 100000 in
set_option maxHeartbeats 2000000 in
theorem readStep_any (w : World) (v : Value) (l : Str) (n : Nat) (hr : Row w v (l.map u8v)) (hl : l.length ≤ 35184372088832) (hn : n ≤ 1000000) : Calls Tryz.prog 160 #[v, .int .i64 (n : Int)] w (StepRet w l n) := by
 have HR := Lib.hid (hr.keeps ((Keeps.refl w).alloc (.cells #[.int .i64 0, .int .i64 0, .int .i64 0, .int .i64 0] 57)))
 have HX := Lib.hid (Blk.new w 57 #[.int .i64 0, .int .i64 0, .int .i64 0, .int .i64 0] rfl)
 have HK := Lib.hid ((Keeps.refl w).alloc (.cells #[.int .i64 0, .int .i64 0, .int .i64 0, .int .i64 0] 57))
 obtain ⟨pv, nv, cv, rfl⟩ : ∃ p n c, v = .slice p n c := let ⟨p, c, h, _⟩ := hr.form; ⟨p, _, c, h⟩
 clear hr
 have ha := uR_lt l 1 (by omega) (some 0)
 generalize hxa : (uR l 1 (some 0)).1 = xa at *
 generalize hsa : (uR l 1 (some 0)).2 = sa at *
 have hb := uR_lt l 1 (by omega) (sa)
 generalize hxb : (uR l 1 (sa)).1 = xb at *
 generalize hsb : (uR l 1 (sa)).2 = sb at *
 have hd := uR_lt l 2 (by omega) (sb)
 generalize hxd : (uR l 2 (sb)).1 = xd at *
 generalize hsd : (uR l 2 (sb)).2 = sd at *
 have he := uR_lt l 8 (by omega) (sd)
 generalize hxe : (uR l 8 (sd)).1 = xe at *
 generalize hse : (uR l 8 (sd)).2 = se at *
 have hf := uR_lt l 2 (by omega) (se)
 generalize hxf : (uR l 2 (se)).1 = xf at *
 generalize hsf : (uR l 2 (se)).2 = sf at *
 simp only [Nat.reducePow] at ha hb hd he hf
 have HE := Lib.hid (And.intro hxa (And.intro hsa (And.intro hxb (And.intro hsb (And.intro hxd (And.intro hsd (And.intro hxe (And.intro hse (And.intro hxf hsf)))))))))
 obtain ⟨ce, hce⟩ : ∃ c, capI capT xe = c := ⟨_, rfl⟩
 have hcl := capI_le xe
 have hci := capI_if xe
 rw [hce] at hcl hci
 have HS := Lib.hid (show stR capT l = ((xa, ⟨(xb : Int), (xd : Int), ce, (xf : Int)⟩), sf) from by
  unfold stR
  simp only [hxa, hsa, hxb, hsb, hxd, hsd, hxe, hse, hxf, hsf, hce])
 clear hxa hsa hxb hsb hxd hsd hxe hse hxf hsf hce
 have wa : IntKind.i64.wrap (xa : Int) = (xa : Int) := IntWalk.i64_in _ (by omega)
 have wb : IntKind.i64.wrap (xb : Int) = (xb : Int) := IntWalk.i64_in _ (by omega)
 have wd : IntKind.i64.wrap (xd : Int) = (xd : Int) := IntWalk.i64_in _ (by omega)
 have we : IntKind.i64.wrap ce = ce := IntWalk.i64_in _ (by omega)
 have wf : IntKind.i64.wrap (xf : Int) = (xf : Int) := IntWalk.i64_in _ (by omega)
 unfold StepRet
 rw [HS.out]
 have HO := Lib.hid (show stOk ((xa, ⟨(xb : Int), (xd : Int), ce, (xf : Int)⟩), sf) l n = (decide (sf = some l.length) && decide (xa < n) && goodStB ⟨(xb : Int), (xd : Int), ce, (xf : Int)⟩) from rfl)
 obtain ⟨ok, hok⟩ : ∃ b, stOk ((xa, ⟨(xb : Int), (xd : Int), ce, (xf : Int)⟩), sf) l n = b := ⟨_, rfl⟩
 rw [hok] at HO ⊢
 clear hok
 go_enter Tryz.func160, Tryz.ntmps160
 go_wp2_with fail
 refine (srcONew _ l HR.out hl).mono ?_
 rintro e z0 ⟨g, rfl, hso⟩
 have HXG := Lib.hid (show w.heap.size ≠ g from fun e => by
  have h1 := hso.ge
  have h2 := HX.out.lt
  omega)
 have HX0 := Lib.hid (HX.out.keeps hso.keepsW)
 generalize w.alloc (.cells #[.int .i64 0, .int .i64 0, .int .i64 0, .int .i64 0] 57) = w1 at *
 have HS0 := Lib.hid hso
 generalize hX : w.heap.size = X at *
 have HXX := Lib.hid hX
 clear hso hX HX HR
 go_wp2_with fail
 refine (srcOU HS0.out 1 1 rfl (by omega)).mono ?_
 rintro e z1 ⟨rfl, hso, hm⟩
 rw [HE.out.2.1] at hso
 rw [HE.out.1]
 have HS1 := Lib.hid hso
 have HX1 := Lib.hid (HX0.out.mods hm HXG.out)
 clear hso hm HS0 HX0
 go_wp2_with fail
 refine (srcOU HS1.out 1 1 rfl (by omega)).mono ?_
 rintro e z2 ⟨rfl, hso, hm⟩
 rw [HE.out.2.2.2.1] at hso
 rw [HE.out.2.2.1]
 have HS2 := Lib.hid hso
 have HX2 := Lib.hid (HX1.out.mods hm HXG.out)
 clear hso hm HS1 HX1
 go_wp2_with fail
 refine (srcOU HS2.out 2 2 rfl (by omega)).mono ?_
 rintro e z3 ⟨rfl, hso, hm⟩
 rw [HE.out.2.2.2.2.2.1] at hso
 rw [HE.out.2.2.2.2.1]
 have HS3 := Lib.hid hso
 have HX3 := Lib.hid (HX2.out.mods hm HXG.out)
 clear hso hm HS2 HX2
 go_wp2_with fail
 refine (srcOU HS3.out 8 8 rfl (by omega)).mono ?_
 rintro e z4 ⟨rfl, hso, hm⟩
 rw [HE.out.2.2.2.2.2.2.2.1] at hso
 rw [HE.out.2.2.2.2.2.2.1]
 have HS4 := Lib.hid hso
 have HX4 := Lib.hid (HX3.out.mods hm HXG.out)
 clear hso hm HS3 HX3
 go_wp2_with fail
 refine (srcOU HS4.out 2 2 rfl (by omega)).mono ?_
 rintro e z5 ⟨rfl, hso, hm⟩
 rw [HE.out.2.2.2.2.2.2.2.2.2] at hso
 rw [HE.out.2.2.2.2.2.2.2.2.1]
 have HS5 := Lib.hid hso
 have HX5 := Lib.hid (HX4.out.mods hm HXG.out)
 clear hso hm HS4 HX4
 have r0 : z5.cell? ⟨X, 0, none⟩ = some (.int .i64 0) := by rw [HX5.out.cell]; rfl
 have r1 : z5.cell? ⟨X, 1, none⟩ = some (.int .i64 0) := by rw [HX5.out.cell]; rfl
 have r2 : z5.cell? ⟨X, 2, none⟩ = some (.int .i64 0) := by rw [HX5.out.cell]; rfl
 have r3 : z5.cell? ⟨X, 3, none⟩ = some (.int .i64 0) := by rw [HX5.out.cell]; rfl
 have f0 : z5.frozen? ⟨X, 0, none⟩ = false := HX5.out.frozen _
 have f1 : z5.frozen? ⟨X, 1, none⟩ = false := HX5.out.frozen _
 have f2 : z5.frozen? ⟨X, 2, none⟩ = false := HX5.out.frozen _
 have f3 : z5.frozen? ⟨X, 3, none⟩ = false := HX5.out.frozen _
 have HXc := Lib.hid (show Blk ((((z5.setCell ⟨X, 0, none⟩ (.int .i64 (xb : Int))).setCell ⟨X, 1, none⟩ (.int .i64 (xd : Int))).setCell ⟨X, 2, none⟩ (.int .i64 ce)).setCell ⟨X, 3, none⟩ (.int .i64 (xf : Int))) X 57 (stA ⟨(xb : Int), (xd : Int), ce, (xf : Int)⟩) from (((HX5.out.set_ 0 _).set_ 1 _).set_ 2 _).set_ 3 _)
 have HMc := Lib.hid (show Mods (· = X) z5 ((((z5.setCell ⟨X, 0, none⟩ (.int .i64 (xb : Int))).setCell ⟨X, 1, none⟩ (.int .i64 (xd : Int))).setCell ⟨X, 2, none⟩ (.int .i64 ce)).setCell ⟨X, 3, none⟩ (.int .i64 (xf : Int))) from ((((Mods.refl (· = X) z5).setCell (p := ⟨X, 0, none⟩) (fun _ => rfl) _).setCell (p := ⟨X, 1, none⟩) (fun _ => rfl) _).setCell (p := ⟨X, 2, none⟩) (fun _ => rfl) _).setCell (p := ⟨X, 3, none⟩) (fun _ => rfl) _)
 have HKz := Lib.hid (HK.out.trans HS5.out.keepsW)
 go_wp2_with fail
 generalize ((((z5.setCell ⟨X, 0, none⟩ (.int .i64 (xb : Int))).setCell ⟨X, 1, none⟩ (.int .i64 (xd : Int))).setCell ⟨X, 2, none⟩ (.int .i64 ce)).setCell ⟨X, 3, none⟩ (.int .i64 (xf : Int))) = y at *
 have HSy := Lib.hid (HS5.out.core.mods HMc.out (fun x hx => by subst hx; exact ⟨HXG.out, fun cs fr hh => by have h2 := HX5.out; unfold Blk at h2; rw [h2] at hh; simp at hh⟩))
 have HKy := Lib.hid (HMc.out.keeps HKz.out (fun x hx => by rw [hx, ← HXX.out]; exact Nat.le_refl _))
 clear r0 r1 r2 r3 f0 f1 f2 f3 HX5 HMc HS5 HKz
 have HGS := Lib.hid (goodState_any ⟨(xb : Int), (xd : Int), ce, (xf : Int)⟩)
 have HX0 := Lib.hid HXc.out.drew
 have HSd := Lib.hid (HSy.out.kept ((Keeps.refl y).drew))
 unfold stA at *
 generalize goodStB ⟨(xb : Int), (xd : Int), ce, (xf : Int)⟩ = gs at *
 by_cases hsf : sf = some l.length
 ·have e0 : decide (sf = some l.length) = true := decide_eq_true hsf
  by_cases hxn : xa < n
  ·have HOK := Lib.hid (show ok = gs from by rw [HO.out, e0, decide_eq_true hxn]; simp)
   have e2 : decide ((xa : Int) < (n : Int)) = true := decide_eq_true (by omega)
   have e3 : decide (xa < n) = true := decide_eq_true hxn
   refine wp_region_noPanic ?_
   refine wp_region_held_drew (S := fun w' => HB1 57 X #[.int .i64 (xb : Int), .int .i64 (xd : Int), .int .i64 ce, .int .i64 (xf : Int)] y w') (by kernel_rfl) ((⟨(Mods.refl (· = X) y).drew, HX0.out⟩ : HB1 57 X #[.int .i64 (xb : Int), .int .i64 (xd : Int), .int .i64 ce, .int .i64 (xf : Int)] y y.drew)) (fun _ => ?_)
   have hHeld : HB1 57 X #[.int .i64 (xb : Int), .int .i64 (xd : Int), .int .i64 ce, .int .i64 (xf : Int)] y (y).drew := (⟨(Mods.refl (· = X) y).drew, HX0.out⟩ : HB1 57 X #[.int .i64 (xb : Int), .int .i64 (xd : Int), .int .i64 ce, .int .i64 (xf : Int)] y y.drew)
   generalize World.drew y = xs at *
   refine tq 0 27 ?_
   refine tq 1 28 ?_ (hy := fun w' hSw => by
    have hSw : HB1 57 X #[.int .i64 (xb : Int), .int .i64 (xd : Int), .int .i64 ce, .int .i64 (xf : Int)] y w' := hSw
    have h0 := hSw.2.cell 0
    have h1 := hSw.2.cell 1
    have h2 := hSw.2.cell 2
    have h3 := hSw.2.cell 3
    simp only [List.getElem?_toArray, List.getElem?_cons_zero, List.getElem?_cons_succ] at h0 h1 h2 h3
    clear hSw
    go_simp
    try with_reducible rfl)
   refine tq 2 29 ?_
   refine rd1 3 (fun K hK => ?_)
   go_simp
   refine (srcODone HSd.out).mono ?_
   rintro e zd ⟨er, rfl, her, hk⟩
   have e1 : (er == 0) = true := by simpa using her.1 hsf
   have hb := hHeld.keeps hk
   clear hk her
   go_wp2_with fail
   refine bkm hK hb ?_
   clear hK K hHeld
   have hHeld : HB1 57 X #[.int .i64 (xb : Int), .int .i64 (xd : Int), .int .i64 ce, .int .i64 (xf : Int)] y zd := hb
   clear hb
   refine tq 4 31 ?_
   refine tq 5 32 ?_
   refine tq 6 33 ?_
   refine tq 7 34 ?_
   refine tq 8 35 ?_
   refine tq 9 36 ?_
   refine tq 10 37 ?_
   refine tq 11 38 ?_ (hy := fun w' hSw => by
    have hSw : HB1 57 X #[.int .i64 (xb : Int), .int .i64 (xd : Int), .int .i64 ce, .int .i64 (xf : Int)] y w' := hSw
    have h0 := hSw.2.cell 0
    have h1 := hSw.2.cell 1
    have h2 := hSw.2.cell 2
    have h3 := hSw.2.cell 3
    simp only [List.getElem?_toArray, List.getElem?_cons_zero, List.getElem?_cons_succ] at h0 h1 h2 h3
    clear hSw
    go_simp
    try with_reducible rfl)
   refine rd1 12 (fun K hK => ?_)
   go_simp
   refine (HGS.out _).mono ?_
   rintro e zg ⟨rfl, hk⟩
   have hb := hHeld.keeps hk
   clear hk
   go_wp2_with fail
   refine bkm hK hb ?_
   clear hK K hHeld
   have hHeld : HB1 57 X #[.int .i64 (xb : Int), .int .i64 (xd : Int), .int .i64 ce, .int .i64 (xf : Int)] y zg := hb
   clear hb
   refine tq 13 40 ?_
   refine tq 14 4 ?_
   refine rd1 15 (fun K hK => ?_)
   refine step_st (ds := #[.int .i64 (xb : Int), .int .i64 (xd : Int), .int .i64 ce, .int .i64 (xf : Int)]) rfl stM hHeld.2 rfl (by simp [Value.oneCell']) _ _ rfl rfl rfl rfl ?_
   intro yF hBF hMF
   have hb : HB1 57 X #[.int .i64 (xb : Int), .int .i64 (xd : Int), .int .i64 ce, .int .i64 (xf : Int)] y yF := ⟨hHeld.1.trans hMF (fun x h _ => h), hBF⟩
   clear hBF hMF
   refine bkm hK hb ?_
   clear hK K hHeld
   have hHeld : HB1 57 X #[.int .i64 (xb : Int), .int .i64 (xd : Int), .int .i64 ce, .int .i64 (xf : Int)] y yF := hb
   clear hb
   refine tq 16 6 ?_
   refine wpAnyH_done (by kernel_rfl) ?_ _
   refine NoPanic.normal ?_
   have HF := Lib.hid (show yF.cell? ⟨X, 0, none⟩ = some (.int .i64 (xb : Int)) ∧ yF.cell? ⟨X, 1, none⟩ = some (.int .i64 (xd : Int)) ∧ yF.cell? ⟨X, 2, none⟩ = some (.int .i64 ce) ∧ yF.cell? ⟨X, 3, none⟩ = some (.int .i64 (xf : Int)) from ⟨by rw [hHeld.2.cell]; rfl, by rw [hHeld.2.cell]; rfl, by rw [hHeld.2.cell]; rfl, by rw [hHeld.2.cell]; rfl⟩)
   have HKF := Lib.hid (hHeld.1.keeps HKy.out (fun x hx => by rw [hx, ← HXX.out]; exact Nat.le_refl _))
   clear hHeld
   go_wp2_with fail
   exact bodyPost_ret (v := .tuple #[.int .i64 (xa : Int), .agg #[.int .i64 (xb : Int), .int .i64 (xd : Int), .int .i64 ce, .int .i64 (xf : Int)], .bool gs]) (by simp [results, Tryz.results160, go_sem, HF.out.1, HF.out.2.1, HF.out.2.2.1, HF.out.2.2.2]) rfl ⟨by rw [HOK.out]; rfl, HKF.out⟩
  ·have HOK := Lib.hid (show ok = false from by rw [HO.out, e0, decide_eq_false hxn]; simp)
   have e2 : decide ((xa : Int) < (n : Int)) = false := decide_eq_false (by omega)
   have e3 : decide (xa < n) = false := decide_eq_false hxn
   refine wp_region_noPanic ?_
   refine wp_region_held_drew (S := fun w' => HB1 57 X #[.int .i64 (xb : Int), .int .i64 (xd : Int), .int .i64 ce, .int .i64 (xf : Int)] y w') (by kernel_rfl) ((⟨(Mods.refl (· = X) y).drew, HX0.out⟩ : HB1 57 X #[.int .i64 (xb : Int), .int .i64 (xd : Int), .int .i64 ce, .int .i64 (xf : Int)] y y.drew)) (fun _ => ?_)
   have hHeld : HB1 57 X #[.int .i64 (xb : Int), .int .i64 (xd : Int), .int .i64 ce, .int .i64 (xf : Int)] y (y).drew := (⟨(Mods.refl (· = X) y).drew, HX0.out⟩ : HB1 57 X #[.int .i64 (xb : Int), .int .i64 (xd : Int), .int .i64 ce, .int .i64 (xf : Int)] y y.drew)
   generalize World.drew y = xs at *
   refine tq 0 27 ?_
   refine tq 1 28 ?_ (hy := fun w' hSw => by
    have hSw : HB1 57 X #[.int .i64 (xb : Int), .int .i64 (xd : Int), .int .i64 ce, .int .i64 (xf : Int)] y w' := hSw
    have h0 := hSw.2.cell 0
    have h1 := hSw.2.cell 1
    have h2 := hSw.2.cell 2
    have h3 := hSw.2.cell 3
    simp only [List.getElem?_toArray, List.getElem?_cons_zero, List.getElem?_cons_succ] at h0 h1 h2 h3
    clear hSw
    go_simp
    try with_reducible rfl)
   refine tq 2 29 ?_
   refine rd1 3 (fun K hK => ?_)
   go_simp
   refine (srcODone HSd.out).mono ?_
   rintro e zd ⟨er, rfl, her, hk⟩
   have e1 : (er == 0) = true := by simpa using her.1 hsf
   have hb := hHeld.keeps hk
   clear hk her
   go_wp2_with fail
   refine bkm hK hb ?_
   clear hK K hHeld
   have hHeld : HB1 57 X #[.int .i64 (xb : Int), .int .i64 (xd : Int), .int .i64 ce, .int .i64 (xf : Int)] y zd := hb
   clear hb
   refine tq 4 31 ?_
   refine tq 5 32 ?_
   refine tq 6 33 ?_
   refine tq 7 34 ?_
   refine tq 8 35 ?_
   refine tq 9 36 ?_
   refine tq 10 37 ?_
   refine wpAnyH_take (i := 11) (by rfl) (by kernel_rfl) (by kernel_rfl) (by kernel_rfl) (by intro _ _ _ h; exact h) (Or.inr ⟨by kernel_rfl, rfl⟩) (by assumption) ?rest25
   change wpAnyH _ _ _ _ _ _ _ (Act.put _ (some 38) _) _
   try simp only [Act.put, List.setIfInBounds_toArray, List.set_cons_zero, List.set_cons_succ]
   refine wpAnyH_take (i := 12) (by rfl) (by kernel_rfl) (by kernel_rfl) (by kernel_rfl) (by intro _ _ _ h; exact h) (Or.inr ⟨by kernel_rfl, rfl⟩) (by assumption) ?rest26
   change wpAnyH _ _ _ _ _ _ _ (Act.put _ (some 39) _) _
   try simp only [Act.put, List.setIfInBounds_toArray, List.set_cons_zero, List.set_cons_succ]
   refine tq 13 40 ?_
   refine tq 14 4 ?_
   refine rd1 15 (fun K hK => ?_)
   refine step_st (ds := #[.int .i64 (xb : Int), .int .i64 (xd : Int), .int .i64 ce, .int .i64 (xf : Int)]) rfl stM hHeld.2 rfl (by simp [Value.oneCell']) _ _ rfl rfl rfl rfl ?_
   intro yF hBF hMF
   have hb : HB1 57 X #[.int .i64 (xb : Int), .int .i64 (xd : Int), .int .i64 ce, .int .i64 (xf : Int)] y yF := ⟨hHeld.1.trans hMF (fun x h _ => h), hBF⟩
   clear hBF hMF
   refine bkm hK hb ?_
   clear hK K hHeld
   have hHeld : HB1 57 X #[.int .i64 (xb : Int), .int .i64 (xd : Int), .int .i64 ce, .int .i64 (xf : Int)] y yF := hb
   clear hb
   refine tq 16 6 ?_
   refine wpAnyH_done (by kernel_rfl) ?_ _
   refine NoPanic.normal ?_
   have HF := Lib.hid (show yF.cell? ⟨X, 0, none⟩ = some (.int .i64 (xb : Int)) ∧ yF.cell? ⟨X, 1, none⟩ = some (.int .i64 (xd : Int)) ∧ yF.cell? ⟨X, 2, none⟩ = some (.int .i64 ce) ∧ yF.cell? ⟨X, 3, none⟩ = some (.int .i64 (xf : Int)) from ⟨by rw [hHeld.2.cell]; rfl, by rw [hHeld.2.cell]; rfl, by rw [hHeld.2.cell]; rfl, by rw [hHeld.2.cell]; rfl⟩)
   have HKF := Lib.hid (hHeld.1.keeps HKy.out (fun x hx => by rw [hx, ← HXX.out]; exact Nat.le_refl _))
   clear hHeld
   go_wp2_with fail
   exact bodyPost_ret (v := .tuple #[.int .i64 (xa : Int), .agg #[.int .i64 (xb : Int), .int .i64 (xd : Int), .int .i64 ce, .int .i64 (xf : Int)], .bool false]) (by simp [results, Tryz.results160, go_sem, HF.out.1, HF.out.2.1, HF.out.2.2.1, HF.out.2.2.2]) rfl ⟨by rw [HOK.out]; rfl, HKF.out⟩
 ·have HOK := Lib.hid (show ok = false from by rw [HO.out, decide_eq_false hsf]; simp)
  refine wp_region_noPanic ?_
  refine wp_region_held_drew (S := fun w' => HB1 57 X #[.int .i64 (xb : Int), .int .i64 (xd : Int), .int .i64 ce, .int .i64 (xf : Int)] y w') (by kernel_rfl) ((⟨(Mods.refl (· = X) y).drew, HX0.out⟩ : HB1 57 X #[.int .i64 (xb : Int), .int .i64 (xd : Int), .int .i64 ce, .int .i64 (xf : Int)] y y.drew)) (fun _ => ?_)
  have hHeld : HB1 57 X #[.int .i64 (xb : Int), .int .i64 (xd : Int), .int .i64 ce, .int .i64 (xf : Int)] y (y).drew := (⟨(Mods.refl (· = X) y).drew, HX0.out⟩ : HB1 57 X #[.int .i64 (xb : Int), .int .i64 (xd : Int), .int .i64 ce, .int .i64 (xf : Int)] y y.drew)
  generalize World.drew y = xs at *
  refine tq 0 27 ?_
  refine tq 1 28 ?_ (hy := fun w' hSw => by
   have hSw : HB1 57 X #[.int .i64 (xb : Int), .int .i64 (xd : Int), .int .i64 ce, .int .i64 (xf : Int)] y w' := hSw
   have h0 := hSw.2.cell 0
   have h1 := hSw.2.cell 1
   have h2 := hSw.2.cell 2
   have h3 := hSw.2.cell 3
   simp only [List.getElem?_toArray, List.getElem?_cons_zero, List.getElem?_cons_succ] at h0 h1 h2 h3
   clear hSw
   go_simp
   try with_reducible rfl)
  refine tq 2 29 ?_
  refine rd1 3 (fun K hK => ?_)
  go_simp
  refine (srcODone HSd.out).mono ?_
  rintro e zd ⟨er, rfl, her, hk⟩
  have e1 : (er == 0) = false := by simpa using fun h => hsf (her.2 h)
  have hb := hHeld.keeps hk
  clear hk her
  go_wp2_with fail
  refine bkm hK hb ?_
  clear hK K hHeld
  have hHeld : HB1 57 X #[.int .i64 (xb : Int), .int .i64 (xd : Int), .int .i64 ce, .int .i64 (xf : Int)] y zd := hb
  clear hb
  refine tq 4 31 ?_
  refine tq 5 32 ?_
  refine wpAnyH_take (i := 6) (by rfl) (by kernel_rfl) (by kernel_rfl) (by kernel_rfl) (by intro _ _ _ h; exact h) (Or.inr ⟨by kernel_rfl, rfl⟩) (by assumption) ?rest35
  change wpAnyH _ _ _ _ _ _ _ (Act.put _ (some 33) _) _
  try simp only [Act.put, List.setIfInBounds_toArray, List.set_cons_zero, List.set_cons_succ]
  refine wpAnyH_take (i := 7) (by rfl) (by kernel_rfl) (by kernel_rfl) (by kernel_rfl) (by intro _ _ _ h; exact h) (Or.inr ⟨by kernel_rfl, rfl⟩) (by assumption) ?rest36
  change wpAnyH _ _ _ _ _ _ _ (Act.put _ (some 34) _) _
  try simp only [Act.put, List.setIfInBounds_toArray, List.set_cons_zero, List.set_cons_succ]
  refine wpAnyH_take (i := 8) (by rfl) (by kernel_rfl) (by kernel_rfl) (by kernel_rfl) (by intro _ _ _ h; exact h) (Or.inr ⟨by kernel_rfl, rfl⟩) (by assumption) ?rest37
  change wpAnyH _ _ _ _ _ _ _ (Act.put _ (some 35) _) _
  try simp only [Act.put, List.setIfInBounds_toArray, List.set_cons_zero, List.set_cons_succ]
  refine tq 9 36 ?_
  refine tq 10 37 ?_
  refine wpAnyH_take (i := 11) (by rfl) (by kernel_rfl) (by kernel_rfl) (by kernel_rfl) (by intro _ _ _ h; exact h) (Or.inr ⟨by kernel_rfl, rfl⟩) (by assumption) ?rest40
  change wpAnyH _ _ _ _ _ _ _ (Act.put _ (some 38) _) _
  try simp only [Act.put, List.setIfInBounds_toArray, List.set_cons_zero, List.set_cons_succ]
  refine wpAnyH_take (i := 12) (by rfl) (by kernel_rfl) (by kernel_rfl) (by kernel_rfl) (by intro _ _ _ h; exact h) (Or.inr ⟨by kernel_rfl, rfl⟩) (by assumption) ?rest41
  change wpAnyH _ _ _ _ _ _ _ (Act.put _ (some 39) _) _
  try simp only [Act.put, List.setIfInBounds_toArray, List.set_cons_zero, List.set_cons_succ]
  refine tq 13 40 ?_
  refine tq 14 4 ?_
  refine rd1 15 (fun K hK => ?_)
  refine step_st (ds := #[.int .i64 (xb : Int), .int .i64 (xd : Int), .int .i64 ce, .int .i64 (xf : Int)]) rfl stM hHeld.2 rfl (by simp [Value.oneCell']) _ _ rfl rfl rfl rfl ?_
  intro yF hBF hMF
  have hb : HB1 57 X #[.int .i64 (xb : Int), .int .i64 (xd : Int), .int .i64 ce, .int .i64 (xf : Int)] y yF := ⟨hHeld.1.trans hMF (fun x h _ => h), hBF⟩
  clear hBF hMF
  refine bkm hK hb ?_
  clear hK K hHeld
  have hHeld : HB1 57 X #[.int .i64 (xb : Int), .int .i64 (xd : Int), .int .i64 ce, .int .i64 (xf : Int)] y yF := hb
  clear hb
  refine tq 16 6 ?_
  refine wpAnyH_done (by kernel_rfl) ?_ _
  refine NoPanic.normal ?_
  have HF := Lib.hid (show yF.cell? ⟨X, 0, none⟩ = some (.int .i64 (xb : Int)) ∧ yF.cell? ⟨X, 1, none⟩ = some (.int .i64 (xd : Int)) ∧ yF.cell? ⟨X, 2, none⟩ = some (.int .i64 ce) ∧ yF.cell? ⟨X, 3, none⟩ = some (.int .i64 (xf : Int)) from ⟨by rw [hHeld.2.cell]; rfl, by rw [hHeld.2.cell]; rfl, by rw [hHeld.2.cell]; rfl, by rw [hHeld.2.cell]; rfl⟩)
  have HKF := Lib.hid (hHeld.1.keeps HKy.out (fun x hx => by rw [hx, ← HXX.out]; exact Nat.le_refl _))
  clear hHeld
  go_wp2_with fail
  exact bodyPost_ret (v := .tuple #[.int .i64 (xa : Int), .agg #[.int .i64 (xb : Int), .int .i64 (xd : Int), .int .i64 ce, .int .i64 (xf : Int)], .bool false]) (by simp [results, Tryz.results160, go_sem, HF.out.1, HF.out.2.1, HF.out.2.2.1, HF.out.2.2.2]) rfl ⟨by rw [HOK.out]; rfl, HKF.out⟩
end Env
end Go.Proofs.YtcleakjjefmmbaaGreat

/- envel.readEnv's variables in memory. -/
namespace Go.Proofs.YtcleakjjefmmbaaGreat
open Go.RowKit
namespace Env
open Adr (Str)
open Frm (ownsRow_keeps ownsRow_mods ownsRow_ne ownsRow_form ownsRow_ty)
abbrev jobC (id arr : Int) (fl fd : Str) (vt : Value) : Array Value := #[.int .i64 id, .int .i64 arr, .string (bstr fl), .string (bstr fd), vt, .slice none 0 0, .slice none 0 0]
structure EnvSt (w wr : World) (J B g : Nat) (l : Str) (σ : Option Nat) (id arr : Int) (fl fd : Str) (vt : Value) (T : List TgP) : Prop where
 src : SrcO w wr g l σ
 job : Blk wr J 55 (jobC id arr fl fd vt)
 var : Blk wr B 260 #[.pointer (some ⟨g, 0, none⟩)]
 own : wr.ownsRow w.heap.size 75 3 vt T.length (T.flatMap tgC)
 jg : J ≠ g
 jb : J ≠ B
 bg : B ≠ g
 jw : w.heap.size ≤ J
 gs : ∃ cs, Blk wr g 302 cs
section
variable {w wr wr' : World} {J B g : Nat} {l : Str} {σ σ' : Option Nat} {id arr : Int} {fl fd : Str} {vt : Value} {T : List TgP}
theorem EnvSt.kept (h : EnvSt w wr J B g l σ id arr fl fd vt T) (k : Keeps wr wr') : EnvSt w wr' J B g l σ id arr fl fd vt T :=
 ⟨h.src.kept k, h.job.keeps k, h.var.keeps k, ownsRow_keeps h.own k, h.jg, h.jb, h.bg, h.jw, let ⟨cs, hc⟩ := h.gs; ⟨cs, hc.keeps k⟩⟩
theorem SrcO.blk {w wr : World} (h : SrcO w wr g l σ) : ∃ cs, Blk wr g 302 cs := let ⟨_, _, _, h, _⟩ := h; ⟨_, h.blk⟩
/-- behind a call that turns the source alone -/
theorem EnvSt.did (h : EnvSt w wr J B g l σ id arr fl fd vt T) (hs : SrcO w wr' g l σ') (k : Mods (· = g) wr wr') : EnvSt w wr' J B g l σ' id arr fl fd vt T :=
 ⟨hs, h.job.mods k h.jg, h.var.mods k h.bg, ownsRow_mods h.own k (fun x hx e => by
  obtain ⟨cs, hc⟩ := h.gs
  exact ownsRow_ne h.own hc (by decide) (by rw [hx, e])), h.jg, h.jb, h.bg, h.jw, SrcO.blk hs⟩
/-- the job's variable is written -/
theorem EnvSt.write (h : EnvSt w wr J B g l σ id arr fl fd vt T) (k : Mods (· = J) wr wr') {id' arr' : Int} {fl' fd' : Str} (hJ : Blk wr' J 55 (jobC id' arr' fl' fd' vt)) : EnvSt w wr' J B g l σ id' arr' fl' fd' vt T :=
 ⟨h.src.modsB k (fun x hx => by
  subst hx
  exact ⟨h.jw, h.jg, fun cs fr hh => by have h2 := h.job; unfold Blk at h2; rw [h2] at hh; simp at hh⟩), hJ, h.var.mods k h.jb.symm, ownsRow_mods h.own k (fun x hx e => ownsRow_ne h.own h.job (by decide) (by rw [hx, e])), h.jg, h.jb, h.bg, h.jw, let ⟨cs, hc⟩ := h.gs; ⟨cs, hc.mods k h.jg.symm⟩⟩
/-- behind an append of a target, ahead of its store -/
theorem EnvSt.grown (h : EnvSt w wr J B g l σ id arr fl fd vt T) {vt' : Value} {t : TgP} {wa : World} (k : Keeps wr wa) (hg : wa.grownBy wr' vt.ownBlock) (ho : wr'.ownsRow w.heap.size 75 3 vt' (T.length + 1) (T.flatMap tgC ++ tgC t)) :
  EnvSt w (wr'.setCell ⟨J, 4, none⟩ vt') J B g l σ id arr fl fd vt' (T ++ [t]) := by
 have h1 := h.kept k
 have hM : Mods (fun x => vt.ownBlock = some x) wa wr' := (Mods.refl _ wa).grown hg (fun k hk _ => hk)
 have hnJ : vt.ownBlock ≠ some J := ownsRow_ne h1.own h1.job (by decide)
 obtain ⟨cs, hc⟩ := h1.gs
 have hng : vt.ownBlock ≠ some g := ownsRow_ne h1.own hc (by decide)
 have hnB : vt.ownBlock ≠ some B := ownsRow_ne h1.own h1.var (by decide)
 have hnJ' : vt'.ownBlock ≠ some J := ownsRow_ne ho (h1.job.mods hM hnJ) (by decide)
 have hS1 : SrcO w wr' g l σ := h1.src.modsB hM (fun x hx => ⟨Frm.ownsRow_base h1.own x hx, fun e => hng (by rw [hx, e]), fun cs fr => ownsRow_ty h1.own (by decide) x hx cs fr⟩)
 have hM2 : Mods (· = J) wr' (wr'.setCell ⟨J, 4, none⟩ vt') := (Mods.refl (· = J) wr').setCell (p := ⟨J, 4, none⟩) (fun _ => rfl) vt'
 have hJ1 := h1.job.mods hM hnJ
 refine ⟨hS1.modsB hM2 (fun x hx => by
  subst hx
  exact ⟨h.jw, h.jg, fun cs fr hh => by have h2 := hJ1; unfold Blk at h2; rw [h2] at hh; simp at hh⟩), hJ1.set_ 4 vt', (h1.var.mods hM hnB).mods hM2 h.jb.symm, ?_, h.jg, h.jb, h.bg, h.jw, ⟨cs, (hc.mods hM hng).mods hM2 h.jg.symm⟩⟩
 have := ownsRow_mods ho hM2 (fun x hx e => hnJ' (by rw [hx, e]))
 simpa using this
end
theorem tgok : ElemOkS Tryz.prog 51 75 3 40 := elemOkS (z := .agg #[.int .i64 0, .string ⟨#[]⟩, .string ⟨#[]⟩]) Tryz.underlying51 (by kernel_rfl) rfl
theorem SrcO.lower {W W1 w : World} {g : Nat} {l : Str} {σ : Option Nat} (h : SrcO W1 w g l σ) (k : Keeps W W1) : SrcO W w g l σ := by
 obtain ⟨v, a, er, h1, h2, h3, h4, h5⟩ := h
 exact ⟨v, a, er, h1, h2, h3, Nat.le_trans k.size h4, k.trans h5⟩
theorem capId_if (v : Nat) : (if (1099511627777 : Int) < (v : Int) then (1099511627777 : Int) else (v : Int)) = capI capId v := by
 unfold capI capId
 split <;> split <;> omega
theorem capId_le (v : Nat) : 0 ≤ capI capId v ∧ capI capId v ≤ 1099511627777 := by
 unfold capI capId
 split <;> omega
end Env
end Go.Proofs.YtcleakjjefmmbaaGreat

/- txlog.begin, commit. -/
namespace Go.Proofs.YtcleakjjefmmbaaGreat
open Go.RowKit
namespace Txl
open Oct Frm
def numP (l : List UInt8) : Nat := if 8 ≤ l.length then Oct.valOf (l.take 8) else 0
theorem u8 (l : List UInt8) : uE l.length 0 0 8 = (if 8 ≤ l.length then 0 else 2) ∧ uA l.length 0 0 8 = (if 8 ≤ l.length then 8 else 0) ∧ uV l 0 0 8 = numP l := by
 have hE : uE l.length 0 0 8 = if 8 ≤ l.length then 0 else 2 := by
  unfold uE
  rw [if_neg (by simp), if_neg (by simp [okk])]
  by_cases h : 8 ≤ l.length
  ·rw [if_neg (by omega), if_pos h]
  ·rw [if_pos (by omega), if_neg h]
 refine ⟨hE, ?_, ?_⟩
 ·unfold uA
  rw [hE]
  split <;> simp
 ·unfold uV numP
  rw [hE]
  by_cases h : 8 ≤ l.length
  ·rw [if_pos h, if_pos h, if_pos rfl]
   unfold getV
   rw [if_pos (by simp [getB, okk]; omega)]
   rfl
  ·rw [if_neg h, if_neg h, if_neg (by decide)]
end Txl
end Go.Proofs.YtcleakjjefmmbaaGreat

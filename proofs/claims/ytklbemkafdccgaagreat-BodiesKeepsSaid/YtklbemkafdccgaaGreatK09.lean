/- Several texts in one: FrameRowPlain, RecPayPlain, FrameBackPlain, EnPlain, FrameRefAtPlain, TxPlain, FrameCutPlain. -/
import Derived.Test.YtklbemkafdccgaaGreatFrameAtPlain
import Derived.Test.YtklbemkafdccgaaGreatK00
import Derived.Test.YtklbemkafdccgaaGreatK01
/- Row and Scan: plain. No program. -/
namespace Go.Proofs.YtklbemkafdccgaaGreat.Frm
open Oct

theorem take_pre {r v d : List UInt8} (h : r = v ++ d) : r.take v.length = v := by rw [h, List.take_left]
theorem inner_used {r : List UInt8} (h : (inner r).1 = 0) : (inner r).2.2 ≤ r.length ∧ (inner r).2.1.length ≤ (inner r).2.2 ∧ 9 ≤ (inner r).2.1.length ∧ r.take (inner r).2.2 = veil (inner r).2.1 := by
 unfold inner at h ⊢
 split at h
 ·rename_i h5; exact absurd h h5
 ·rename_i h5
  rw [if_neg h5]
  split at h
  ·simp at h
  ·rename_i hb
   rw [if_neg hb]
   split at h
   ·rename_i h9; exact absurd h h9
   ·rename_i h9
    rw [if_neg h9]
    split at h
    ·simp at h
    ·rename_i hs
     rw [if_neg hs]
     obtain ⟨h1, h2, h3⟩ := rdN_veil _ h
     have := rdN_used h
     have hv := (veil_len (rdN (9 + headN (rdN 5 r).2.1) r).2.1).1
     refine ⟨this, by omega, by omega, ?_⟩
     rw [h3]
     exact take_pre h2

theorem atE_ok {l : List UInt8} {a : Nat} (h : atE l a = 0) : ∃ c r, l.drop a = c :: r ∧ c = 80 ∧ (inner r).1 = 0 ∧ a < l.length ∧ atF l a = ⟨a, 1 + (inner r).2.2, ((inner r).2.1.headD 0).toNat, (inner r).2.1.drop 9⟩ := by
 have hF : atF l a = match l.drop a with | [] => ⟨0, 0, 0, []⟩ | _ :: r => ⟨a, 1 + (inner r).2.2, ((inner r).2.1.headD 0).toNat, (inner r).2.1.drop 9⟩ := by
  unfold atF; rw [if_pos h, Int.toNat_natCast]; cases l.drop a <;> rfl
 unfold atE at h
 split at h
 ·simp at h
 ·rename_i h1
  rw [Int.toNat_natCast] at h
  cases hd : l.drop a with
  |nil => rw [hd] at h; simp at h
  |cons c r =>
   rw [hd] at h hF
   simp only at h hF
   split at h
   ·simp at h
   ·rename_i hc
    have hlt : a < l.length := by
     rcases Nat.lt_or_ge a l.length with h' | h'
     ·exact h'
     ·rw [List.drop_of_length_le h'] at hd; cases hd
    exact ⟨c, r, rfl, Classical.not_not.1 hc, h, hlt, hF⟩
theorem atE_len {l : List UInt8} {a : Nat} (h : atE l a = 0) : 10 ≤ (atF l a).len ∧ (a : Int) + (atF l a).len ≤ l.length ∧ 0 ≤ (atF l a).len := by
 obtain ⟨c, r, hd, -, hi, hlt, hF⟩ := atE_ok h
 obtain ⟨h1, h2, h3, -⟩ := inner_used hi
 have := congrArg List.length hd
 rw [List.length_drop, List.length_cons] at this
 rw [hF]
 simp only
 omega
theorem atE_pay {l : List UInt8} {a : Nat} (h : atE l a = 0) : (atF l a).pay.length ≤ l.length := by
 obtain ⟨c, r, hd, -, hi, hlt, hF⟩ := atE_ok h
 obtain ⟨h1, h2, h3, -⟩ := inner_used hi
 have := congrArg List.length hd
 rw [List.length_drop, List.length_cons] at this
 rw [hF]
 simp only [List.length_drop]
 omega

def rowN (l : List UInt8) : Nat → Nat → List Fr1 × Nat × Int
 | 0, u => ([], u, 0)
 |k + 1, u => if u < l.length then (if atE l u = 0 then (atF l u :: (rowN l k (u + (atF l u).len.toNat)).1, (rowN l k (u + (atF l u).len.toNat)).2) else ([], u, atE l u)) else ([], u, 0)
def rowR (l : List UInt8) : List Fr1 × Nat × Int := rowN l l.length 0
structure Gap1 where
 fro : Int
 to : Int
/-- the frames and the gaps from a place on; the open gap began at g -/
def scanN (l : List UInt8) : Nat → Nat → Nat → List Fr1 × List Gap1
 | 0, g, u => ([], if g < u then [⟨g, u⟩] else [])
 |k + 1, g, u => if u < l.length then
   (if atE l u = 0 then (atF l u :: (scanN l k (u + (atF l u).len.toNat) (u + (atF l u).len.toNat)).1, (if g < u then [⟨g, u⟩] else []) ++ (scanN l k (u + (atF l u).len.toNat) (u + (atF l u).len.toNat)).2) else scanN l k g (u + 1))
  else ([], if g < u then [⟨g, u⟩] else [])
def scanR (l : List UInt8) : List Fr1 × List Gap1 := scanN l l.length 0 0
theorem scanN_end {l : List UInt8} {k g u : Nat} (h : ¬ u < l.length) : scanN l k g u = ([], if g < u then [⟨g, u⟩] else []) := by
 cases k <;> simp [scanN, h]
theorem scanN_err {l : List UInt8} {k g u : Nat} (h : u < l.length) (he : atE l u ≠ 0) : scanN l (k + 1) g u = scanN l k g (u + 1) := by simp [scanN, h, he]
theorem scanN_ok {l : List UInt8} {k g u : Nat} (h : u < l.length) (he : atE l u = 0) : scanN l (k + 1) g u = (atF l u :: (scanN l k (u + (atF l u).len.toNat) (u + (atF l u).len.toNat)).1, (if g < u then [⟨g, u⟩] else []) ++ (scanN l k (u + (atF l u).len.toNat) (u + (atF l u).len.toNat)).2) := by simp [scanN, h, he]
end Go.Proofs.YtklbemkafdccgaaGreat.Frm

/- Records, plain: their payloads and frames, and what is read of bytes. No program. -/
namespace Go.Proofs.YtklbemkafdccgaaGreat.Rcd
open Oct Frm

def numsL (r : Rec) (ps : List Part) : List UInt8 := ps.flatMap fun p => be p.width.toNat (fld r p.off).toNat
def payL (r : Rec) : List UInt8 := numsL r (partsL r.kind) ++ r.data
def payO (r : Rec) : List UInt8 := if chk r = 0 then payL r else []
def frmL (r : Rec) : List UInt8 := if chk r = 0 then wrapL r.kind (payL r) else []

theorem bare_data {r : Rec} (h : r.kind ≠ 6) (h1 : 1 ≤ r.kind ∧ r.kind ≤ 6 := by assumption) : (bare r).data = [] := by
 unfold bare
 repeat' split
 all_goals first | rfl | omega
theorem bare_six {r : Rec} (h : r.kind = 6) : (bare r).data = r.data := by
 unfold bare
 repeat' split
 all_goals first | rfl | omega
theorem part_ok {k : Int} : ∀ p ∈ partsL k, 1 ≤ p.width ∧ p.width ≤ 8 ∧ 0 ≤ p.low ∧ p.high < ((256 ^ p.width.toNat : Nat) : Int) ∧ p.high ≤ 9007199254740992 := by
 unfold partsL
 repeat' split
 all_goals decide
theorem part_pos {k : Int} : ∀ p ∈ partsL k, 0 ≤ p.high := by
 unfold partsL
 repeat' split
 all_goals decide
theorem chk_zero {r : Rec} (h : chk r = 0) : (1 ≤ r.kind ∧ r.kind ≤ 6) ∧ (∀ p ∈ partsL r.kind, okP r p = true) ∧ r = bare r ∧ r.data.length ≤ 32768 ∧ (r.kind ≠ 6 → r.data = []) := by
 unfold chk at h
 by_cases h1 : r.kind < 1 ∨ 6 < r.kind
 ·rw [if_pos h1] at h; omega
 rw [if_neg h1] at h
 by_cases h2 : within r = false
 ·rw [if_pos h2] at h; omega
 rw [if_neg h2] at h
 by_cases h3 : r.kind = 6 ∧ 32768 < r.data.length
 ·rw [if_pos h3] at h; omega
 rw [if_neg h3] at h
 by_cases h4 : r = bare r
 ·have hk : 1 ≤ r.kind ∧ r.kind ≤ 6 := by omega
  have hd : r.kind ≠ 6 → r.data = [] := fun h6 => by rw [h4]; exact bare_data h6 hk
  refine ⟨hk, ?_, h4, ?_, hd⟩
  ·have : within r = true := by simpa using h2
   unfold within at this
   rw [List.all_eq_true] at this
   exact this
  ·by_cases h6 : r.kind = 6
   ·omega
   ·rw [hd h6]; simp
 ·rw [if_neg h4] at h; omega
theorem numsL_next (r : Rec) {l : List Part} {j : Nat} (h : j < l.length) : numsL r (l.take (j + 1)) = numsL r (l.take j) ++ be l[j].width.toNat (fld r l[j].off).toNat := by
 rw [List.take_succ_eq_append_getElem h]
 simp only [numsL, List.flatMap_append, List.flatMap_cons, List.flatMap_nil, List.append_nil]
theorem numsL_len (r : Rec) (l : List Part) (h : ∀ p ∈ l, p.width ≤ 8) : (numsL r l).length ≤ 8 * l.length := by
 induction l with
 |nil => simp [numsL]
 |cons p l ih =>
  have := ih (fun q hq => h q (by simp [hq]))
  have := h p (by simp)
  simp only [numsL, List.flatMap_cons, List.length_append, be_length, List.length_cons] at *
  omega
theorem putL_fld {x : Int} {w : Int} (h0 : 0 ≤ x) (hw : 1 ≤ w ∧ w ≤ 8) (hx : x < ((256 ^ w.toNat : Nat) : Int)) : putL x.toNat w = be w.toNat x.toNat := by
 have hx' : x.toNat < 256 ^ w.toNat := by omega
 unfold putL putB okk
 rw [decide_eq_true hw, decide_eq_true hx']
 rfl
end Go.Proofs.YtklbemkafdccgaaGreat.Rcd

/- What was wrapped is read: plain. No program. -/
namespace Go.Proofs.YtklbemkafdccgaaGreat.Frm
open Oct

theorem getV_mid {l a b c : List UInt8} {n k : Nat} (h : l = a ++ (b ++ c)) (hn : n = a.length) (hk : k = b.length) (h1 : 1 ≤ k) (h8 : k ≤ 8) : getV l n k = Oct.valOf b := by
 subst hn hk h
 have hb : getB (a ++ (b ++ c)) a.length b.length = true := by simp [getB, okk]; omega
 rw [getV_nat hb, List.drop_left, List.take_left]
theorem front_head (k : Nat) {n : Nat} (hn : n < 4294967296) : headN (front k n) = n := by
 unfold headN front
 have := getV_mid (l := be 1 k ++ be 4 n) (a := be 1 k) (b := be 4 n) (c := []) (n := 1) (k := 4) (by simp) (by rw [be_length]) (by rw [be_length]) (by omega) (by omega)
 rw [show (((1 : Nat) : Int)) = 1 from rfl, show (((4 : Nat) : Int)) = 4 from rfl] at this
 rw [this, valOf_be]
 omega
theorem sumN_lt (k : Nat) (p : List UInt8) : sumN k p < 4294967296 := by
 exact Crc.more_lt _ _
theorem inner_put {k : Nat} {p : List UInt8} (hp : p.length ≤ 65536) (r : List UInt8) : inner (veil (body k p) ++ r) = (0, body k p, (veil (body k p)).length) := by
 have hB : body k p = front k p.length ++ (be 4 (sumN k p) ++ p) := rfl
 have h5 : rdN 5 (veil (body k p) ++ r) = (0, front k p.length, (veil (front k p.length)).length) := by
  have := rdN_put (front k p.length) (veil (be 4 (sumN k p) ++ p) ++ r)
  rw [front_len, ← List.append_assoc, ← veil_append, ← hB] at this
  exact this
 have hH : headN (front k p.length) = p.length := front_head k (by omega)
 have h9 : rdN (9 + p.length) (veil (body k p) ++ r) = (0, body k p, (veil (body k p)).length) := by
  have := rdN_put (body k p) r
  rwa [body_len] at this
 have ht : (body k p).take 5 = front k p.length := by
  rw [hB]; exact List.take_left' (front_len _ _)
 have hd : (body k p).drop 9 = p := by
  rw [hB, ← List.append_assoc]; exact List.drop_left' (by rw [List.length_append, front_len, be_length])
 have hg : getV (body k p) 5 4 = sumN k p := by
  have := getV_mid (l := body k p) (a := front k p.length) (b := be 4 (sumN k p)) (c := p) (n := 5) (k := 4) hB (by rw [front_len]) (by rw [be_length]) (by omega) (by omega)
  rw [show (((5 : Nat) : Int)) = 5 from rfl, show (((4 : Nat) : Int)) = 4 from rfl] at this
  rw [this, valOf_be]
  exact Nat.mod_eq_of_lt (sumN_lt k p)
 unfold inner
 rw [h5]
 simp only [ne_eq, not_true_eq_false, if_false]
 rw [hH, if_neg (by omega), h9]
 simp only [not_true_eq_false, if_false]
 rw [ht, hd, hg, if_neg]
 simp [sumN]
theorem be_one (k : Nat) : be 1 k = [UInt8.ofNat k] := by
 show [UInt8.ofNat (k % 256)] = _
 congr 1
 exact UInt8.toNat_inj.1 (by rw [UInt8.toNat_ofNat', UInt8.toNat_ofNat']; omega)
theorem wrapL_ok {k : Nat} {p : List UInt8} (hk : k ≤ 255) (hp : p.length ≤ 65536) : wrapE k p.length = 0 ∧ wrapL k p = 80 :: veil (body k p) := by
 have h : wrapE k p.length = 0 := by unfold wrapE; rw [if_neg (by omega), if_neg (by omega)]
 exact ⟨h, by unfold wrapL; rw [if_pos h, Int.toNat_natCast]⟩
theorem at_put {l r : List UInt8} {a k : Nat} {p : List UInt8} (hk : k ≤ 255) (hp : p.length ≤ 65536) (hd : l.drop a = wrapL k p ++ r) : atE l a = 0 ∧ atF l a = ⟨a, (wrapL k p).length, k, p⟩ := by
 obtain ⟨-, hw⟩ := wrapL_ok hk hp
 rw [hw, List.cons_append] at hd
 have hlt : a < l.length := by
  rcases Nat.lt_or_ge a l.length with h' | h'
  ·exact h'
  ·rw [List.drop_of_length_le h'] at hd; cases hd
 have hi := inner_put (k := k) hp r
 have hE : atE l a = 0 := by
  unfold atE
  rw [if_neg (by omega), Int.toNat_natCast, hd]
  simp [hi]
 refine ⟨hE, ?_⟩
 unfold atF
 rw [if_pos hE, Int.toNat_natCast, hd]
 simp only [hi]
 rw [hw]
 have hh : ((body k p).headD 0).toNat = k := by
  have : body k p = UInt8.ofNat k :: (be 4 p.length ++ (be 4 (sumN k p) ++ p)) := by
   simp [body, front, be_one]
  rw [this]
  simp only [List.headD_cons]
  rw [UInt8.toNat_ofNat']; omega
 have hdp : (body k p).drop 9 = p := by
  show (front k p.length ++ (be 4 (sumN k p) ++ p)).drop 9 = p
  rw [← List.append_assoc]; exact List.drop_left' (by rw [List.length_append, front_len, be_length])
 rw [hh, hdp]
 simp; omega
end Go.Proofs.YtklbemkafdccgaaGreat.Frm

/- envel, plain: jobs, states, what is right, the bytes, the reading. -/
namespace Go.Proofs.YtklbemkafdccgaaGreat.Env
open Adr (Str goodB)
open Oct (be putL putB okk be_length be_get)
open Frm (Fr1 wrapL wrapE)
structure TgP where
 u : Int
 l : Str
 d : Str
deriving DecidableEq
structure StP where
 s : Int
 t : Int
 d : Int
 c : Int
deriving DecidableEq
structure JobP where
 id : Int
 arr : Int
 fl : Str
 fd : Str
 tos : List TgP
 st : List StP
 body : Str
deriving DecidableEq
def inB (n a b : Int) : Bool := decide (a ≤ n) && decide (n ≤ b)
def maxT : Int := 4503599627370496
def goodStB (x : StP) : Bool := inB x.s 0 3 && inB x.t 0 65535 && inB x.d 0 maxT && (decide (x.c = 0) || inB x.c 200 599)
def freshS (a : Int) : StP := ⟨0, 0, a, 0⟩
def fromB (j : JobP) : Bool := (decide (j.fl = []) && decide (j.fd = [])) || goodB j.fl j.fd
def tgB (t : TgP) : Bool := inB t.u 1 999 && goodB t.l t.d
/-- no user twice, each target right; p: the users ahead -/
def tgsB : List Int → List TgP → Bool
 | _, [] => true
 |p, t :: r => !decide (t.u ∈ p) && tgB t && tgsB (t.u :: p) r
def envB (j : JobP) : Bool := inB j.id 1 1099511627776 && inB j.arr 0 maxT && inB j.tos.length 1 20 && fromB j && tgsB [] j.tos
def goodJ (j : JobP) : Bool := envB j && decide (j.st.length = j.tos.length) && decide (j.body.length ≤ 32768) && j.st.all goodStB
/-- a number's, a text's bytes -/
def textB (s : Str) : Str := be 4 s.length ++ s
def tgL (t : TgP) : Str := be 2 t.u.toNat ++ textB t.l ++ textB t.d
def envL (j : JobP) : Str := be 8 j.id.toNat ++ be 8 j.arr.toNat ++ textB j.fl ++ textB j.fd ++ be 1 j.tos.length ++ j.tos.flatMap tgL
def stepP (k : Nat) (x : StP) : Str := be 1 k ++ be 1 x.s.toNat ++ be 2 x.t.toNat ++ be 8 x.d.toNat ++ be 2 x.c.toNat
def stepE (k : Int) (x : StP) : Int := if inB k 0 19 = false then 1 else if goodStB x = false then 3 else 0
def stepL (k : Int) (x : StP) : Str := if stepE k x = 0 then wrapL 18 (stepP k.toNat x) else []
/-- the states' frames from number i on -/
def stsL (arr : Int) : Nat → List StP → Str
 | _, [] => []
 |i, x :: r => (if x = freshS arr then [] else stepL i x) ++ stsL arr (i + 1) r
def bytesL (j : JobP) : Str := if goodJ j then wrapL 16 (envL j) ++ wrapL 17 j.body ++ stsL j.arr 0 j.st else []
def bytesE (j : JobP) : Int := if goodJ j then 0 else 3
/-! ### reading -/
/-- a number of k bytes at a place; none: something lacked -/
def uR (l : Str) (k : Nat) : Option Nat → Nat × Option Nat
 |none => (0, none)
 |some a => if a + k ≤ l.length then (Oct.valOf ((l.drop a).take k), some (a + k)) else (0, none)
def tR (l : Str) (most : Nat) (σ : Option Nat) : Str × Option Nat :=
 match uR l 4 σ with
 |(_, none) => ([], none)
 |(n, some a) => if n ≤ most ∧ a + n ≤ l.length then ((l.drop a).take n, some (a + n)) else ([], none)
def tgR (l : Str) (most : Nat) (σ : Option Nat) : TgP × Option Nat :=
 (⟨(uR l 2 σ).1, (tR l most (uR l 2 σ).2).1, (tR l most (tR l most (uR l 2 σ).2).2).1⟩, (tR l most (tR l most (uR l 2 σ).2).2).2)
def tgsR (l : Str) (most : Nat) : Nat → Option Nat → List TgP × Option Nat
 | 0, σ => ([], σ)
 |n + 1, σ => ((tgR l most σ).1 :: (tgsR l most n (tgR l most σ).2).1, (tgsR l most n (tgR l most σ).2).2)
/-- number, arrival, sender, how many targets, and where they begin -/
def headR (l : Str) (most : Nat) : (Nat × Nat × Str × Str × Nat) × Option Nat :=
 let a := uR l 8 (some 0)
 let b := uR l 8 a.2
 let c := tR l most b.2
 let d := tR l most c.2
 let e := uR l 1 d.2
 ((a.1, b.1, c.1, d.1, e.1), e.2)
def capI (m v : Nat) : Int := if v ≤ m then (v : Int) else (m : Int)
/-- the job of a payload, numbers capped -/
def envR (most c1 c2 : Nat) (l : Str) : JobP × Option Nat :=
 let h := headR l most
 let t := tgsR l most h.1.2.2.2.2 h.2
 (⟨capI c1 h.1.1, capI c2 h.1.2.1, h.1.2.2.1, h.1.2.2.2.1, t.1, [], []⟩, t.2)
def envOk (x : JobP × Option Nat) (l : Str) : Bool := decide (x.2 = some l.length) && envB x.1
def stR (c : Nat) (l : Str) : (Nat × StP) × Option Nat :=
 let a := uR l 1 (some 0)
 let b := uR l 1 a.2
 let d := uR l 2 b.2
 let e := uR l 8 d.2
 let f := uR l 2 e.2
 ((a.1, ⟨b.1, d.1, capI c e.1, f.1⟩), f.2)
def stOk (x : (Nat × StP) × Option Nat) (l : Str) (n : Nat) : Bool := decide (x.2 = some l.length) && decide (x.1.1 < n) && goodStB x.1.2
def capT : Nat := 4503599627370497
def capId : Nat := 1099511627777
/-- the states behind the frames that are steps, and how many bytes they have -/
def stepsR (n : Nat) : List Fr1 → List StP → List StP × Int
 | [], st => (st, 0)
 |f :: r, st => if f.kind = 18 ∧ stOk (stR capT f.pay) f.pay n = true then ((stepsR n r (st.set (stR capT f.pay).1.1 (stR capT f.pay).1.2)).1, f.len + (stepsR n r (st.set (stR capT f.pay).1.1 (stR capT f.pay).1.2)).2) else (st, 0)
def noJob : JobP := ⟨0, 0, [], [], [], [], []⟩
def readF : List Fr1 → JobP × Int × Int
 |f :: g :: r => if f.kind = 16 ∧ g.kind = 17 ∧ g.pay.length ≤ 32768 ∧ envOk (envR 100 capId capT f.pay) f.pay = true then
   let j := (envR 100 capId capT f.pay).1
   let s := stepsR j.tos.length r (List.replicate j.tos.length (freshS j.arr))
   ({ j with st := s.1, body := g.pay }, f.len + g.len + s.2, 0)
  else (noJob, 0, 12)
 | _ => (noJob, 0, 12)
def readR (l : Str) : JobP × Int × Int := readF (Frm.rowR l).1
end Go.Proofs.YtklbemkafdccgaaGreat.Env

/- The reference's At: plain. No program. -/
namespace Go.Proofs.YtklbemkafdccgaaGreat.Frm
open Oct

/-- the answer of the reference's read -/
def rpC (x : Int × UInt8 × Nat) : Int := if x.1 = 0 then x.2.1.toNat else 0
def rpN (a : Nat) (x : Int × UInt8 × Nat) : Int := if x.1 = 0 then (a : Int) + x.2.2 else 0
end Go.Proofs.YtklbemkafdccgaaGreat.Frm
namespace Go.Proofs.YtklbemkafdccgaaGreat.Frm
open Oct
/-- what is to be read, as the reference counts it -/
def ndI (o : List UInt8) : Nat := if o.length ≤ 5 then 9 else 9 + headN o
theorem scanN_count (l : List UInt8) : ∀ k g u, (scanN l k g u).1.length ≤ k ∧ (scanN l k g u).2.length ≤ k + 1 := by
 intro k
 induction k with
 |zero => intro g u; unfold scanN; split <;> simp
 |succ k ih =>
  intro g u
  unfold scanN
  split
  ·split
   ·have := ih (u + (atF l u).len.toNat) (u + (atF l u).len.toNat)
    simp only [List.length_cons, List.length_append]
    split <;> simp <;> omega
   ·have := ih g (u + 1)
    omega
  ·split <;> simp
end Go.Proofs.YtklbemkafdccgaaGreat.Frm

/- A transaction's bytes, plain. -/
namespace Go.Proofs.YtklbemkafdccgaaGreat
open Go.RowKit
namespace Txl
open Oct Frm
def numL (n : Nat) (c : Int) : List UInt8 := be 8 n ++ (if 0 ≤ c then be 2 c.toNat else [])
abbrev Item := List UInt8
def bigB (x : Item) : Bool := decide (4096 < x.length)
def txE (n : Int) (items : List Item) : Int := if n < 1 then 1 else if 1000 < items.length then 4 else if items.any bigB then 4 else 0
def itemsL (items : List Item) : List UInt8 := items.flatMap (wrapL 33)
def headL (n c : Nat) : List UInt8 := wrapL 32 (numL n (c : Int))
def endL (n : Nat) : List UInt8 := wrapL 34 (numL n (-1))
def txL (n : Int) (items : List Item) : List UInt8 := if txE n items = 0 then headL n.toNat items.length ++ itemsL items ++ endL n.toNat else []
end Txl
end Go.Proofs.YtklbemkafdccgaaGreat

/- Frames one behind the other, cut off: plain. No program. -/
namespace Go.Proofs.YtklbemkafdccgaaGreat.Frm
open Oct

/-- frames one behind the other -/
def cat (F : List (Nat × List UInt8)) : List UInt8 := F.flatMap fun x => wrapL x.1 x.2
def catOk (F : List (Nat × List UInt8)) : Prop := ∀ x ∈ F, x.1 ≤ 255 ∧ x.2.length ≤ 65536
/-- how many are whole within so many bytes -/
def whole : List (Nat × List UInt8) → Nat → Nat
 | [], _ => 0
 |x :: F, c => if (wrapL x.1 x.2).length ≤ c then whole F (c - (wrapL x.1 x.2).length) + 1 else 0
/-- where each ends -/
def endAt (F : List (Nat × List UInt8)) (i : Nat) : Nat := (cat (F.take (i + 1))).length
end Go.Proofs.YtklbemkafdccgaaGreat.Frm

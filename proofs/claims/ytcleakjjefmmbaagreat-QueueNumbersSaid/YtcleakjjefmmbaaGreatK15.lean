/- Several texts in one: FrameRowPlain, EnPlain, FrameBackPlain, FrameCutPlain, EnStepsPlain. -/
import Derived.Test.YtcleakjjefmmbaaGreatFrameAtPlain
import Derived.Test.YtcleakjjefmmbaaGreatK00
import Derived.Test.YtcleakjjefmmbaaGreatK01
/- Row and Scan: plain. No program. -/
namespace Go.Proofs.YtcleakjjefmmbaaGreat.Frm
open Oct

theorem take_pre {r v d : List UInt8} (h : r = v ++ d) : r.take v.length = v := by rw [h, List.take_left]
theorem inner_used {r : List UInt8} (h : (inner r).1 = 0) : (inner r).2.2 ≤ r.length ∧ (inner r).2.1.length ≤ (inner r).2.2 ∧ 9 ≤ (inner r).2.1.length ∧ r.take (inner r).2.2 = veil (inner r).2.1 := by
 unfold inner at h ⊢
 split at h
 ·rename_i h5; exact absurd h h5
 ·rename_i h5
  rw [if_neg h5]
  split at h
  ·simp at h
  ·rename_i hb
   rw [if_neg hb]
   split at h
   ·rename_i h9; exact absurd h h9
   ·rename_i h9
    rw [if_neg h9]
    split at h
    ·simp at h
    ·rename_i hs
     rw [if_neg hs]
     obtain ⟨h1, h2, h3⟩ := rdN_veil _ h
     have := rdN_used h
     have hv := (veil_len (rdN (9 + headN (rdN 5 r).2.1) r).2.1).1
     refine ⟨this, by omega, by omega, ?_⟩
     rw [h3]
     exact take_pre h2

theorem atE_ok {l : List UInt8} {a : Nat} (h : atE l a = 0) : ∃ c r, l.drop a = c :: r ∧ c = 80 ∧ (inner r).1 = 0 ∧ a < l.length ∧ atF l a = ⟨a, 1 + (inner r).2.2, ((inner r).2.1.headD 0).toNat, (inner r).2.1.drop 9⟩ := by
 have hF : atF l a = match l.drop a with | [] => ⟨0, 0, 0, []⟩ | _ :: r => ⟨a, 1 + (inner r).2.2, ((inner r).2.1.headD 0).toNat, (inner r).2.1.drop 9⟩ := by
  unfold atF; rw [if_pos h, Int.toNat_natCast]; cases l.drop a <;> rfl
 unfold atE at h
 split at h
 ·simp at h
 ·rename_i h1
  rw [Int.toNat_natCast] at h
  cases hd : l.drop a with
  |nil => rw [hd] at h; simp at h
  |cons c r =>
   rw [hd] at h hF
   simp only at h hF
   split at h
   ·simp at h
   ·rename_i hc
    have hlt : a < l.length := by
     rcases Nat.lt_or_ge a l.length with h' | h'
     ·exact h'
     ·rw [List.drop_of_length_le h'] at hd; cases hd
    exact ⟨c, r, rfl, Classical.not_not.1 hc, h, hlt, hF⟩
theorem atE_len {l : List UInt8} {a : Nat} (h : atE l a = 0) : 10 ≤ (atF l a).len ∧ (a : Int) + (atF l a).len ≤ l.length ∧ 0 ≤ (atF l a).len := by
 obtain ⟨c, r, hd, -, hi, hlt, hF⟩ := atE_ok h
 obtain ⟨h1, h2, h3, -⟩ := inner_used hi
 have := congrArg List.length hd
 rw [List.length_drop, List.length_cons] at this
 rw [hF]
 simp only
 omega
theorem atE_pay {l : List UInt8} {a : Nat} (h : atE l a = 0) : (atF l a).pay.length ≤ l.length := by
 obtain ⟨c, r, hd, -, hi, hlt, hF⟩ := atE_ok h
 obtain ⟨h1, h2, h3, -⟩ := inner_used hi
 have := congrArg List.length hd
 rw [List.length_drop, List.length_cons] at this
 rw [hF]
 simp only [List.length_drop]
 omega

def rowN (l : List UInt8) : Nat → Nat → List Fr1 × Nat × Int
 | 0, u => ([], u, 0)
 |k + 1, u => if u < l.length then (if atE l u = 0 then (atF l u :: (rowN l k (u + (atF l u).len.toNat)).1, (rowN l k (u + (atF l u).len.toNat)).2) else ([], u, atE l u)) else ([], u, 0)
def rowR (l : List UInt8) : List Fr1 × Nat × Int := rowN l l.length 0
theorem rowN_end {l : List UInt8} {k u : Nat} (h : ¬ u < l.length) : rowN l k u = ([], u, 0) := by
 cases k <;> simp [rowN, h]
theorem rowN_err {l : List UInt8} {k u : Nat} (h : u < l.length) (he : atE l u ≠ 0) : rowN l (k + 1) u = ([], u, atE l u) := by simp [rowN, h, he]
theorem rowN_ok {l : List UInt8} {k u : Nat} (h : u < l.length) (he : atE l u = 0) : rowN l (k + 1) u = (atF l u :: (rowN l k (u + (atF l u).len.toNat)).1, (rowN l k (u + (atF l u).len.toNat)).2) := by simp [rowN, h, he]

end Go.Proofs.YtcleakjjefmmbaaGreat.Frm

/- envel, plain: jobs, states, what is right, the bytes, the reading. -/
namespace Go.Proofs.YtcleakjjefmmbaaGreat.Env
open Adr (Str goodB)
open Oct (be putL putB okk be_length be_get)
open Frm (Fr1 wrapL wrapE)
structure TgP where
 u : Int
 l : Str
 d : Str
deriving DecidableEq
structure StP where
 s : Int
 t : Int
 d : Int
 c : Int
deriving DecidableEq
structure JobP where
 id : Int
 arr : Int
 fl : Str
 fd : Str
 tos : List TgP
 st : List StP
 body : Str
deriving DecidableEq
def inB (n a b : Int) : Bool := decide (a ≤ n) && decide (n ≤ b)
def maxT : Int := 4503599627370496
def goodStB (x : StP) : Bool := inB x.s 0 3 && inB x.t 0 65535 && inB x.d 0 maxT && (decide (x.c = 0) || inB x.c 200 599)
def freshS (a : Int) : StP := ⟨0, 0, a, 0⟩
def fromB (j : JobP) : Bool := (decide (j.fl = []) && decide (j.fd = [])) || goodB j.fl j.fd
def tgB (t : TgP) : Bool := inB t.u 1 999 && goodB t.l t.d
/-- no user twice, each target right; p: the users ahead -/
def tgsB : List Int → List TgP → Bool
 | _, [] => true
 |p, t :: r => !decide (t.u ∈ p) && tgB t && tgsB (t.u :: p) r
def envB (j : JobP) : Bool := inB j.id 1 1099511627776 && inB j.arr 0 maxT && inB j.tos.length 1 20 && fromB j && tgsB [] j.tos
def goodJ (j : JobP) : Bool := envB j && decide (j.st.length = j.tos.length) && decide (j.body.length ≤ 32768) && j.st.all goodStB
/-- a number's, a text's bytes -/
def textB (s : Str) : Str := be 4 s.length ++ s
def tgL (t : TgP) : Str := be 2 t.u.toNat ++ textB t.l ++ textB t.d
def envL (j : JobP) : Str := be 8 j.id.toNat ++ be 8 j.arr.toNat ++ textB j.fl ++ textB j.fd ++ be 1 j.tos.length ++ j.tos.flatMap tgL
def stepP (k : Nat) (x : StP) : Str := be 1 k ++ be 1 x.s.toNat ++ be 2 x.t.toNat ++ be 8 x.d.toNat ++ be 2 x.c.toNat
def stepE (k : Int) (x : StP) : Int := if inB k 0 19 = false then 1 else if goodStB x = false then 3 else 0
def stepL (k : Int) (x : StP) : Str := if stepE k x = 0 then wrapL 18 (stepP k.toNat x) else []
/-- the states' frames from number i on -/
def stsL (arr : Int) : Nat → List StP → Str
 | _, [] => []
 |i, x :: r => (if x = freshS arr then [] else stepL i x) ++ stsL arr (i + 1) r
def bytesL (j : JobP) : Str := if goodJ j then wrapL 16 (envL j) ++ wrapL 17 j.body ++ stsL j.arr 0 j.st else []
def bytesE (j : JobP) : Int := if goodJ j then 0 else 3
/-! ### reading -/
/-- a number of k bytes at a place; none: something lacked -/
def uR (l : Str) (k : Nat) : Option Nat → Nat × Option Nat
 |none => (0, none)
 |some a => if a + k ≤ l.length then (Oct.valOf ((l.drop a).take k), some (a + k)) else (0, none)
def tR (l : Str) (most : Nat) (σ : Option Nat) : Str × Option Nat :=
 match uR l 4 σ with
 |(_, none) => ([], none)
 |(n, some a) => if n ≤ most ∧ a + n ≤ l.length then ((l.drop a).take n, some (a + n)) else ([], none)
def tgR (l : Str) (most : Nat) (σ : Option Nat) : TgP × Option Nat :=
 (⟨(uR l 2 σ).1, (tR l most (uR l 2 σ).2).1, (tR l most (tR l most (uR l 2 σ).2).2).1⟩, (tR l most (tR l most (uR l 2 σ).2).2).2)
def tgsR (l : Str) (most : Nat) : Nat → Option Nat → List TgP × Option Nat
 | 0, σ => ([], σ)
 |n + 1, σ => ((tgR l most σ).1 :: (tgsR l most n (tgR l most σ).2).1, (tgsR l most n (tgR l most σ).2).2)
/-- number, arrival, sender, how many targets, and where they begin -/
def headR (l : Str) (most : Nat) : (Nat × Nat × Str × Str × Nat) × Option Nat :=
 let a := uR l 8 (some 0)
 let b := uR l 8 a.2
 let c := tR l most b.2
 let d := tR l most c.2
 let e := uR l 1 d.2
 ((a.1, b.1, c.1, d.1, e.1), e.2)
def capI (m v : Nat) : Int := if v ≤ m then (v : Int) else (m : Int)
/-- the job of a payload, numbers capped -/
def envR (most c1 c2 : Nat) (l : Str) : JobP × Option Nat :=
 let h := headR l most
 let t := tgsR l most h.1.2.2.2.2 h.2
 (⟨capI c1 h.1.1, capI c2 h.1.2.1, h.1.2.2.1, h.1.2.2.2.1, t.1, [], []⟩, t.2)
def envOk (x : JobP × Option Nat) (l : Str) : Bool := decide (x.2 = some l.length) && envB x.1
def stR (c : Nat) (l : Str) : (Nat × StP) × Option Nat :=
 let a := uR l 1 (some 0)
 let b := uR l 1 a.2
 let d := uR l 2 b.2
 let e := uR l 8 d.2
 let f := uR l 2 e.2
 ((a.1, ⟨b.1, d.1, capI c e.1, f.1⟩), f.2)
def stOk (x : (Nat × StP) × Option Nat) (l : Str) (n : Nat) : Bool := decide (x.2 = some l.length) && decide (x.1.1 < n) && goodStB x.1.2
def capT : Nat := 4503599627370497
def capId : Nat := 1099511627777
/-- the states behind the frames that are steps, and how many bytes they have -/
def stepsR (n : Nat) : List Fr1 → List StP → List StP × Int
 | [], st => (st, 0)
 |f :: r, st => if f.kind = 18 ∧ stOk (stR capT f.pay) f.pay n = true then ((stepsR n r (st.set (stR capT f.pay).1.1 (stR capT f.pay).1.2)).1, f.len + (stepsR n r (st.set (stR capT f.pay).1.1 (stR capT f.pay).1.2)).2) else (st, 0)
def noJob : JobP := ⟨0, 0, [], [], [], [], []⟩
def readF : List Fr1 → JobP × Int × Int
 |f :: g :: r => if f.kind = 16 ∧ g.kind = 17 ∧ g.pay.length ≤ 32768 ∧ envOk (envR 100 capId capT f.pay) f.pay = true then
   let j := (envR 100 capId capT f.pay).1
   let s := stepsR j.tos.length r (List.replicate j.tos.length (freshS j.arr))
   ({ j with st := s.1, body := g.pay }, f.len + g.len + s.2, 0)
  else (noJob, 0, 12)
 | _ => (noJob, 0, 12)
def readR (l : Str) : JobP × Int × Int := readF (Frm.rowR l).1
end Go.Proofs.YtcleakjjefmmbaaGreat.Env

/- What was wrapped is read: plain. No program. -/
namespace Go.Proofs.YtcleakjjefmmbaaGreat.Frm
open Oct

theorem getV_mid {l a b c : List UInt8} {n k : Nat} (h : l = a ++ (b ++ c)) (hn : n = a.length) (hk : k = b.length) (h1 : 1 ≤ k) (h8 : k ≤ 8) : getV l n k = Oct.valOf b := by
 subst hn hk h
 have hb : getB (a ++ (b ++ c)) a.length b.length = true := by simp [getB, okk]; omega
 rw [getV_nat hb, List.drop_left, List.take_left]
theorem front_head (k : Nat) {n : Nat} (hn : n < 4294967296) : headN (front k n) = n := by
 unfold headN front
 have := getV_mid (l := be 1 k ++ be 4 n) (a := be 1 k) (b := be 4 n) (c := []) (n := 1) (k := 4) (by simp) (by rw [be_length]) (by rw [be_length]) (by omega) (by omega)
 rw [show (((1 : Nat) : Int)) = 1 from rfl, show (((4 : Nat) : Int)) = 4 from rfl] at this
 rw [this, valOf_be]
 omega
theorem sumN_lt (k : Nat) (p : List UInt8) : sumN k p < 4294967296 := by
 exact Crc.more_lt _ _
theorem inner_put {k : Nat} {p : List UInt8} (hp : p.length ≤ 65536) (r : List UInt8) : inner (veil (body k p) ++ r) = (0, body k p, (veil (body k p)).length) := by
 have hB : body k p = front k p.length ++ (be 4 (sumN k p) ++ p) := rfl
 have h5 : rdN 5 (veil (body k p) ++ r) = (0, front k p.length, (veil (front k p.length)).length) := by
  have := rdN_put (front k p.length) (veil (be 4 (sumN k p) ++ p) ++ r)
  rw [front_len, ← List.append_assoc, ← veil_append, ← hB] at this
  exact this
 have hH : headN (front k p.length) = p.length := front_head k (by omega)
 have h9 : rdN (9 + p.length) (veil (body k p) ++ r) = (0, body k p, (veil (body k p)).length) := by
  have := rdN_put (body k p) r
  rwa [body_len] at this
 have ht : (body k p).take 5 = front k p.length := by
  rw [hB]; exact List.take_left' (front_len _ _)
 have hd : (body k p).drop 9 = p := by
  rw [hB, ← List.append_assoc]; exact List.drop_left' (by rw [List.length_append, front_len, be_length])
 have hg : getV (body k p) 5 4 = sumN k p := by
  have := getV_mid (l := body k p) (a := front k p.length) (b := be 4 (sumN k p)) (c := p) (n := 5) (k := 4) hB (by rw [front_len]) (by rw [be_length]) (by omega) (by omega)
  rw [show (((5 : Nat) : Int)) = 5 from rfl, show (((4 : Nat) : Int)) = 4 from rfl] at this
  rw [this, valOf_be]
  exact Nat.mod_eq_of_lt (sumN_lt k p)
 unfold inner
 rw [h5]
 simp only [ne_eq, not_true_eq_false, if_false]
 rw [hH, if_neg (by omega), h9]
 simp only [not_true_eq_false, if_false]
 rw [ht, hd, hg, if_neg]
 simp [sumN]
theorem be_one (k : Nat) : be 1 k = [UInt8.ofNat k] := by
 show [UInt8.ofNat (k % 256)] = _
 congr 1
 exact UInt8.toNat_inj.1 (by rw [UInt8.toNat_ofNat', UInt8.toNat_ofNat']; omega)
theorem wrapL_ok {k : Nat} {p : List UInt8} (hk : k ≤ 255) (hp : p.length ≤ 65536) : wrapE k p.length = 0 ∧ wrapL k p = 80 :: veil (body k p) := by
 have h : wrapE k p.length = 0 := by unfold wrapE; rw [if_neg (by omega), if_neg (by omega)]
 exact ⟨h, by unfold wrapL; rw [if_pos h, Int.toNat_natCast]⟩
theorem at_put {l r : List UInt8} {a k : Nat} {p : List UInt8} (hk : k ≤ 255) (hp : p.length ≤ 65536) (hd : l.drop a = wrapL k p ++ r) : atE l a = 0 ∧ atF l a = ⟨a, (wrapL k p).length, k, p⟩ := by
 obtain ⟨-, hw⟩ := wrapL_ok hk hp
 rw [hw, List.cons_append] at hd
 have hlt : a < l.length := by
  rcases Nat.lt_or_ge a l.length with h' | h'
  ·exact h'
  ·rw [List.drop_of_length_le h'] at hd; cases hd
 have hi := inner_put (k := k) hp r
 have hE : atE l a = 0 := by
  unfold atE
  rw [if_neg (by omega), Int.toNat_natCast, hd]
  simp [hi]
 refine ⟨hE, ?_⟩
 unfold atF
 rw [if_pos hE, Int.toNat_natCast, hd]
 simp only [hi]
 rw [hw]
 have hh : ((body k p).headD 0).toNat = k := by
  have : body k p = UInt8.ofNat k :: (be 4 p.length ++ (be 4 (sumN k p) ++ p)) := by
   simp [body, front, be_one]
  rw [this]
  simp only [List.headD_cons]
  rw [UInt8.toNat_ofNat']; omega
 have hdp : (body k p).drop 9 = p := by
  show (front k p.length ++ (be 4 (sumN k p) ++ p)).drop 9 = p
  rw [← List.append_assoc]; exact List.drop_left' (by rw [List.length_append, front_len, be_length])
 rw [hh, hdp]
 simp; omega
end Go.Proofs.YtcleakjjefmmbaaGreat.Frm

/- Frames one behind the other, cut off: plain. No program. -/
namespace Go.Proofs.YtcleakjjefmmbaaGreat.Frm
open Oct

theorem wrapL_pos {k : Nat} {p : List UInt8} (hk : k ≤ 255) (hp : p.length ≤ 65536) : 1 ≤ (wrapL k p).length := by
 rw [(wrapL_ok hk hp).2]; simp

end Go.Proofs.YtcleakjjefmmbaaGreat.Frm

/- A job's file with steps behind it, cut off anywhere: plain. -/
namespace Go.Proofs.YtcleakjjefmmbaaGreat
open Go.RowKit
namespace Env
open Adr (Str goodB)
open Oct (be valOf be_length valOf_be)
open Frm (Fr1 wrapL rowN rowR wrapL_ok wrapL_pos)

/-! ### what is put down is read -/
theorem uR_be {l r : Str} {a k v : Nat} (h : l.drop a = be k v ++ r) (hv : v < 256 ^ k) (ha : a ≤ l.length) : uR l k (some a) = (v, some (a + k)) ∧ l.drop (a + k) = r ∧ a + k ≤ l.length := by
 have hl := congrArg List.length h
 rw [List.length_drop, List.length_append, be_length] at hl
 have h1 : a + k ≤ l.length := by omega
 refine ⟨?_, ?_, h1⟩
 ·show (if a + k ≤ l.length then (Oct.valOf ((l.drop a).take k), some (a + k)) else (0, none)) = _
  rw [if_pos h1, h, List.take_append_of_le_length (by rw [be_length]; exact Nat.le_refl _), List.take_of_length_le (by rw [be_length]; exact Nat.le_refl _), valOf_be, Nat.mod_eq_of_lt hv]
 ·rw [← List.drop_drop, h, List.drop_append_of_le_length (by rw [be_length]; exact Nat.le_refl _), List.drop_of_length_le (by rw [be_length]; exact Nat.le_refl _), List.nil_append]
theorem tR_text {l r s : Str} {a most : Nat} (h : l.drop a = textB s ++ r) (hs : s.length ≤ most) (h4 : s.length < 4294967296) (ha : a ≤ l.length) : tR l most (some a) = (s, some (a + (textB s).length)) ∧ l.drop (a + (textB s).length) = r ∧ a + (textB s).length ≤ l.length := by
 unfold textB at h ⊢
 rw [List.append_assoc] at h
 obtain ⟨h1, h2, h3⟩ := uR_be h (by simpa using h4) ha
 have hl := congrArg List.length h2
 rw [List.length_drop, List.length_append] at hl
 have h5 : a + 4 + s.length ≤ l.length := by omega
 rw [List.length_append, be_length, ← Nat.add_assoc]
 refine ⟨?_, ?_, h5⟩
 ·unfold tR
  rw [h1]
  simp only
  rw [if_pos ⟨hs, h5⟩, h2, List.take_left]
 ·rw [← List.drop_drop, h2, List.drop_left]
structure TgG (t : TgP) : Prop where
 u : 1 ≤ t.u ∧ t.u ≤ 999
 l : t.l.length ≤ 100
 d : t.d.length ≤ 100
theorem tgR_tg {l r : Str} {a : Nat} {t : TgP} (h : l.drop a = tgL t ++ r) (ht : TgG t) (ha : a ≤ l.length) : tgR l 100 (some a) = (t, some (a + (tgL t).length)) ∧ l.drop (a + (tgL t).length) = r ∧ a + (tgL t).length ≤ l.length := by
 obtain ⟨u, x, y⟩ := t
 obtain ⟨⟨hu1, hu2⟩, hx, hy⟩ := ht
 simp only at hu1 hu2 hx hy
 unfold tgL at h ⊢
 simp only at h ⊢
 rw [List.append_assoc, List.append_assoc] at h
 obtain ⟨a1, a2, a3⟩ := uR_be h (by omega) ha
 obtain ⟨b1, b2, b3⟩ := tR_text a2 hx (by omega) a3
 obtain ⟨c1, c2, c3⟩ := tR_text b2 hy (by omega) b3
 rw [List.length_append, List.length_append, be_length, ← Nat.add_assoc, ← Nat.add_assoc]
 refine ⟨?_, c2, c3⟩
 unfold tgR
 rw [a1]
 simp only
 rw [b1]
 simp only
 rw [c1]
 simp only [Prod.mk.injEq, TgP.mk.injEq, and_true, true_and]
 omega
theorem tgsR_tgs {l r : Str} : ∀ (T : List TgP) {a : Nat}, l.drop a = T.flatMap tgL ++ r → (∀ t ∈ T, TgG t) → a ≤ l.length → tgsR l 100 T.length (some a) = (T, some (a + (T.flatMap tgL).length)) ∧ l.drop (a + (T.flatMap tgL).length) = r ∧ a + (T.flatMap tgL).length ≤ l.length
 | [], a, h, _, ha => ⟨by simp [tgsR], by simpa using h, by simpa using ha⟩
 |t :: T, a, h, ht, ha => by
  rw [List.flatMap_cons, List.append_assoc] at h
  obtain ⟨a1, a2, a3⟩ := tgR_tg h (ht t (by simp)) ha
  obtain ⟨b1, b2, b3⟩ := tgsR_tgs T a2 (fun x hx => ht x (by simp [hx])) a3
  rw [List.flatMap_cons, List.length_append, ← Nat.add_assoc]
  refine ⟨?_, b2, b3⟩
  rw [List.length_cons, tgsR, a1]
  simp only
  rw [b1]
theorem goodB_64 {l d : Str} (h : goodB l d = true) : l.length ≤ 64 ∧ d.length ≤ 64 := by
 unfold goodB Adr.domainB at h
 simp only [Bool.and_eq_true, decide_eq_true_eq] at h
 exact ⟨h.1.2, h.2.2⟩
theorem tgsB_tgg : ∀ (T : List TgP) (p : List Int), tgsB p T = true → ∀ t ∈ T, TgG t
 | [], _, _, t, h => by simp at h
 |x :: T, p, h, t, ht => by
  unfold tgsB at h
  simp only [Bool.and_eq_true] at h
  rcases List.mem_cons.1 ht with rfl | ht
  ·have h1 := h.1.2
   unfold tgB inB at h1
   simp only [Bool.and_eq_true, decide_eq_true_eq] at h1
   have h2 := goodB_64 h1.2
   exact ⟨h1.1, by omega, by omega⟩
  ·exact tgsB_tgg T _ h.2 t ht
/-- the first frame is read as the job -/
theorem envR_env {j : JobP} (h : envB j = true) : envR 100 capId capT (envL j) = ({ j with st := [], body := [] }, some (envL j).length) ∧ envOk (envR 100 capId capT (envL j)) (envL j) = true ∧ (envL j).length ≤ 65536 := by
 have hB := h
 unfold envB at h
 simp only [Bool.and_eq_true] at h
 obtain ⟨⟨⟨⟨h1, h2⟩, h3⟩, h4⟩, h5⟩ := h
 unfold inB at h1 h2 h3
 simp only [Bool.and_eq_true, decide_eq_true_eq] at h1 h2 h3
 have hts := tgsB_tgg _ _ h5
 have hfl : j.fl.length ≤ 64 ∧ j.fd.length ≤ 64 := by
  unfold fromB at h4
  simp only [Bool.or_eq_true, Bool.and_eq_true, decide_eq_true_eq] at h4
  rcases h4 with ⟨e1, e2⟩ | h4
  ·rw [e1, e2]; simp
  ·exact goodB_64 h4
 have e0 : (envL j).drop 0 = be 8 j.id.toNat ++ (be 8 j.arr.toNat ++ (textB j.fl ++ (textB j.fd ++ (be 1 j.tos.length ++ (j.tos.flatMap tgL ++ []))))) := by
  unfold envL
  simp
 unfold maxT at h2
 obtain ⟨a1, a2, a3⟩ := uR_be e0 (by omega) (Nat.zero_le _)
 obtain ⟨b1, b2, b3⟩ := uR_be a2 (by omega) a3
 obtain ⟨c1, c2, c3⟩ := tR_text (most := 100) b2 (by omega) (by omega) b3
 obtain ⟨d1, d2, d3⟩ := tR_text (most := 100) c2 (by omega) (by omega) c3
 obtain ⟨f1, f2, f3⟩ := uR_be d2 (by omega) d3
 obtain ⟨g1, g2, g3⟩ := tgsR_tgs j.tos f2 hts f3
 have hend := congrArg List.length g2
 rw [List.length_drop, List.length_nil] at hend
 have hh : headR (envL j) 100 = ((j.id.toNat, j.arr.toNat, j.fl, j.fd, j.tos.length), some (0 + 8 + 8 + (textB j.fl).length + (textB j.fd).length + 1)) := by
  unfold headR
  simp only
  rw [a1]
  simp only
  rw [b1]
  simp only
  rw [c1]
  simp only
  rw [d1]
  simp only
  rw [f1]
 have k1 : capI capId j.id.toNat = j.id := by unfold capI capId; rw [if_pos (by omega)]; omega
 have k2 : capI capT j.arr.toNat = j.arr := by unfold capI capT; rw [if_pos (by omega)]; omega
 have hE : envR 100 capId capT (envL j) = ({ j with st := [], body := [] }, some (envL j).length) := by
  unfold envR
  rw [hh]
  simp only
  rw [g1, k1, k2]
  simp only [Prod.mk.injEq, true_and, Option.some.injEq]
  omega
 refine ⟨hE, ?_, ?_⟩
 ·rw [hE]
  unfold envOk
  simp only [decide_true, Bool.true_and]
  exact hB
 ·have hT : ∀ T : List TgP, (∀ t ∈ T, TgG t) → (T.flatMap tgL).length ≤ T.length * 300 := by
   intro T hT
   induction T with
   |nil => simp
   |cons t T ih =>
    have := ih (fun x hx => hT x (by simp [hx]))
    have ht := hT t (by simp)
    have h1 := ht.l
    have h2 := ht.d
    have h3 : (tgL t).length ≤ 300 := by
     unfold tgL textB
     simp only [List.length_append, be_length]
     omega
    rw [List.flatMap_cons, List.length_append, List.length_cons, Nat.succ_mul]
    omega
  have h6 := hT _ hts
  have h7 : j.tos.length * 300 ≤ 6000 := by omega
  unfold envL textB
  simp only [List.length_append, be_length]
  omega
/-! ### steps -/
end Env
end Go.Proofs.YtcleakjjefmmbaaGreat

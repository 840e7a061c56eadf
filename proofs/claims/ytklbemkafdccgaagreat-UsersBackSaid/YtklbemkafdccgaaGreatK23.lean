/- Several texts in one: FrameRowPlain, EnPlain. -/
import Derived.Test.YtklbemkafdccgaaGreatFrameAtPlain
import Derived.Test.YtklbemkafdccgaaGreatK00
/- Row and Scan: plain. No program. -/
namespace Go.Proofs.YtklbemkafdccgaaGreat.Frm
open Oct

def rowN (l : List UInt8) : Nat → Nat → List Fr1 × Nat × Int
 | 0, u => ([], u, 0)
 |k + 1, u => if u < l.length then (if atE l u = 0 then (atF l u :: (rowN l k (u + (atF l u).len.toNat)).1, (rowN l k (u + (atF l u).len.toNat)).2) else ([], u, atE l u)) else ([], u, 0)
def rowR (l : List UInt8) : List Fr1 × Nat × Int := rowN l l.length 0
structure Gap1 where
 fro : Int
 to : Int
/-- the frames and the gaps from a place on; the open gap began at g -/
def scanN (l : List UInt8) : Nat → Nat → Nat → List Fr1 × List Gap1
 | 0, g, u => ([], if g < u then [⟨g, u⟩] else [])
 |k + 1, g, u => if u < l.length then
   (if atE l u = 0 then (atF l u :: (scanN l k (u + (atF l u).len.toNat) (u + (atF l u).len.toNat)).1, (if g < u then [⟨g, u⟩] else []) ++ (scanN l k (u + (atF l u).len.toNat) (u + (atF l u).len.toNat)).2) else scanN l k g (u + 1))
  else ([], if g < u then [⟨g, u⟩] else [])
def scanR (l : List UInt8) : List Fr1 × List Gap1 := scanN l l.length 0 0
end Go.Proofs.YtklbemkafdccgaaGreat.Frm

/- envel, plain: jobs, states, what is right, the bytes, the reading. -/
namespace Go.Proofs.YtklbemkafdccgaaGreat.Env
open Adr (Str goodB)
open Oct (be putL putB okk be_length be_get)
open Frm (Fr1 wrapL wrapE)
structure TgP where
 u : Int
 l : Str
 d : Str
deriving DecidableEq
structure StP where
 s : Int
 t : Int
 d : Int
 c : Int
deriving DecidableEq
structure JobP where
 id : Int
 arr : Int
 fl : Str
 fd : Str
 tos : List TgP
 st : List StP
 body : Str
deriving DecidableEq
def inB (n a b : Int) : Bool := decide (a ≤ n) && decide (n ≤ b)
def maxT : Int := 4503599627370496
def goodStB (x : StP) : Bool := inB x.s 0 3 && inB x.t 0 65535 && inB x.d 0 maxT && (decide (x.c = 0) || inB x.c 200 599)
def freshS (a : Int) : StP := ⟨0, 0, a, 0⟩
def fromB (j : JobP) : Bool := (decide (j.fl = []) && decide (j.fd = [])) || goodB j.fl j.fd
def tgB (t : TgP) : Bool := inB t.u 1 999 && goodB t.l t.d
/-- no user twice, each target right; p: the users ahead -/
def tgsB : List Int → List TgP → Bool
 | _, [] => true
 |p, t :: r => !decide (t.u ∈ p) && tgB t && tgsB (t.u :: p) r
def envB (j : JobP) : Bool := inB j.id 1 1099511627776 && inB j.arr 0 maxT && inB j.tos.length 1 20 && fromB j && tgsB [] j.tos
def goodJ (j : JobP) : Bool := envB j && decide (j.st.length = j.tos.length) && decide (j.body.length ≤ 32768) && j.st.all goodStB
/-- a number's, a text's bytes -/
def textB (s : Str) : Str := be 4 s.length ++ s
def tgL (t : TgP) : Str := be 2 t.u.toNat ++ textB t.l ++ textB t.d
def envL (j : JobP) : Str := be 8 j.id.toNat ++ be 8 j.arr.toNat ++ textB j.fl ++ textB j.fd ++ be 1 j.tos.length ++ j.tos.flatMap tgL
def stepP (k : Nat) (x : StP) : Str := be 1 k ++ be 1 x.s.toNat ++ be 2 x.t.toNat ++ be 8 x.d.toNat ++ be 2 x.c.toNat
def stepE (k : Int) (x : StP) : Int := if inB k 0 19 = false then 1 else if goodStB x = false then 3 else 0
def stepL (k : Int) (x : StP) : Str := if stepE k x = 0 then wrapL 18 (stepP k.toNat x) else []
/-- the states' frames from number i on -/
def stsL (arr : Int) : Nat → List StP → Str
 | _, [] => []
 |i, x :: r => (if x = freshS arr then [] else stepL i x) ++ stsL arr (i + 1) r
def bytesL (j : JobP) : Str := if goodJ j then wrapL 16 (envL j) ++ wrapL 17 j.body ++ stsL j.arr 0 j.st else []
def bytesE (j : JobP) : Int := if goodJ j then 0 else 3
/-! ### reading -/
/-- a number of k bytes at a place; none: something lacked -/
def uR (l : Str) (k : Nat) : Option Nat → Nat × Option Nat
 |none => (0, none)
 |some a => if a + k ≤ l.length then (Oct.valOf ((l.drop a).take k), some (a + k)) else (0, none)
def tR (l : Str) (most : Nat) (σ : Option Nat) : Str × Option Nat :=
 match uR l 4 σ with
 |(_, none) => ([], none)
 |(n, some a) => if n ≤ most ∧ a + n ≤ l.length then ((l.drop a).take n, some (a + n)) else ([], none)
def tgR (l : Str) (most : Nat) (σ : Option Nat) : TgP × Option Nat :=
 (⟨(uR l 2 σ).1, (tR l most (uR l 2 σ).2).1, (tR l most (tR l most (uR l 2 σ).2).2).1⟩, (tR l most (tR l most (uR l 2 σ).2).2).2)
def tgsR (l : Str) (most : Nat) : Nat → Option Nat → List TgP × Option Nat
 | 0, σ => ([], σ)
 |n + 1, σ => ((tgR l most σ).1 :: (tgsR l most n (tgR l most σ).2).1, (tgsR l most n (tgR l most σ).2).2)
/-- number, arrival, sender, how many targets, and where they begin -/
def headR (l : Str) (most : Nat) : (Nat × Nat × Str × Str × Nat) × Option Nat :=
 let a := uR l 8 (some 0)
 let b := uR l 8 a.2
 let c := tR l most b.2
 let d := tR l most c.2
 let e := uR l 1 d.2
 ((a.1, b.1, c.1, d.1, e.1), e.2)
def capI (m v : Nat) : Int := if v ≤ m then (v : Int) else (m : Int)
/-- the job of a payload, numbers capped -/
def envR (most c1 c2 : Nat) (l : Str) : JobP × Option Nat :=
 let h := headR l most
 let t := tgsR l most h.1.2.2.2.2 h.2
 (⟨capI c1 h.1.1, capI c2 h.1.2.1, h.1.2.2.1, h.1.2.2.2.1, t.1, [], []⟩, t.2)
def envOk (x : JobP × Option Nat) (l : Str) : Bool := decide (x.2 = some l.length) && envB x.1
def stR (c : Nat) (l : Str) : (Nat × StP) × Option Nat :=
 let a := uR l 1 (some 0)
 let b := uR l 1 a.2
 let d := uR l 2 b.2
 let e := uR l 8 d.2
 let f := uR l 2 e.2
 ((a.1, ⟨b.1, d.1, capI c e.1, f.1⟩), f.2)
def stOk (x : (Nat × StP) × Option Nat) (l : Str) (n : Nat) : Bool := decide (x.2 = some l.length) && decide (x.1.1 < n) && goodStB x.1.2
def capT : Nat := 4503599627370497
def capId : Nat := 1099511627777
/-- the states behind the frames that are steps, and how many bytes they have -/
def stepsR (n : Nat) : List Fr1 → List StP → List StP × Int
 | [], st => (st, 0)
 |f :: r, st => if f.kind = 18 ∧ stOk (stR capT f.pay) f.pay n = true then ((stepsR n r (st.set (stR capT f.pay).1.1 (stR capT f.pay).1.2)).1, f.len + (stepsR n r (st.set (stR capT f.pay).1.1 (stR capT f.pay).1.2)).2) else (st, 0)
def noJob : JobP := ⟨0, 0, [], [], [], [], []⟩
def readF : List Fr1 → JobP × Int × Int
 |f :: g :: r => if f.kind = 16 ∧ g.kind = 17 ∧ g.pay.length ≤ 32768 ∧ envOk (envR 100 capId capT f.pay) f.pay = true then
   let j := (envR 100 capId capT f.pay).1
   let s := stepsR j.tos.length r (List.replicate j.tos.length (freshS j.arr))
   ({ j with st := s.1, body := g.pay }, f.len + g.len + s.2, 0)
  else (noJob, 0, 12)
 | _ => (noJob, 0, 12)
def readR (l : Str) : JobP × Int × Int := readF (Frm.rowR l).1
end Go.Proofs.YtklbemkafdccgaaGreat.Env

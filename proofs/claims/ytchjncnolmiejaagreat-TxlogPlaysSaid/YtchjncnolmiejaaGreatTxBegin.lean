/- txlog.begin, commit. -/
import Derived.Test.YtchjncnolmiejaaGreatTxRefBytes
import Derived.Test.YtchjncnolmiejaaGreatK06
import Derived.Test.YtchjncnolmiejaaGreatK16
namespace Go.Proofs.YtchjncnolmiejaaGreat
open Go.RowKit
namespace Txl
open Oct Frm
def numP (l : List UInt8) : Nat := if 8 ≤ l.length then Oct.valOf (l.take 8) else 0
def cntP (l : List UInt8) : Nat := if 10 ≤ l.length then Oct.valOf ((l.drop 8).take 2) else 0
def beginB (n : Nat) (f : Fr1) : Bool := decide (f.kind = 32) && decide (f.pay.length = 10) && decide (numP f.pay = n) && decide (cntP f.pay ≤ 1000)
def commitB (n : Nat) (f : Fr1) : Bool := decide (numP f.pay = n) && decide (f.pay.length = 8) && decide (f.kind = 34)
theorem numP_lt (l : List UInt8) : numP l < 18446744073709551616 := by
 unfold numP
 split
 ·have := valOf_lt (l.take 8)
  rw [List.length_take, show min 8 l.length = 8 from by omega] at this
  simpa using this
 ·omega
theorem cntP_lt (l : List UInt8) : cntP l < 65536 := by
 unfold cntP
 split
 ·have := valOf_lt ((l.drop 8).take 2)
  rw [List.length_take, List.length_drop, show min 2 (l.length - 8) = 2 from by omega] at this
  simpa using this
 ·omega
theorem u8 (l : List UInt8) : uE l.length 0 0 8 = (if 8 ≤ l.length then 0 else 2) ∧ uA l.length 0 0 8 = (if 8 ≤ l.length then 8 else 0) ∧ uV l 0 0 8 = numP l := by
 have hE : uE l.length 0 0 8 = if 8 ≤ l.length then 0 else 2 := by
  unfold uE
  rw [if_neg (by simp), if_neg (by simp [okk])]
  by_cases h : 8 ≤ l.length
  ·rw [if_neg (by omega), if_pos h]
  ·rw [if_pos (by omega), if_neg h]
 refine ⟨hE, ?_, ?_⟩
 ·unfold uA
  rw [hE]
  split <;> simp
 ·unfold uV numP
  rw [hE]
  by_cases h : 8 ≤ l.length
  ·rw [if_pos h, if_pos h, if_pos rfl]
   unfold getV
   rw [if_pos (by simp [getB, okk]; omega)]
   rfl
  ·rw [if_neg h, if_neg h, if_neg (by decide)]
theorem u2 (l : List UInt8) : uE l.length (if 8 ≤ l.length then 8 else 0) (if 8 ≤ l.length then 0 else 2) 2 = (if 10 ≤ l.length then 0 else 2) ∧ uA l.length (if 8 ≤ l.length then 8 else 0) (if 8 ≤ l.length then 0 else 2) 2 = (if 10 ≤ l.length then 10 else if 8 ≤ l.length then 8 else 0) ∧ uV l (if 8 ≤ l.length then 8 else 0) (if 8 ≤ l.length then 0 else 2) 2 = cntP l := by
 by_cases h8 : 8 ≤ l.length
 ·rw [if_pos h8, if_pos h8]
  have hE : uE l.length 8 0 2 = if 10 ≤ l.length then 0 else 2 := by
   unfold uE
   rw [if_neg (by simp), if_neg (by simp [okk])]
   by_cases h : 10 ≤ l.length
   ·rw [if_neg (by omega), if_pos h]
   ·rw [if_pos (by omega), if_neg h]
  refine ⟨hE, ?_, ?_⟩
  ·unfold uA
   rw [hE]
   by_cases h : 10 ≤ l.length
   ·rw [if_pos h, if_pos h, if_pos rfl]; rfl
   ·rw [if_neg h, if_neg h, if_neg (by decide)]
  ·unfold uV cntP
   rw [hE]
   by_cases h : 10 ≤ l.length
   ·rw [if_pos h, if_pos h, if_pos rfl]
    unfold getV
    rw [if_pos (by simp [getB, okk]; omega)]
    rfl
   ·rw [if_neg h, if_neg h, if_neg (by decide)]
 ·rw [if_neg h8, if_neg h8]
  have h10 : ¬ 10 ≤ l.length := by omega
  have hE : uE l.length 0 2 2 = 2 := by unfold uE; rw [if_pos (by decide)]
  refine ⟨by rw [hE, if_neg h10], ?_, ?_⟩
  ·unfold uA
   rw [hE, if_neg (by decide), if_neg h10]
  ·unfold uV cntP
   rw [hE, if_neg (by decide), if_neg h10]
theorem d10 (l : List UInt8) : (doneE (if 10 ≤ l.length then 0 else 2) (if 10 ≤ l.length then 10 else if 8 ≤ l.length then 8 else 0) l.length = 0) ↔ l.length = 10 := by
 unfold doneE
 by_cases h : 10 ≤ l.length
 ·rw [if_pos h, if_pos h]
  by_cases h2 : 10 < l.length
  ·rw [if_pos ⟨rfl, h2⟩]
   constructor
   ·intro e; cases e
   ·intro e; omega
  ·rw [if_neg (fun e => h2 e.2)]
   exact ⟨fun _ => by omega, fun _ => rfl⟩
 ·rw [if_neg h, if_neg h, if_neg (fun e => absurd e.1 (by decide))]
  constructor
  ·intro e; cases e
  ·intro e; omega
theorem d8 (l : List UInt8) : (doneE (if 8 ≤ l.length then 0 else 2) (if 8 ≤ l.length then 8 else 0) l.length = 0) ↔ l.length = 8 := by
 unfold doneE
 by_cases h : 8 ≤ l.length
 ·rw [if_pos h, if_pos h]
  by_cases h2 : 8 < l.length
  ·rw [if_pos ⟨rfl, h2⟩]
   constructor
   ·intro e; cases e
   ·intro e; omega
  ·rw [if_neg (fun e => h2 e.2)]
   exact ⟨fun _ => by omega, fun _ => rfl⟩
 ·rw [if_neg h, if_neg h, if_neg (fun e => absurd e.1 (by decide))]
  constructor
  ·intro e; cases e
  ·intro e; omega
def BeginDid (W : World) (n : Nat) (f : Fr1) (e : Ending) (w' : World) : Prop := e = .returned (.tuple #[.int .i64 (cntP f.pay : Int), .bool (beginB n f)]) ∧ Keeps W w'
set_option maxRecDepth 100000 in
set_option maxHeartbeats 2000000 in
theorem begin_any (n : Nat) (hn : n < 9223372036854775808) (f : Fr1) (pv : Value) (w : World) (hr : Row w pv (f.pay.map u8v)) (hl : f.pay.length ≤ 35184372088832) : Calls Tryz.prog 129 #[.agg #[.int .i64 f.at', .int .i64 f.len, .int .i64 f.kind, pv], .int .i64 (n : Int)] w (BeginDid w n f) := by
 obtain ⟨p, c, rfl, -, -⟩ := hr.formB
 obtain ⟨fa, fl, fk, l⟩ := f
 have HR := Lib.hid hr
 have hll : l.length ≤ 35184372088832 := hl
 have HX : Hid (beginB n ⟨fa, fl, fk, l⟩ = (decide (fk = 32) && decide (l.length = 10) && decide (numP l = n) && decide (cntP l ≤ 1000))) := Lib.hid rfl
 obtain ⟨a1, a2, a3⟩ := u8 l
 obtain ⟨b1, b2, b3⟩ := u2 l
 have HA := Lib.hid (And.intro a1 (And.intro a2 a3))
 have HB := Lib.hid (And.intro b1 (And.intro b2 b3))
 have HD := Lib.hid (d10 l)
 have hnl := numP_lt l
 have hcl := cntP_lt l
 have hwu := wrapU (n := n) (by omega)
 have hwc : IntKind.i64.wrap (cntP l : Int) = (cntP l : Int) := by rw [IntKind.wrap_i64]; omega
 unfold BeginDid
 rw [HX.out]
 clear hr hl a1 a2 a3 b1 b2 b3 HX
 show Calls Tryz.prog 129 #[.agg #[.int .i64 fa, .int .i64 fl, .int .i64 fk, .slice p l.length c], .int .i64 (n : Int)] w fun e w' => e = .returned (.tuple #[.int .i64 (cntP l : Int), .bool (decide (fk = 32) && decide (l.length = 10) && decide (numP l = n) && decide (cntP l ≤ 1000))]) ∧ Keeps w w'
 obtain ⟨cn, hcn⟩ : ∃ x, x = cntP l := ⟨_, rfl⟩
 obtain ⟨nm, hnm⟩ : ∃ x, x = numP l := ⟨_, rfl⟩
 rw [← hcn] at hwc hcl HB ⊢
 rw [← hnm] at hnl HA ⊢
 clear hcn hnm
 go_enter Tryz.func129, Tryz.ntmps129
 go_upto_region 1 with fail
 generalize hW : World.alloc w _ = w1
 have HK1 := Lib.hid (show Keeps w w1 from by rw [← hW]; exact (Keeps.refl _).alloc _)
 have HQ1 := Lib.hid (show Blk w1 w.heap.size 147 #[.int .i64 fa, .int .i64 fl, .int .i64 fk, .slice p l.length c] from by rw [← hW]; exact Blk.new _ _ _ rfl)
 clear hW
 obtain ⟨q, hq⟩ : ∃ q, q = w.heap.size := ⟨_, rfl⟩
 rw [← hq] at HQ1 ⊢
 clear hq
 have q3 : w1.cell? ⟨q, 3, none⟩ = some (.slice p l.length c) := by rw [HQ1.out.cell]; rfl
 have HN := Lib.hid (newSource_any (.slice p l.length c) l w1 (HR.out.keeps HK1.out) hll)
 go_wp2_with fail
 refine HN.out.mono ?_
 rintro e w2 ⟨g, sv, rfl, hg, hS, -, hk⟩
 have HS := Lib.hid hS
 have HK2 := Lib.hid (HK1.out.trans hk)
 have HQ2 := Lib.hid (HQ1.out.keeps hk)
 have HGQ := Lib.hid (show g ≠ q from fun e => by have := HQ1.out.lt; omega)
 have HG0 := Lib.hid (show w.heap.size ≤ g from Nat.le_trans HK1.out.size hg)
 clear hS hk hg q3 HN
 have HU := Lib.hid (srcU_any g sv l 0 0 8 w2 HS.out)
 rw [HA.out.1, HA.out.2.1, HA.out.2.2] at HU
 go_wp2_with fail
 refine HU.out.mono ?_
 rintro e w3 ⟨rfl, hS, hM⟩
 have HK3 := Lib.hid (hM.keeps HK2.out (fun x hx => by subst hx; exact HG0.out))
 have HQ3 := Lib.hid (HQ2.out.mods hM (fun e => HGQ.out e.symm))
 have HU := Lib.hid (srcU_any g sv l _ _ 2 w3 hS)
 rw [HB.out.1, HB.out.2.1, HB.out.2.2] at HU
 clear hS hM HS
 go_wp2_with fail
 refine HU.out.mono ?_
 rintro e w4 ⟨rfl, hS, hM⟩
 have HK4 := Lib.hid (hM.keeps HK3.out (fun x hx => by subst hx; exact HG0.out))
 have HQ4 := Lib.hid (HQ3.out.mods hM (fun e => HGQ.out e.symm))
 have HDN := Lib.hid (done_any g sv l _ _ w4 hS)
 unfold QuietI at HDN
 generalize doneE (if 10 ≤ l.length then 0 else 2) (if 10 ≤ l.length then 10 else if 8 ≤ l.length then 8 else 0) l.length = dn at *
 clear hS hM HU
 have q2 : w4.cell? ⟨q, 2, none⟩ = some (.int .i64 fk) := by rw [HQ4.out.cell]; rfl
 clear HA HB
 by_cases hk : fk = 32
 ·have e1 : (fk == 32) = true := by simp [hk]
  have ed1 := Lib.hid (show decide (fk = 32) = true from by simp [hk])
  by_cases hd : dn = 0
  ·have e2 : (dn == 0) = true := by simp [hd]
   have ed2 := Lib.hid (show decide (l.length = 10) = true from by simp [HD.out.1 hd])
   by_cases hm : nm = n
   ·have e3 : ((nm : Int) == (n : Int)) = true := by simp [hm]
    have ed3 := Lib.hid (show decide (nm = n) = true from by simp [hm])
    clear hk hd hm
    by_cases hc : cn ≤ 1000
    ·have ed4 := Lib.hid (show decide (cn ≤ 1000) = true from by simp [hc])
     have e4 : decide ((cn : Int) ≤ 1000) = true := by simp; omega
     go_wp2_with fail
     refine HDN.out.mono ?_
     rintro e w5 ⟨rfl, hk5⟩
     go_wp2_with fail
     go_ret2
     exact ⟨by rw [ed1.out, ed2.out, ed3.out, ed4.out]; rfl, HK4.out.trans hk5⟩
    ·have ed4 := Lib.hid (show decide (cn ≤ 1000) = false from by simp; omega)
     have e4 : decide ((cn : Int) ≤ 1000) = false := by simp; omega
     go_wp2_with fail
     refine HDN.out.mono ?_
     rintro e w5 ⟨rfl, hk5⟩
     go_wp2_with fail
     go_ret2
     exact ⟨by rw [ed1.out, ed2.out, ed3.out, ed4.out]; rfl, HK4.out.trans hk5⟩
   ·have e3 : ((nm : Int) == (n : Int)) = false := by simp; omega
    have e3n : (nm == n) = false := by simp; omega
    have ed3 := Lib.hid (show decide (nm = n) = false from by simp [hm])
    clear hk hd hm
    go_wp2_with fail
    refine HDN.out.mono ?_
    rintro e w5 ⟨rfl, hk5⟩
    go_wp2_with fail
    go_ret2
    exact ⟨by rw [ed1.out, ed2.out, ed3.out]; rfl, HK4.out.trans hk5⟩
  ·have e2 : (dn == 0) = false := by simp [hd]
   have ed2 := Lib.hid (show decide (l.length = 10) = false from by simp; exact fun e => hd (HD.out.2 e))
   clear hk hd
   go_wp2_with fail
   refine HDN.out.mono ?_
   rintro e w5 ⟨rfl, hk5⟩
   go_wp2_with fail
   go_ret2
   exact ⟨by rw [ed1.out, ed2.out]; rfl, HK4.out.trans hk5⟩
 ·have e1 : (fk == 32) = false := by simp [hk]
  have ed1 := Lib.hid (show decide (fk = 32) = false from by simp [hk])
  clear hk
  go_wp2_with fail
  go_ret2
  exact ⟨by rw [ed1.out]; rfl, HK4.out⟩
def CommitDid (W : World) (n : Nat) (f : Fr1) (e : Ending) (w' : World) : Prop := e = .returned (.bool (commitB n f)) ∧ Keeps W w'
set_option maxRecDepth 100000 in
set_option maxHeartbeats 2000000 in
theorem commit_any (n : Nat) (hn : n < 9223372036854775808) (f : Fr1) (pv : Value) (w : World) (hr : Row w pv (f.pay.map u8v)) (hl : f.pay.length ≤ 35184372088832) : Calls Tryz.prog 130 #[.agg #[.int .i64 f.at', .int .i64 f.len, .int .i64 f.kind, pv], .int .i64 (n : Int)] w (CommitDid w n f) := by
 obtain ⟨p, c, rfl, -, -⟩ := hr.formB
 obtain ⟨fa, fl, fk, l⟩ := f
 have HR := Lib.hid hr
 have hll : l.length ≤ 35184372088832 := hl
 have HX : Hid (commitB n ⟨fa, fl, fk, l⟩ = (decide (numP l = n) && decide (l.length = 8) && decide (fk = 34))) := Lib.hid rfl
 obtain ⟨a1, a2, a3⟩ := u8 l
 have HA := Lib.hid (And.intro a1 (And.intro a2 a3))
 have HD := Lib.hid (d8 l)
 have hnl := numP_lt l
 have hwu := wrapU (n := n) (by omega)
 unfold CommitDid
 rw [HX.out]
 clear hr hl a1 a2 a3 HX
 show Calls Tryz.prog 130 #[.agg #[.int .i64 fa, .int .i64 fl, .int .i64 fk, .slice p l.length c], .int .i64 (n : Int)] w fun e w' => e = .returned (.bool (decide (numP l = n) && decide (l.length = 8) && decide (fk = 34))) ∧ Keeps w w'
 obtain ⟨nm, hnm⟩ : ∃ x, x = numP l := ⟨_, rfl⟩
 rw [← hnm] at hnl HA ⊢
 clear hnm
 go_enter Tryz.func130, Tryz.ntmps130
 go_upto_region 1 with fail
 generalize hW : World.alloc w _ = w1
 have HK1 := Lib.hid (show Keeps w w1 from by rw [← hW]; exact (Keeps.refl _).alloc _)
 have HQ1 := Lib.hid (show Blk w1 w.heap.size 147 #[.int .i64 fa, .int .i64 fl, .int .i64 fk, .slice p l.length c] from by rw [← hW]; exact Blk.new _ _ _ rfl)
 clear hW
 obtain ⟨q, hq⟩ : ∃ q, q = w.heap.size := ⟨_, rfl⟩
 rw [← hq] at HQ1 ⊢
 clear hq
 have q3 : w1.cell? ⟨q, 3, none⟩ = some (.slice p l.length c) := by rw [HQ1.out.cell]; rfl
 have HN := Lib.hid (newSource_any (.slice p l.length c) l w1 (HR.out.keeps HK1.out) hll)
 go_wp2_with fail
 refine HN.out.mono ?_
 rintro e w2 ⟨g, sv, rfl, hg, hS, -, hk⟩
 have HS := Lib.hid hS
 have HK2 := Lib.hid (HK1.out.trans hk)
 have HQ2 := Lib.hid (HQ1.out.keeps hk)
 have HGQ := Lib.hid (show g ≠ q from fun e => by have := HQ1.out.lt; omega)
 have HG0 := Lib.hid (show w.heap.size ≤ g from Nat.le_trans HK1.out.size hg)
 clear hS hk hg q3 HN
 have HU := Lib.hid (srcU_any g sv l 0 0 8 w2 HS.out)
 rw [HA.out.1, HA.out.2.1, HA.out.2.2] at HU
 clear HA
 by_cases hm : nm = n
 ·have e3 : ((nm : Int) == (n : Int)) = true := by simp [hm]
  have ed3 := Lib.hid (show decide (nm = n) = true from by simp [hm])
  go_wp2_with fail
  refine HU.out.mono ?_
  rintro e w3 ⟨rfl, hS, hM⟩
  have HK3 := Lib.hid (hM.keeps HK2.out (fun x hx => by subst hx; exact HG0.out))
  have HQ3 := Lib.hid (HQ2.out.mods hM (fun e => HGQ.out e.symm))
  have HDN := Lib.hid (done_any g sv l _ _ w3 hS)
  unfold QuietI at HDN
  generalize doneE (if 8 ≤ l.length then 0 else 2) (if 8 ≤ l.length then 8 else 0) l.length = dn at *
  clear hS hM HU
  have q2 : w3.cell? ⟨q, 2, none⟩ = some (.int .i64 fk) := by rw [HQ3.out.cell]; rfl
  by_cases hd : dn = 0
  ·have e2 : (dn == 0) = true := by simp [hd]
   have ed2 := Lib.hid (show decide (l.length = 8) = true from by simp [HD.out.1 hd])
   clear hd
   by_cases hk : fk = 34
   ·have e1 : (fk == 34) = true := by simp [hk]
    have ed1 := Lib.hid (show decide (fk = 34) = true from by simp [hk])
    clear hk
    go_wp2_with fail
    refine HDN.out.mono ?_
    rintro e w5 ⟨rfl, hk5⟩
    have q5 := keep1 hk5 q2
    go_wp2_with fail
    go_ret
    exact ⟨by rw [ed3.out, ed2.out, ed1.out]; rfl, HK3.out.trans hk5⟩
   ·have e1 : (fk == 34) = false := by simp [hk]
    have ed1 := Lib.hid (show decide (fk = 34) = false from by simp [hk])
    clear hk
    go_wp2_with fail
    refine HDN.out.mono ?_
    rintro e w5 ⟨rfl, hk5⟩
    have q5 := keep1 hk5 q2
    go_wp2_with fail
    go_ret
    exact ⟨by rw [ed3.out, ed2.out, ed1.out]; rfl, HK3.out.trans hk5⟩
  ·have e2 : (dn == 0) = false := by simp [hd]
   have ed2 := Lib.hid (show decide (l.length = 8) = false from by simp; exact fun e => hd (HD.out.2 e))
   clear hd
   go_wp2_with fail
   refine HDN.out.mono ?_
   rintro e w5 ⟨rfl, hk5⟩
   go_wp2_with fail
   go_ret
   exact ⟨by rw [ed3.out, ed2.out]; rfl, HK3.out.trans hk5⟩
 ·have e3 : ((nm : Int) == (n : Int)) = false := by simp; omega
  have e3n : (nm == n) = false := by simp; omega
  have ed3 := Lib.hid (show decide (nm = n) = false from by simp [hm])
  clear hm
  go_wp2_with fail
  refine HU.out.mono ?_
  rintro e w3 ⟨rfl, hS, hM⟩
  have HK3 := Lib.hid (hM.keeps HK2.out (fun x hx => by subst hx; exact HG0.out))
  clear hS hM
  go_wp2_with fail
  go_ret
  exact ⟨by rw [ed3.out]; rfl, HK3.out⟩
end Txl
end Go.Proofs.YtchjncnolmiejaaGreat

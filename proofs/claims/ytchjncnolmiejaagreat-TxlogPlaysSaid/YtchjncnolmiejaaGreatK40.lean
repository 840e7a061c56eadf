/- Several texts in one: RfUnlink, RfName, RfRename, RfCreate, RfOver, RfUsed, RfWith. -/
import Derived.Test.YtchjncnolmiejaaGreatK39
import Derived.Test.YtchjncnolmiejaaGreatVdNext
/- The document's disk: Find, Unlink, SyncDir, Arm, Failing. -/
namespace Go.Proofs.YtchjncnolmiejaaGreat
open Go.RowKit
namespace Rf
open Vd
theorem doR_len (l : Nms) (t : RTurn) : (doR l t).length ≤ l.length + 1 := by
 unfold doR
 split
 ·split
  ·omega
  ·split
   ·have := without_le l t.frm; omega
   ·have := without_le l t.frm
    have := put_len (withoutL l t.frm) t.dst ‹Nat›
    omega
 ·split
  ·omega
  ·exact put_len _ _ _
theorem doR_asc {l : Nms} (h : AscN l) (t : RTurn) : AscN (doR l t) := by
 unfold doR
 split
 ·split
  ·exact h
  ·split
   ·exact asc_without h _
   ·exact ascN_put (asc_without h _) _ _
 ·split
  ·exact h
  ·exact ascN_put h _ _
theorem doR_in {l : Nms} (ha : AscN l) {n : Nat} (h : ∀ p ∈ l, p.2 < n) {t : RTurn} (ht : t.file < (n : Int)) : ∀ p ∈ doR l t, p.2 < n := by
 have hw : ∀ x, ∀ p ∈ withoutL l x, p.2 < n := fun x p hp => h p (List.mem_filter.1 hp).1
 unfold doR
 split
 ·split
  ·exact h
  ·rename_i f hl
   have hf : f < n := h _ ((look_mem ha).1 hl)
   split
   ·exact hw _
   ·intro p hp
    rcases put_mem hp with hp | rfl
    ·exact hw _ p hp
    ·exact hf
 ·split
  ·exact h
  ·intro p hp
   rcases put_mem hp with hp | rfl
   ·exact h p hp
   ·show t.file.toNat < n
    omega
theorem turn_fit {d : RDsk} {k : Nat} (h : RFit d k) {t : RTurn} (ht : t.file < (d.files.length : Int)) : RFit (turnR d t) (k + 1) :=
 {h.more (Nat.le_succ k) with
  n := by have := doR_len d.now t; have := h.n; show (doR d.now t).length ≤ _; omega
  w := by have := h.w; simp [turnR]; omega
  an := doR_asc h.an t
  is := doR_in h.an h.is ht }
section
variable {w : World} {M : Nat → Prop} {m : Nat} {d : RDsk} {k : Nat}
/-- what a call makes of the document's disk -/
def RDid (W : World) (M : Nat → Prop) (m : Nat) (r : RDsk × Int) (k : Nat) (e : Ending) (w' : World) : Prop := e = .returned (.int .i64 r.2) ∧ RefAt w' (More M W w') m r.1 k ∧ Mods (· = m) W w'
theorem rfind_r (h : RefAt w M m d k) (x : Str) : Calls Tryz.prog 42 #[.pointer (some ⟨m, 0, none⟩), .string (bstr x)] w fun e w' => e = .returned (.int .i64 (findR d.now x)) ∧ w = w' := by
 obtain ⟨fv, nv, sv, wv, fw, h⟩ := h
 have HC := Lib.hid (find_r w (NmsOwn.at_ h.now) x)
 obtain ⟨-, c1, -⟩ := h.cells
 obtain ⟨pn, cn, rfl, -, -⟩ := Frm.ownsRow_form h.now
 clear h
 go_enter Tryz.func42, Tryz.ntmps42
 go_wp2_with fail
 refine HC.out.mono ?_
 rintro e w2 ⟨rfl, rfl⟩
 go_wp2_with fail
 go_ret
 exact ⟨rfl, rfl⟩
theorem beginR_files (d : RDsk) : (beginR d).1.files = d.files ∧ (beginR d).1.now = d.now ∧ (beginR d).1.sure = d.sure ∧ (beginR d).1.waits = d.waits ∧ (beginR d).1.cap = d.cap := by
 unfold beginR
 split
 ·exact ⟨rfl, rfl, rfl, rfl, rfl⟩
 ·split
  ·exact ⟨rfl, rfl, rfl, rfl, rfl⟩
  ·split <;> exact ⟨rfl, rfl, rfl, rfl, rfl⟩
theorem Mods.more_of {w1 w2 : World} (h : Mods (· = m) w w1) (h2 : RefAt w2 (More M w1 w2) m d k) : RefAt w2 (More M w w2) m d k := h2.wide (fun y hy => hy.imp id (fun hh => ⟨Nat.le_trans h.size hh.1, hh.2⟩))
set_option maxRecDepth 100000 in
set_option maxHeartbeats 2000000 in
theorem runlink_r (h : RefAt w M m d k) (hk : k ≤ 100000) (x : Str) : Calls Tryz.prog 49 #[.pointer (some ⟨m, 0, none⟩), .string (bstr x)] w (RDid w M m (unlinkR d x) (k + 2)) := by
 have HB := Lib.hid (begin_r w h (by omega))
 have HX0 : Hid (unlinkR d x = if (beginR d).2 ≠ 0 then beginR d else if (Vd.look d.now x).isSome then (turnR (beginR d).1 ⟨x, [], -1⟩, 0) else ((beginR d).1, 7)) := Lib.hid rfl
 have HFI := Lib.hid (beginR_files d)
 clear h
 unfold RDid
 generalize beginR d = r at *
 obtain ⟨d1, er⟩ := r
 simp only at HB HX0 HFI
 go_enter Tryz.func49, Tryz.ntmps49
 go_wp2_with fail
 refine HB.out.mono ?_
 rintro e w1 ⟨rfl, h1, hm1⟩
 have H1 := Lib.hid h1
 have HM1 := Lib.hid hm1
 clear h1 hm1 HB
 by_cases he : er = 0
 ·subst he
  have HX1 := Lib.hid (HX0.out.trans (if_neg (by simp)))
  have HF := Lib.hid (rfind_r H1.out x)
  have HFR : Hid (findR d1.now x = match Vd.look d1.now x with | none => -1 | some i => (i : Int)) := Lib.hid rfl
  cases hl : Vd.look d1.now x with
  | none =>
   have HX := Lib.hid (HX1.out.trans (if_neg (by rw [← HFI.out.2.1, hl]; simp)))
   have hfr : findR d1.now x = -1 := by rw [HFR.out, hl]
   rw [hfr] at HF
   clear hfr hl HFR
   go_wp2_with fail
   refine HF.out.mono ?_
   rintro e w2 ⟨rfl, rfl⟩
   go_wp2_with fail
   go_ret
   rw [HX.out]
   exact ⟨rfl, (H1.out.wide (fun y hy => .inl hy)).more (by omega), HM1.out⟩
  | some i =>
   have HX := Lib.hid (HX1.out.trans (if_pos (by rw [← HFI.out.2.1, hl]; rfl)))
   have hfr : findR d1.now x = (i : Int) := by rw [HFR.out, hl]
   rw [hfr] at HF
   have HT := Lib.hid (turn_r w1 H1.out (by omega) ⟨x, [], -1⟩ (by
    obtain ⟨_, _, _, _, _, hh⟩ := H1.out
    exact turn_fit hh.fit (by show (-1 : Int) < _; omega)))
   unfold trA at HT
   clear hfr hl HFR
   go_wp2_with fail
   refine HF.out.mono ?_
   rintro e w2 ⟨rfl, rfl⟩
   go_wp2_with fail
   refine HT.out.mono ?_
   rintro e w2 ⟨rfl, h2, hm2⟩
   have H2 := Lib.hid h2
   have HM2 := Lib.hid hm2
   clear h2 hm2 HT HF
   go_wp2_with fail
   go_ret
   rw [HX.out]
   exact ⟨rfl, Mods.more_of HM1.out H2.out, HM1.out.trans HM2.out (fun y hy _ => hy)⟩
 ·have HX := Lib.hid (HX0.out.trans (if_pos he))
  have he' : (er != 0) = true := by simp [he]
  clear he
  go_wp2_with fail
  go_ret
  rw [HX.out]
  exact ⟨rfl, (H1.out.wide (fun y hy => .inl hy)).more (by omega), HM1.out⟩
set_option maxRecDepth 100000 in
set_option maxHeartbeats 2000000 in
theorem rsyncDir_r (h : RefAt w M m d k) (hk : k ≤ 100000) : Calls Tryz.prog 74 #[.pointer (some ⟨m, 0, none⟩)] w (RDid w M m (syncDirR d) (k + 1)) := by
 have HB := Lib.hid (begin_r w h (by omega))
 have HX0 : Hid (syncDirR d = if (beginR d).2 ≠ 0 then beginR d else ({ (beginR d).1 with sure := d.now, waits := [] }, 0)) := Lib.hid rfl
 have HFI := Lib.hid (beginR_files d)
 clear h
 unfold RDid
 generalize beginR d = r at *
 obtain ⟨d1, er⟩ := r
 simp only at HB HX0 HFI
 go_enter Tryz.func74, Tryz.ntmps74
 go_wp2_with fail
 refine HB.out.mono ?_
 rintro e w1 ⟨rfl, h1, hm1⟩
 have H1 := Lib.hid h1
 have HM1 := Lib.hid hm1
 clear h1 hm1 HB
 by_cases he : er = 0
 ·subst he
  have HX := Lib.hid (HX0.out.trans (if_neg (by simp)))
  obtain ⟨fv, nv, sv, wv, fw, h1⟩ := H1.out
  have HI := Lib.hid h1
  obtain ⟨-, c1, c2, c3, -⟩ := h1.cells
  have z2 : w1.frozen? ⟨m, 2, none⟩ = false := h1.blk.frozen _
  have z3 : w1.frozen? ⟨m, 3, none⟩ = false := h1.blk.frozen _
  obtain ⟨pn, cn, rfl, -, -⟩ := Frm.ownsRow_form h1.now
  clear h1
  go_wp2_with fail
  go_ret
  have hM := ((Mods.refl (· = m) w1).setCell (p := ⟨m, 2, none⟩) (fun _ => rfl) (.slice pn d1.now.length cn)).setCell (p := ⟨m, 3, none⟩) (fun _ => rfl) (.slice none 0 0)
  obtain ⟨r1, r2, r3, r4, r5⟩ := HI.out.rows hM
  rw [HX.out]
  refine ⟨rfl, ⟨fv, .slice pn d1.now.length cn, .slice pn d1.now.length cn, .slice none 0 0, fw, ?_⟩, HM1.out.trans hM (fun y hy _ => hy)⟩
  rw [← HFI.out.2.1]
  exact
   {blk := (HI.out.blk.set_ 2 _).set_ 3 _
    files := r1, len := HI.out.len, waits := r2, now := r3, sure := r3, turns := World.ownsRow_nil _ _ _ 3
    sm := .inl HI.out.sm, sf := fun y hy => .inl (HI.out.sf y hy), sn := fun y hy => .inl (HI.out.sn y hy), ss := fun y hy => .inl (HI.out.sn y hy)
    st := fun y hy => by simp [Value.ownBlock] at hy
    sw := fun v hv y hy => .inl (HI.out.sw v hv y hy)
    fit := { HI.out.fit with s := HI.out.fit.n, w := Nat.zero_le _, au := HI.out.fit.an } }
 ·have HX := Lib.hid (HX0.out.trans (if_pos he))
  have he' : (er != 0) = true := by simp [he]
  clear he
  go_wp2_with fail
  go_ret
  rw [HX.out]
  exact ⟨rfl, H1.out.wide (fun y hy => .inl hy), HM1.out⟩
def armR (n e : Int) : Int := if n < 0 ∨ e = 0 then -1 else n
theorem arm_r (n e : Int) : Calls Tryz.prog 19 #[.int .i64 n, .int .i64 e] w fun r w' => r = .returned (.int .i64 (armR n e)) ∧ w = w' := by
 by_cases h1 : n < 0
 ·have HX : Hid (armR n e = -1) := Lib.hid (if_pos (.inl h1))
  go_enter Tryz.func19, Tryz.ntmps19
  go_wp2_with fail
  go_ret
  exact ⟨by rw [HX.out]; rfl, rfl⟩
 ·by_cases h2 : e = 0
  ·subst h2
   have HX : Hid (armR n 0 = -1) := Lib.hid (if_pos (.inr rfl))
   go_enter Tryz.func19, Tryz.ntmps19
   go_wp2_with fail
   go_ret
   exact ⟨by rw [HX.out]; rfl, rfl⟩
  ·have HX : Hid (armR n e = n) := Lib.hid (if_neg (by omega))
   have e1 : (e == 0) = false := by simp [h2]
   clear h2
   go_enter Tryz.func19, Tryz.ntmps19
   go_wp2_with fail
   go_ret
   exact ⟨by rw [HX.out]; rfl, rfl⟩
def failingR (n e : Int) : Int := if e = 11 then -1 else armR n e
theorem failing_r (n e : Int) : Calls Tryz.prog 17 #[.int .i64 n, .int .i64 e] w fun r w' => r = .returned (.int .i64 (failingR n e)) ∧ w = w' := by
 have HA := Lib.hid (arm_r (w := w) n e)
 by_cases h : e = 11
 ·have HX : Hid (failingR n e = -1) := Lib.hid (if_pos h)
  have e1 : (e == 11) = true := by simp [h]
  clear h
  go_enter Tryz.func17, Tryz.ntmps17
  go_wp2_with fail
  go_ret
  exact ⟨by rw [HX.out]; rfl, rfl⟩
 ·have HX : Hid (failingR n e = armR n e) := Lib.hid (if_neg h)
  have e1 : (e == 11) = false := by simp [h]
  clear h
  generalize armR n e = r at *
  go_enter Tryz.func17, Tryz.ntmps17
  go_wp2_with fail
  refine HA.out.mono ?_
  rintro e2 w2 ⟨rfl, rfl⟩
  go_wp2_with fail
  go_ret
  exact ⟨by rw [HX.out]; rfl, rfl⟩
end
end Rf
end Go.Proofs.YtchjncnolmiejaaGreat

/- The document's disk: Name. -/
namespace Go.Proofs.YtchjncnolmiejaaGreat
open Go.RowKit
namespace Rf
open Vd
theorem letter_fin : ∀ n : Fin 256, letterB (UInt8.ofNat n.val) = (decide (97 ≤ n.val ∧ n.val ≤ 122) || decide (48 ≤ n.val ∧ n.val ≤ 57) || decide (n.val = 46) || decide (n.val = 45)) := by decide +kernel
theorem letter_nat (c : UInt8) : letterB c = (decide (97 ≤ c.toNat ∧ c.toNat ≤ 122) || decide (48 ≤ c.toNat ∧ c.toNat ≤ 57) || decide (c.toNat = 46) || decide (c.toNat = 45)) := by
 have := letter_fin ⟨c.toNat, c.toNat_lt⟩
 simpa using this
set_option maxRecDepth 100000 in
set_option maxHeartbeats 4000000 in
theorem name_r (w : World) (l : Str) (hn : l.length ≤ 9000000000000000000) : Calls Tryz.prog 37 #[.string (bstr l)] w fun e w' => e = .returned (.bool (namedB l)) ∧ w = w' := by
 have HSZ := Lib.hid (bstr_size l)
 have HGE := Lib.hid (fun (j : Nat) (h : j < (bstr l).size) => show (bstr l)[j] = l[j]'(by rw [bstr_size] at h; exact h) from rfl)
 obtain ⟨n, hnn⟩ : ∃ n, n = (bstr l).size := ⟨_, rfl⟩
 have hnl : n = l.length := by rw [hnn, HSZ.out]
 by_cases h0 : n < 1
 ·have HX := Lib.hid (show namedB l = false from by
   have : l = [] := List.eq_nil_of_length_eq_zero (by omega)
   rw [this]; rfl)
  have h0' : ((bstr l).size : Int) < 1 := by rw [← hnn]; omega
  go_enter Tryz.func37, Tryz.ntmps37
  go_wp2_with fail
  go_ret
  exact ⟨by rw [HX.out]; rfl, rfl⟩
 ·by_cases h32 : 32 < n
  ·have HX := Lib.hid (show namedB l = false from by
    unfold namedB
    rw [decide_eq_false (show ¬ l.length ≤ 32 by omega), Bool.and_false])
   have h0' : ¬ ((bstr l).size : Int) < 1 := by rw [← hnn]; omega
   have h1' : (32 : Int) < ((bstr l).size : Int) := by rw [← hnn]; omega
   go_enter Tryz.func37, Tryz.ntmps37
   go_wp2_with fail
   go_ret
   exact ⟨by rw [HX.out]; rfl, rfl⟩
  ·have h0' : ¬ ((bstr l).size : Int) < 1 := by rw [← hnn]; omega
   have h1' : ¬ (32 : Int) < ((bstr l).size : Int) := by rw [← hnn]; omega
   have HNL := Lib.hid (And.intro hnl hnn)
   clear hnl hnn
   go_enter Tryz.func37, Tryz.ntmps37
   go_wp2_with fail
   go_loopw [3] (fun i wr => ∃ j : Nat, i = .int .i64 (j : Int) ∧ j ≤ (bstr l).size ∧ Hid ((l.take j).all letterB = true) ∧ w = wr) (fun i _ => (bstr l).size - (RowKit.intOf i).toNat)
   case atStart => exact ⟨0, rfl, Nat.zero_le _, Lib.hid rfl, rfl⟩
   case round =>
    obtain ⟨j, rfl, hj, HA, rfl⟩ := hrel
    by_cases hlt : j < (bstr l).size
    ·have hll : j < l.length := by rw [← HSZ.out]; exact hlt
     have HLN := Lib.hid (letter_nat l[j])
     have HNO := Lib.hid (named_not (j := j) hll)
     have HLT := Lib.hid (letters_take hll HA.out)
     have hge := HGE.out j hlt
     have hcl := l[j].toNat_lt
     have hlt' : (j : Int) < ((bstr l).size : Int) := by omega
     obtain ⟨cn, hcn⟩ : ∃ cn, cn = ((bstr l)[j]'hlt).toNat := ⟨_, rfl⟩
     have hcn2 : cn = l[j].toNat := by rw [hcn, hge]
     rw [← hcn2] at HLN hcl
     clear hcn2 hge
     have hlet : (97 ≤ cn ∧ cn ≤ 122) ∨ (48 ≤ cn ∧ cn ≤ 57) ∨ cn = 46 ∨ cn = 45 ∨ cn < 45 ∨ cn = 47 ∨ (58 ≤ cn ∧ cn < 97) ∨ 122 < cn := by omega
     go_upto_region 7 with fail
     rw [← hcn]
     clear hcn
     rcases hlet with hlet | hlet | hlet | hlet | hlet | hlet | hlet | hlet
     ·have HT := Lib.hid (HLT.out (by rw [HLN.out]; simp; omega))
      clear HLT HLN HNO
      go_wp2_with fail
      go_roundw
      case rel => exact ⟨j + 1, by simp, by omega, HT, trivial⟩
      case measure =>
       simp only [RowKit.intOf]
       omega
     ·have HT := Lib.hid (HLT.out (by rw [HLN.out]; simp; omega))
      clear HLT HLN HNO
      go_wp2_with fail
      go_roundw
      case rel => exact ⟨j + 1, by simp, by omega, HT, trivial⟩
      case measure =>
       simp only [RowKit.intOf]
       omega
     ·have HT := Lib.hid (HLT.out (by rw [HLN.out]; simp; omega))
      clear HLT HLN HNO
      go_wp2_with fail
      go_roundw
      case rel => exact ⟨j + 1, by simp, by omega, HT, trivial⟩
      case measure =>
       simp only [RowKit.intOf]
       omega
     ·have HT := Lib.hid (HLT.out (by rw [HLN.out]; simp; omega))
      clear HLT HLN HNO
      go_wp2_with fail
      go_roundw
      case rel => exact ⟨j + 1, by simp, by omega, HT, trivial⟩
      case measure =>
       simp only [RowKit.intOf]
       omega
     ·have HT := Lib.hid (HNO.out (by rw [HLN.out]; simp; omega))
      clear HLT HLN HNO
      have q1 : decide ((97 : Int) ≤ (cn : Int)) = false := by simp; omega
      have q2 : decide ((cn : Int) ≤ 122) = true := by simp; omega
      have q3 : decide ((48 : Int) ≤ (cn : Int)) = false := by simp; omega
      have q4 : decide ((cn : Int) ≤ 57) = true := by simp; omega
      have q5 : ((cn : Int) != 46) = true := by simp; omega
      have q6 : ((cn : Int) != 45) = true := by simp; omega
      go_wp2_with fail
      go_ret
      exact ⟨by rw [HT.out]; rfl, rfl⟩
     ·have HT := Lib.hid (HNO.out (by rw [HLN.out]; simp; omega))
      clear HLT HLN HNO
      have q1 : decide ((97 : Int) ≤ (cn : Int)) = false := by simp; omega
      have q2 : decide ((cn : Int) ≤ 122) = true := by simp; omega
      have q3 : decide ((48 : Int) ≤ (cn : Int)) = false := by simp; omega
      have q4 : decide ((cn : Int) ≤ 57) = true := by simp; omega
      have q5 : ((cn : Int) != 46) = true := by simp; omega
      have q6 : ((cn : Int) != 45) = true := by simp; omega
      go_wp2_with fail
      go_ret
      exact ⟨by rw [HT.out]; rfl, rfl⟩
     ·have HT := Lib.hid (HNO.out (by rw [HLN.out]; simp; omega))
      clear HLT HLN HNO
      have q1 : decide ((97 : Int) ≤ (cn : Int)) = false := by simp; omega
      have q2 : decide ((cn : Int) ≤ 122) = true := by simp; omega
      have q3 : decide ((48 : Int) ≤ (cn : Int)) = true := by simp; omega
      have q4 : decide ((cn : Int) ≤ 57) = false := by simp; omega
      have q5 : ((cn : Int) != 46) = true := by simp; omega
      have q6 : ((cn : Int) != 45) = true := by simp; omega
      go_wp2_with fail
      go_ret
      exact ⟨by rw [HT.out]; rfl, rfl⟩
     ·have HT := Lib.hid (HNO.out (by rw [HLN.out]; simp; omega))
      clear HLT HLN HNO
      have q1 : decide ((97 : Int) ≤ (cn : Int)) = true := by simp; omega
      have q2 : decide ((cn : Int) ≤ 122) = false := by simp; omega
      have q3 : decide ((48 : Int) ≤ (cn : Int)) = true := by simp; omega
      have q4 : decide ((cn : Int) ≤ 57) = false := by simp; omega
      have q5 : ((cn : Int) != 46) = true := by simp; omega
      have q6 : ((cn : Int) != 45) = true := by simp; omega
      go_wp2_with fail
      go_ret
      exact ⟨by rw [HT.out]; rfl, rfl⟩
    ·have hjl : j = l.length := by rw [← HSZ.out]; omega
     have HX := Lib.hid (show namedB l = true from by
      have h1 := HA.out
      rw [hjl, List.take_length] at h1
      have h2 := HNL.out.1
      unfold namedB
      rw [h1, decide_eq_true (show l.length ≤ 32 by omega)]
      cases l with
      | nil => simp at h2; omega
      | cons a l => rfl)
     have hlt' : decide ((j : Int) < ((bstr l).size : Int)) = false := by simp; omega
     clear HA hjl
     go_wp2_with fail
     go_ret
     exact ⟨by rw [HX.out]; rfl, rfl⟩
end Rf
end Go.Proofs.YtchjncnolmiejaaGreat

/- The document's disk: Rename. -/
namespace Go.Proofs.YtchjncnolmiejaaGreat
open Go.RowKit
namespace Rf
open Vd
section
variable {w : World} {M : Nat → Prop} {m : Nat} {d : RDsk} {k : Nat}
set_option maxRecDepth 100000 in
set_option maxHeartbeats 2000000 in
theorem rrename_r (h : RefAt w M m d k) (hk : k ≤ 100000) (x y : Str) (hy : y.length ≤ 9000000000000000000) : Calls Tryz.prog 51 #[.pointer (some ⟨m, 0, none⟩), .string (bstr x), .string (bstr y)] w (RDid w M m (renameR d x y) (k + 2)) := by
 have HB := Lib.hid (begin_r w h (by omega))
 have HX0 : Hid (renameR d x y = if (beginR d).2 ≠ 0 then beginR d else if namedB y = false then ((beginR d).1, 3) else if (Vd.look d.now x).isSome then (turnR (beginR d).1 ⟨x, y, -1⟩, 0) else ((beginR d).1, 7)) := Lib.hid rfl
 have HFI := Lib.hid (beginR_files d)
 clear h
 unfold RDid
 generalize beginR d = r at *
 obtain ⟨d1, er⟩ := r
 simp only at HB HX0 HFI
 go_enter Tryz.func51, Tryz.ntmps51
 go_wp2_with fail
 refine HB.out.mono ?_
 rintro e w1 ⟨rfl, h1, hm1⟩
 have H1 := Lib.hid h1
 have HM1 := Lib.hid hm1
 clear h1 hm1 HB
 by_cases he : er = 0
 ·subst he
  have HXN := Lib.hid (HX0.out.trans (if_neg (by simp)))
  have HNM := Lib.hid (name_r w1 y hy)
  cases hny : namedB y with
  | false =>
   have HX := Lib.hid (HXN.out.trans (if_pos hny))
   rw [hny] at HNM
   clear hny HX0
   go_wp2_with fail
   refine HNM.out.mono ?_
   rintro e w2 ⟨rfl, rfl⟩
   go_wp2_with fail
   go_ret
   rw [HX.out]
   exact ⟨rfl, (H1.out.wide (fun y hy => .inl hy)).more (by omega), HM1.out⟩
  | true =>
  have HX1 := Lib.hid (HXN.out.trans (if_neg (by simp [hny])))
  rw [hny] at HNM
  clear hny
  have HF := Lib.hid (rfind_r H1.out x)
  have HFR : Hid (findR d1.now x = match Vd.look d1.now x with | none => -1 | some i => (i : Int)) := Lib.hid rfl
  cases hl : Vd.look d1.now x with
  | none =>
   have HX := Lib.hid (HX1.out.trans (if_neg (by rw [← HFI.out.2.1, hl]; simp)))
   have hfr : findR d1.now x = -1 := by rw [HFR.out, hl]
   rw [hfr] at HF
   clear hfr hl HFR
   go_wp2_with fail
   refine HNM.out.mono ?_
   rintro e w2 ⟨rfl, rfl⟩
   go_wp2_with fail
   refine HF.out.mono ?_
   rintro e w2 ⟨rfl, rfl⟩
   go_wp2_with fail
   go_ret
   rw [HX.out]
   exact ⟨rfl, (H1.out.wide (fun y hy => .inl hy)).more (by omega), HM1.out⟩
  | some i =>
   have HX := Lib.hid (HX1.out.trans (if_pos (by rw [← HFI.out.2.1, hl]; rfl)))
   have hfr : findR d1.now x = (i : Int) := by rw [HFR.out, hl]
   rw [hfr] at HF
   have HT := Lib.hid (turn_r w1 H1.out (by omega) ⟨x, y, -1⟩ (by
    obtain ⟨_, _, _, _, _, hh⟩ := H1.out
    exact turn_fit hh.fit (by show (-1 : Int) < _; omega)))
   unfold trA at HT
   clear hfr hl HFR
   go_wp2_with fail
   refine HNM.out.mono ?_
   rintro e w2 ⟨rfl, rfl⟩
   go_wp2_with fail
   refine HF.out.mono ?_
   rintro e w2 ⟨rfl, rfl⟩
   go_wp2_with fail
   refine HT.out.mono ?_
   rintro e w2 ⟨rfl, h2, hm2⟩
   have H2 := Lib.hid h2
   have HM2 := Lib.hid hm2
   clear h2 hm2 HT HF
   go_wp2_with fail
   go_ret
   rw [HX.out]
   exact ⟨rfl, Mods.more_of HM1.out H2.out, HM1.out.trans HM2.out (fun y hy _ => hy)⟩
 ·have HX := Lib.hid (HX0.out.trans (if_pos he))
  have he' : (er != 0) = true := by simp [he]
  clear he
  go_wp2_with fail
  go_ret
  rw [HX.out]
  exact ⟨rfl, (H1.out.wide (fun y hy => .inl hy)).more (by omega), HM1.out⟩
end
end Rf
end Go.Proofs.YtchjncnolmiejaaGreat

/- The document's disk: Create. -/
namespace Go.Proofs.YtchjncnolmiejaaGreat
open Go.RowKit
namespace Rf
open Vd
theorem filok : ElemOkS Tryz.prog 55 93 3 56 := elemOkS (z := .agg #[.string (bstr []), .string (bstr []), .slice none 0 0]) Tryz.underlying55 (by kernel_rfl) rfl
theorem zero_row {w : World} {base b : Nat} {e : TypeId} {C : Nat} (hb : b = w.heap.size) (hbase : base ≤ b) : (w.alloc (.cells #[] e)).ownsRow base e C (.slice (some ⟨b, 0, none⟩) 0 0) 0 [] := by
 subst hb
 refine ⟨by simp, .inr ⟨w.heap.size, 0, #[], rfl, hbase, ?_, Nat.le_refl _, Nat.zero_le _, by simp, by simp⟩⟩
 show (w.heap.push _)[w.heap.size]? = _
 simp
theorem filC_flat {l : List (RFil × Value)} (h : ∀ p ∈ l, p.2.oneCell' = true) : ∀ u ∈ l.flatMap filC, u.oneCell' = true := fun u hu => by
 obtain ⟨p, hp, hq⟩ := List.mem_flatMap.1 hu
 simp [filC] at hq
 rcases hq with rfl | rfl | rfl
 ·rfl
 ·rfl
 ·exact h p hp
def bornR (d : RDsk) : RDsk := { d with files := d.files ++ [filR0] }
theorem born_fit {d : RDsk} {k : Nat} (h : RFit d k) : RFit (bornR d) (k + 1) :=
 {h.more (Nat.le_succ k) with
  f := by have := h.f; simp [bornR]; omega
  p := fun x hx => by
   rcases List.mem_append.1 hx with hx | hx
   ·exact Nat.le_succ_of_le (h.p x hx)
   ·simp at hx; subst hx; exact Nat.zero_le _
  b := fun x hx => by
   rcases List.mem_append.1 hx with hx | hx
   ·exact h.b x hx
   ·simp at hx; subst hx; exact ⟨Nat.zero_le _, Nat.zero_le _⟩
  is := fun p hp => by have := h.is p hp; simp [bornR]; omega }
section
variable {w : World} {M : Nat → Prop} {m : Nat} {d : RDsk} {k : Nat}
theorem RefIn.one {fv nv sv wv : Value} {fw : List Value} (h : RefIn w M m fv nv sv wv fw d k) : ∀ p ∈ d.files.zip fw, p.2.oneCell' = true := fun p hp => by
 have h2 := (List.of_mem_zip hp).2
 obtain ⟨i, hi, he⟩ := List.mem_iff_getElem.1 h2
 obtain ⟨po, c, hv, -, -⟩ := Frm.ownsRow_form (h.waits i hi (by rw [← h.len]; exact hi))
 rw [← he, hv]
 rfl
set_option maxRecDepth 100000 in
set_option maxHeartbeats 4000000 in
theorem rcreate_r (h : RefAt w M m d k) (hk : k ≤ 100000) (x : Str) (hx : x.length ≤ 9000000000000000000) : Calls Tryz.prog 50 #[.pointer (some ⟨m, 0, none⟩), .string (bstr x)] w (RDid w M m (createR d x) (k + 3)) := by
 have HB := Lib.hid (begin_r w h (by omega))
 have HX0 : Hid (createR d x = if (beginR d).2 ≠ 0 then beginR d else if namedB x = false then ((beginR d).1, 3) else if (Vd.look d.now x).isSome then ((beginR d).1, 8) else if d.now.length = 1024 then ((beginR d).1, 6) else (turnR { (beginR d).1 with files := d.files ++ [filR0] } ⟨[], x, d.files.length⟩, 0)) := Lib.hid rfl
 have HFI := Lib.hid (beginR_files d)
 clear h
 unfold RDid
 generalize beginR d = r at *
 obtain ⟨d1, er⟩ := r
 simp only at HB HX0 HFI
 obtain ⟨f1, f2, -⟩ := HFI.out
 rw [← f1, ← f2] at HX0
 clear f1 f2
 go_enter Tryz.func50, Tryz.ntmps50
 go_wp2_with fail
 refine HB.out.mono ?_
 rintro e w1 ⟨rfl, h1, hm1⟩
 have H1 := Lib.hid h1
 have HM1 := Lib.hid hm1
 clear h1 hm1 HB
 have HOUT := Lib.hid (show RefAt w1 (More M w w1) m d1 (k + 3) from (H1.out.wide (fun y hy => .inl hy)).more (by omega))
 by_cases he : er = 0
 ·subst he
  have HXN := Lib.hid (HX0.out.trans (if_neg (by simp)))
  have HNM := Lib.hid (name_r w1 x hx)
  cases hny : namedB x with
  | false =>
   have HX := Lib.hid (HXN.out.trans (if_pos hny))
   rw [hny] at HNM
   clear hny HX0
   go_wp2_with fail
   refine HNM.out.mono ?_
   rintro e w2 ⟨rfl, rfl⟩
   go_wp2_with fail
   go_ret
   rw [HX.out]
   exact ⟨rfl, HOUT.out, HM1.out⟩
  | true =>
   have HX1 := Lib.hid (HXN.out.trans (if_neg (by simp [hny])))
   rw [hny] at HNM
   have HF := Lib.hid (rfind_r H1.out x)
   have HFR : Hid (findR d1.now x = match Vd.look d1.now x with | none => -1 | some i => (i : Int)) := Lib.hid rfl
   clear hny
   cases hl : Vd.look d1.now x with
   | some i =>
    have HX := Lib.hid (HX1.out.trans (if_pos (by rw [hl]; rfl)))
    have hfr : findR d1.now x = (i : Int) := by rw [HFR.out, hl]
    rw [hfr] at HF
    clear hfr hl HFR
    go_wp2_with fail
    refine HNM.out.mono ?_
    rintro e w2 ⟨rfl, rfl⟩
    go_wp2_with fail
    refine HF.out.mono ?_
    rintro e w2 ⟨rfl, rfl⟩
    go_wp2_with fail
    go_ret
    rw [HX.out]
    exact ⟨rfl, HOUT.out, HM1.out⟩
   | none =>
    have HX2 := Lib.hid (HX1.out.trans (if_neg (by rw [hl]; simp)))
    have hfr : findR d1.now x = -1 := by rw [HFR.out, hl]
    rw [hfr] at HF
    obtain ⟨fv, nv, sv, wv, fw, hi⟩ := H1.out
    have HI := Lib.hid hi
    obtain ⟨c0, c1, -⟩ := hi.cells
    obtain ⟨pn, cn, rfl, -, -⟩ := Frm.ownsRow_form hi.now
    obtain ⟨pf, cf, rfl, -, -⟩ := Frm.ownsRow_form hi.files
    clear hfr hl HFR hi
    by_cases hfull : d1.now.length = 1024
    ·have HX := Lib.hid (HX2.out.trans (if_pos hfull))
     have ht : ((d1.now.length : Int) == 1024) = true := by simp [hfull]
     clear hfull
     go_wp2_with fail
     refine HNM.out.mono ?_
     rintro e w2 ⟨rfl, rfl⟩
     go_wp2_with fail
     refine HF.out.mono ?_
     rintro e w2 ⟨rfl, rfl⟩
     go_wp2_with fail
     go_ret
     rw [HX.out]
     exact ⟨rfl, HOUT.out, HM1.out⟩
    ·have HX := Lib.hid (HX2.out.trans (if_neg hfull))
     have ht : ((d1.now.length : Int) == 1024) = false := by simp; omega
     clear hfull
     go_wp2_with fail
     refine HNM.out.mono ?_
     rintro e w2 ⟨rfl, rfl⟩
     go_wp2_with fail
     refine HF.out.mono ?_
     rintro e w2 ⟨rfl, rfl⟩
     obtain ⟨n, hn⟩ : ∃ n, n = d1.files.length := ⟨_, rfl⟩
     have hnk : n ≤ 200000 := by have := HI.out.fit.f; omega
     have HN := Lib.hid hn
     have HFL := Lib.hid (show w1.ownsRow 0 93 3 (.slice pf n cf) n ((d1.files.zip fw).flatMap filC) from by rw [hn]; exact HI.out.files)
     have HBL := Lib.hid (show Blk w1 m 59 (rdA d1 (.slice pf n cf) (.slice pn d1.now.length cn) sv wv) from by rw [hn]; exact HI.out.blk)
     rw [← hn] at c0
     have c0' := keep1 ((Keeps.refl w1).alloc (.cells #[] 93)) c0
     clear hn HF HNM
     go_upto_region 11 with (first
      | (at_builtin; refine wpList_apps (base := w1.heap.size) filok (by decide) rfl _ _ rfl (.slice (some ⟨w1.heap.size, 0, none⟩) 0 0) (.slice pf n cf) 0 n [] ((d1.files.zip fw).flatMap filC) rfl rfl (zero_row rfl (Nat.le_refl _)) (rowS_of (Frm.ownsRow_keeps HFL.out ((Keeps.refl _).alloc _))) (filC_flat HI.out.one) (by omega) (by decide) (by rw [Frm.alloc_size]; omega) ?_; intro v3 w3 ho3 hg3 hf3; obtain ⟨p3, c3, rfl, -, -⟩ := Frm.ownsRow_form ho3; have HO3 := Lib.hid (show w3.ownsRow w1.heap.size 93 3 (.slice p3 n c3) n ((d1.files.zip fw).flatMap filC) from by simpa using ho3); have HK3 := Lib.hid (show Keeps w1 w3 from ((Keeps.refl w1).alloc _).grown hg3 (fun k hk => by simp [Value.ownBlock] at hk; omega)); have hs3 := HK3.out.size; clear ho3 hg3 hf3)
      | (at_builtin; go_loud (refine wpList_apps (base := w1.heap.size) filok (by decide) rfl _ _ rfl (.slice p3 n c3) (.slice (some ⟨w3.heap.size, 0, none⟩) 1 1) n 1 ((d1.files.zip fw).flatMap filC) [.string (bstr []), .string (bstr []), .slice none 0 0] rfl rfl (Frm.ownsRow_keeps HO3.out ((Keeps.refl _).alloc _)) (Frm.rowS_lit rfl rfl rfl) (by simp [Value.oneCell']) (by omega) (by decide) (by rw [Frm.alloc_size]; omega) ?_; intro v4 w4 ho4 hg4 hf4; obtain ⟨p4, c4, rfl, -, -⟩ := Frm.ownsRow_form ho4; have HK4 := Lib.hid (show Keeps w1 w4 from (HK3.out.alloc _).grown hg4 (Frm.ownsRow_base HO3.out)); have HB4 := Lib.hid (HBL.out.keeps HK4.out); have hc4 : w4.cell? ⟨m, 0, none⟩ = some (.slice pf n cf) := by { rw [HB4.out.cell]; rfl }; have hz4 : w4.frozen? ⟨m, 0, none⟩ = false := HB4.out.frozen _; have HO4 := Lib.hid ho4; clear ho4 hg4 hf4)))
     have HM5 := Lib.hid ((Mods.of_keeps (S := (· = m)) HK4.out).setCell (p := ⟨m, 0, none⟩) (fun _ => rfl) (.slice p4 (n + 1) c4))
     have HM45 := Lib.hid ((Mods.refl (· = m) w4).setCell (p := ⟨m, 0, none⟩) (fun _ => rfl) (.slice p4 (n + 1) c4))
     have HB5 := Lib.hid (show Blk (w4.setCell ⟨m, 0, none⟩ (.slice p4 (n + 1) c4)) m 59 (rdA (bornR d1) (.slice p4 (n + 1) c4) (.slice pn d1.now.length cn) sv wv) from HB4.out.set_ 0 _)
     have HO5 := Lib.hid (Frm.ownsRow_mods HO4.out HM45.out (fun y hy e => Frm.ownsRow_ne HO4.out HB4.out (by decide) (by rw [hy, e])))
     clear hc4 hz4 c0 c0' c1
     generalize w4.setCell ⟨m, 0, none⟩ (.slice p4 (n + 1) c4) = w5 at *
     obtain ⟨r1, r2, r3, r4, r5⟩ := HI.out.rows HM5.out
     have HR5 := Lib.hid (show RefIn w5 (More M w1 w5) m (.slice p4 (n + 1) c4) (.slice pn d1.now.length cn) sv wv (fw ++ [.slice none 0 0]) (bornR d1) (k + 2) from
      {blk := HB5.out
       files := by
        have h0 := ownsRow_low HO5.out (Nat.zero_le _)
        have e1 : (bornR d1).files.length = n + 1 := by simp [bornR, HN.out]
        have e2 : ((bornR d1).files.zip (fw ++ [.slice none 0 0])).flatMap filC = (d1.files.zip fw).flatMap filC ++ [.string (bstr []), .string (bstr []), .slice none 0 0] := by
         simp [bornR, List.zip_append HI.out.len.symm, filC, filR0]
        rw [e1, e2]
        exact h0
       len := by simp [bornR, HI.out.len]
       waits := fun i h1 h2 => by
        by_cases hi : i < fw.length
        ·have hi2 : i < d1.files.length := by rw [← HI.out.len]; exact hi
         have e1 : (fw ++ [Value.slice none 0 0])[i] = fw[i] := List.getElem_append_left hi
         have e2 : (bornR d1).files[i] = d1.files[i] := List.getElem_append_left hi2
         rw [e1, e2]
         exact r2 i hi hi2
        ·have hi1 : i = fw.length := by simp at h1; omega
         subst hi1
         have e1 : (fw ++ [Value.slice none 0 0])[fw.length] = Value.slice none 0 0 := by simp
         have e2 : (bornR d1).files[fw.length] = filR0 := by simp [bornR, HI.out.len]
         rw [e1, e2]
         exact World.ownsRow_nil _ _ _ 2
       now := r3, sure := r4, turns := r5
       sm := .inl HI.out.sm
       sf := fun y hy => .inr ⟨Frm.ownsRow_base HO5.out y hy, (owns_ty HO5.out hy).lt⟩
       sn := fun y hy => .inl (HI.out.sn y hy), ss := fun y hy => .inl (HI.out.ss y hy), st := fun y hy => .inl (HI.out.st y hy)
       sw := fun v hv y hy => by
        rcases List.mem_append.1 hv with hv | hv
        ·exact .inl (HI.out.sw v hv y hy)
        ·simp at hv; subst hv; simp [Value.ownBlock] at hy
       fit := born_fit HI.out.fit })
     have c0 : w5.cell? ⟨m, 0, none⟩ = some (.slice p4 (n + 1) c4) := by rw [HB5.out.cell]; rfl
     have hw1 : IntKind.i64.wrap (((n + 1 : Nat) : Int) - 1) = (n : Int) := by rw [IntKind.wrap_i64]; omega
     have hw2 : IntKind.i64.wrap ((n : Int) + 1 - 1) = (n : Int) := by rw [IntKind.wrap_i64]; omega
     have hw3 : IntKind.i64.wrap (n : Int) = (n : Int) := by rw [IntKind.wrap_i64]; omega
     have HT := Lib.hid (turn_r w5 ⟨_, _, _, _, _, HR5.out⟩ (by omega) ⟨[], x, (n : Int)⟩ (turn_fit HR5.out.fit (by simp [bornR, HN.out]; omega)))
     unfold trA at HT
     go_wp2_with fail
     refine HT.out.mono ?_
     rintro e w6 ⟨rfl, h6, hm6⟩
     have H6 := Lib.hid h6
     have HM6 := Lib.hid hm6
     clear h6 hm6 HT c0 hw1 hw2 hw3
     go_wp2_with fail
     go_ret
     rw [HX.out, ← HN.out]
     have hs1 := HM1.out.size
     have hs5 := HM5.out.size
     have hs6 := HM6.out.size
     refine ⟨rfl, H6.out.wide (fun y hy => ?_), HM1.out.trans (HM5.out.trans HM6.out (fun y hy _ => hy)) (fun y hy _ => hy)⟩
     rcases hy with (hy | hy) | hy
     ·exact .inl hy
     ·exact .inr (by omega)
     ·exact .inr (by omega)
 ·have HX := Lib.hid (HX0.out.trans (if_pos he))
  have he' : (er != 0) = true := by simp [he]
  clear he
  go_wp2_with fail
  go_ret
  rw [HX.out]
  exact ⟨rfl, HOUT.out, HM1.out⟩
end
end Rf
end Go.Proofs.YtchjncnolmiejaaGreat

/- The document's disk: noughts, over. -/
namespace Go.Proofs.YtchjncnolmiejaaGreat
open Go.RowKit
namespace Rf
open Vd
theorem bstr_cat (a b : List UInt8) : bstr a ++ bstr b = bstr (a ++ b) := by
 apply ByteArray.ext
 simp [bstr]
theorem zeroB_row {w : World} {n : Nat} (hn : n ≤ 1099511627776) : Row (w.alloc (.cells (zeroB n) 5)) (.slice (some ⟨w.heap.size, 0, none⟩) n n) ((List.replicate n (0 : UInt8)).map u8v) := by
 have := row_mark (w := w) (b := w.heap.size) (n := n) (cs := zeroB n) (e := 5) (fr := (0, 0)) (l := (List.replicate n (0 : UInt8)).map u8v) rfl (zeroB_list n) (by simp) (by unfold maxLen; omega)
 exact this
theorem noughts_r (w : World) (n : Nat) (hn : n ≤ 1099511627776) : Calls Tryz.prog 108 #[.int .i64 (n : Int)] w fun e w' => e = .returned (.string (bstr (List.replicate n 0))) ∧ Keeps w w' := by
 have hmk : (Instr.makeSlice 22 (.int .i64 (n : Int)) (.int .i64 (n : Int))).run Tryz.prog w = .ok (.slice (some ⟨w.heap.size, 0, none⟩) n n) (w.alloc (.cells (zeroB n) 5)) := run_make_u8 Tryz.underlying22 Oct.i22 n (by omega) w
 have hst : (convert 22 9 (.slice (some ⟨w.heap.size, 0, none⟩) n n)).run Tryz.prog (w.alloc (.cells (zeroB n) 5)) = .ok (.string (bstr (List.replicate n 0))) (w.alloc (.cells (zeroB n) 5)) := (zeroB_row (w := w) hn).str Tryz.underlying22 Tryz.underlying5 Tryz.underlying9
 have HK := Lib.hid (show Keeps w (w.alloc (.cells (zeroB n) 5)) from (Keeps.refl _).alloc _)
 generalize w.alloc (.cells (zeroB n) 5) = w1 at *
 go_enter Tryz.func108, Tryz.ntmps108
 go_wp2_with fail
 go_ret
 exact ⟨rfl, HK.out⟩
/-- a text, made as long as a place -/
def longL (s : Str) (a : Nat) : Str := s ++ List.replicate (a - s.length) 0
theorem longL_len (s : Str) (a : Nat) : (longL s a).length = max s.length a := by simp [longL]; omega
theorem over_long (s : Str) (a : Nat) (b : Str) : overL s a b = if (longL s a).length ≤ a + b.length then (longL s a).take a ++ b else (longL s a).take a ++ b ++ (longL s a).drop (a + b.length) := by
 have hl := longL_len s a
 have hg : ∀ i, (longL s a)[i]? = if i < s.length then s[i]? else if i < max s.length a then some 0 else none := fun i => by
  unfold longL
  rw [List.getElem?_append]
  split
  ·rfl
  ·rw [List.getElem?_replicate]
   split <;> split <;> first | rfl | omega
 generalize longL s a = z at *
 apply List.ext_getElem?
 intro j
 rw [overL_get]
 have ht : (z.take a ++ b)[j]? = if j < a then z[j]? else b[j - a]? := by
  rw [List.getElem?_append, List.length_take, show min a z.length = a from by omega]
  split
  ·rw [List.getElem?_take_of_lt ‹_›]
  ·rfl
 by_cases hle : z.length ≤ a + b.length
 ·rw [if_pos hle, ht]
  by_cases h1 : j < a
  ·rw [if_neg (by omega), if_pos h1, hg]
   split
   ·rfl
   ·rw [if_pos (by omega), if_pos (by omega)]
  ·rw [if_neg h1]
   by_cases h2 : j < a + b.length
   ·rw [if_pos (by omega)]
   ·rw [if_neg (by omega), if_neg (by omega), if_neg (by omega), List.getElem?_eq_none (by omega)]
 ·rw [if_neg hle, List.getElem?_append, ht, List.length_append, List.length_take, show min a z.length = a from by omega]
  by_cases h2 : j < a + b.length
  ·rw [if_pos h2]
   by_cases h1 : j < a
   ·rw [if_neg (by omega), if_pos h1, hg]
    split
    ·rfl
    ·rw [if_pos (by omega), if_pos (by omega)]
   ·rw [if_neg h1, if_pos (by omega)]
  ·rw [if_neg h2, if_neg (by omega), List.getElem?_drop, show a + b.length + (j - (a + b.length)) = j from by omega, hg]
   split
   ·rfl
   ·split
    ·rw [if_pos (by omega)]
    ·rw [if_neg (by omega)]
theorem run_cut_str_l (l : Str) (n : Nat) (hn : n ≤ l.length) (w : World) : (Instr.slice 9 (.string (bstr l)) (some (.int .i64 (n : Int))) none none).run Tryz.prog w = .ok (.string (bstr (l.drop n))) w := by
 rw [run_slice_string_from_if w 9 (bstr l) .i64 (n : Int) Tryz.underlying9, if_pos (by rw [bstr_size]; omega)]
 congr 2
 apply ByteArray.ext
 simp only [bstr, ByteArray.data_extract]
 apply Array.ext'
 simp
 rw [List.take_of_length_le]
 simp [ByteArray.size]
set_option maxRecDepth 100000 in
set_option maxHeartbeats 2000000 in
theorem over_r (w : World) (s b : Str) (a : Nat) (hs : s.length ≤ 1000000000) (hb : b.length ≤ 1000000000) (ha : a ≤ 1000000000) : Calls Tryz.prog 64 #[.string (bstr s), .int .i64 (a : Int), .string (bstr b)] w fun e w' => e = .returned (.string (bstr (overL s a b))) ∧ Keeps w w' := by
 have hsz := bstr_size s
 have hbz := bstr_size b
 have HO := Lib.hid (over_long s a b)
 have hzl := longL_len s a
 have HN := Lib.hid (noughts_r w (a - s.length) (by omega))
 have hsub : s.length < a → IntKind.i64.wrap ((a : Int) - (s.length : Int)) = ((a - s.length : Nat) : Int) := fun h => by rw [IntKind.wrap_i64]; omega
 have hcat : bstr s ++ bstr (List.replicate (a - s.length) 0) = bstr (longL s a) := bstr_cat _ _
 have HL0 : Hid (¬ s.length < a → longL s a = s) := Lib.hid (fun h => by unfold longL; rw [show a - s.length = 0 from by omega]; simp)
 go_enter Tryz.func64, Tryz.ntmps64
 go_upto_if 11 with fail
 go_cut [0] (fun sv wx => sv = .string (bstr (longL s a)) ∧ Keeps w wx)
 case first =>
  by_cases h : s.length < a
  ·have hsub' := hsub h
   have hz : (bstr (List.replicate (a - s.length) 0)).size = a - s.length := by rw [bstr_size, List.length_replicate]
   go_wp2_with fail
   refine HN.out.mono ?_
   rintro e w1 ⟨rfl, hk1⟩
   go_wp2_with fail
   go_meet
   exact ⟨rfl, hk1⟩
  ·have e1 := HL0.out h
   go_wp2_with fail
   go_meet
   exact ⟨by rw [e1], Keeps.refl _⟩
 case rest =>
 obtain ⟨rfl, hk⟩ := hcut
 have HK := Lib.hid hk
 clear HN hsub hcat HL0 hk
 generalize longL s a = z at *
 have hzz := bstr_size z
 have hz2 : z.length ≤ 1000000000 := by omega
 have hz3 : a ≤ z.length := by omega
 clear hzl
 have hw : IntKind.i64.wrap ((a : Int) + (b.length : Int)) = ((a + b.length : Nat) : Int) := by rw [IntKind.wrap_i64]; omega
 have hc1 := run_cut_str z a (by omega)
 have ht : (bstr (z.take a)).size = a := by rw [bstr_size, List.length_take]; omega
 have hcat : bstr (z.take a) ++ bstr b = bstr (z.take a ++ b) := bstr_cat _ _
 have htb : (bstr (z.take a ++ b)).size = a + b.length := by rw [bstr_size, List.length_append, List.length_take]; omega
 by_cases hle : z.length ≤ a + b.length
 ·have HX := Lib.hid (HO.out.trans (if_pos hle))
  clear HO
  have ht1 : decide (a + b.length < z.length) = false := by simp; omega
  have ht2 : decide (z.length ≤ a + b.length) = true := by simp; omega
  have ht3 : decide ((z.length : Int) ≤ ((a + b.length : Nat) : Int)) = true := by simp; omega
  have ht4 : decide ((z.length : Int) ≤ (a : Int) + (b.length : Int)) = true := by simp; omega
  go_wp2_with fail
  go_ret
  exact ⟨by rw [HX.out]; rfl, HK.out⟩
 ·have HX := Lib.hid (HO.out.trans (if_neg hle))
  clear HO
  have hc2 := run_cut_str_l z (a + b.length) (by omega)
  have hd : (bstr (z.drop (a + b.length))).size = z.length - (a + b.length) := by rw [bstr_size, List.length_drop]
  have hex : (bstr z).extract (a + b.length) z.length = bstr (z.drop (a + b.length)) := by
   simp only [bstr, ByteArray.data_extract]
   apply ByteArray.ext
   apply Array.ext'
   simp
   rw [List.take_of_length_le (by simp)]
  have hcat2 : bstr (z.take a ++ b) ++ bstr (z.drop (a + b.length)) = bstr (z.take a ++ b ++ z.drop (a + b.length)) := bstr_cat _ _
  have ht2 : decide (z.length ≤ a + b.length) = false := by simp; omega
  have ht3 : decide ((z.length : Int) ≤ ((a + b.length : Nat) : Int)) = false := by simp; omega
  have ht4 : decide ((z.length : Int) ≤ (a : Int) + (b.length : Int)) = false := by simp; omega
  go_upto_region 6 with fail
  go_quiet (fail)
  go_wp2_with fail
  go_ret
  refine ⟨?_, by simpa using HK.out.drewN nq⟩
  rw [HX.out, List.append_assoc]
  rfl
end Rf
end Go.Proofs.YtchjncnolmiejaaGreat

/- The document's disk: Used. -/
namespace Go.Proofs.YtchjncnolmiejaaGreat
open Go.RowKit
namespace Rf
open Vd
theorem zip_get {α β : Type} {l : List α} {r : List β} (h : r.length = l.length) {i : Nat} (hi : i < l.length) : (l.zip r)[i]? = some (l[i], r[i]'(by omega)) := by
 rw [List.getElem?_eq_getElem (by rw [List.length_zip]; omega), List.getElem_zip]
section
variable {w : World} {M : Nat → Prop} {m : Nat} {fv nv sv wv : Value} {fw : List Value} {d : RDsk} {k : Nat}
/-- a file's three cells -/
theorem RefIn.file (h : RefIn w M m fv nv sv wv fw d k) {i : Nat} (hi : i < d.files.length) : ∃ b off cap, fv = .slice (some ⟨b, off, none⟩) d.files.length cap ∧ w.rangeAt b (off + i * 3) [.string (bstr d.files[i].now), .string (bstr d.files[i].sure), fw[i]'(by rw [h.len]; exact hi)] := by
 obtain ⟨b, off, cap, hv, -, -, hc⟩ := RowS.at_ (rowS_of h.files) (by omega)
 refine ⟨b, off, cap, hv, fun j x hx => ?_⟩
 have hj : j < 3 := by
  have := (List.getElem?_eq_some_iff.1 hx).1
  simpa using this
 rw [Nat.add_assoc]
 refine hc.out (i * 3 + j) x ?_
 rw [flat_get filC_len (d.files.zip fw) i j _ (zip_get h.len hi) hj]
 exact hx
def fLen (files : List RFil) (i : Nat) : Nat := ((files[i]?).map (·.now.length)).getD 0
theorem bytes_take {files : List RFil} {l : Nms} {j : Nat} (h : j < l.length) : bytesR files (l.take (j + 1)) = bytesR files (l.take j) + fLen files l[j].2 := by
 unfold bytesR fLen
 rw [List.take_succ_eq_append_getElem h, List.map_append, List.sum_append]
 simp
theorem bytes_le {files : List RFil} (hb : ∀ x ∈ files, x.now.length ≤ 1000000000) : ∀ l : Nms, bytesR files l ≤ l.length * 1000000000
 | [] => by simp [bytesR]
 | p :: l => by
  have ih := bytes_le hb l
  have : bytesR files (p :: l) = fLen files p.2 + bytesR files l := by simp [bytesR, fLen]
  have hf : fLen files p.2 ≤ 1000000000 := by
   unfold fLen
   cases h : files[p.2]? with
   | none => simp
   | some x => exact hb x (List.mem_of_getElem? h)
  rw [this, List.length_cons]
  omega
set_option maxRecDepth 100000 in
set_option maxHeartbeats 2000000 in
theorem used_r (h : RefAt w M m d k) (hk : k ≤ 1000000) : Calls Tryz.prog 159 #[.pointer (some ⟨m, 0, none⟩)] w fun e w' => e = .returned (.int .i64 (usedR d : Int)) ∧ Keeps w w' := by
 obtain ⟨fv, nv, sv, wv, fw, h⟩ := h
 have H := Lib.hid h
 obtain ⟨c0, c1, -⟩ := h.cells
 obtain ⟨pn, cn, rfl, hn1, -⟩ := Frm.ownsRow_form h.now
 obtain ⟨pf, cf, rfl, -, -⟩ := Frm.ownsRow_form h.files
 have hbl := bytes_le (fun x hx => (h.fit.b x hx).1)
 have HBL := Lib.hid hbl
 have hnk : d.now.length ≤ 1000000 := Nat.le_trans h.fit.n hk
 clear h hbl
 obtain ⟨n, hn⟩ : ∃ n, n = d.now.length := ⟨_, rfl⟩
 rw [← hn] at hn1 hnk
 have HN := Lib.hid hn
 rw [← hn] at c1
 clear hn
 have HC0 := Lib.hid c0
 have HC1 := Lib.hid c1
 clear c0 c1
 go_enter Tryz.func159, Tryz.ntmps159
 go_wp2_with fail
 go_loopw [3, 4] (fun sx ix wr => ∃ j : Nat, ix = .int .i64 (j : Int) ∧ j ≤ n ∧ sx = .int .i64 (bytesR d.files (d.now.take j) : Int) ∧ Hid (Keeps w wr)) (fun _ ix _ => n - (RowKit.intOf ix).toNat)
 case atStart => exact ⟨0, rfl, Nat.zero_le _, by simp [bytesR], Lib.hid (Keeps.refl _)⟩
 case round =>
  obtain ⟨j, rfl, hj, rfl, HK⟩ := hrel
  have c1 := keep1 HK.out HC1.out
  by_cases hlt : j < n
  ·have hjl : j < d.now.length := by rw [← HN.out]; exact hlt
   have HI := Lib.hid (H.out.apart (T := fun _ => False) (Mods.of_keeps HK.out) (fun _ _ h => h))
   obtain ⟨b, off, cap, hv, -, -, hc3⟩ := NmsAt.one (NmsOwn.at_ HI.out.now) hjl
   rw [← HN.out] at hv
   simp only [Value.slice.injEq] at hv
   obtain ⟨rfl, -, rfl⟩ := hv
   have hip := H.out.fit.is _ (List.getElem_mem hjl)
   obtain ⟨bf, of, cf', hvf, hrg⟩ := HI.out.file hip
   simp only [Value.slice.injEq] at hvf
   obtain ⟨rfl, -, rfl⟩ := hvf
   have hf0 := hrg 0 _ rfl
   rw [Nat.add_zero] at hf0
   have hsum := bytes_take (files := d.files) hjl
   have hfl : fLen d.files d.now[j].2 = d.files[d.now[j].2].now.length := by unfold fLen; rw [List.getElem?_eq_getElem hip]; rfl
   rw [hfl] at hsum
   have hle := HBL.out (d.now.take (j + 1))
   rw [List.length_take] at hle
   have hlt' : (j : Int) < (n : Int) := by omega
   have c0 := keep1 HK.out HC0.out
   have hsz := bstr_size d.files[d.now[j].2].now
   have hzn : (d.files[d.now[j].2].now.length) ≤ 1000000000 := (H.out.fit.b _ (List.getElem_mem hip)).1
   have hfn : d.files.length ≤ 1000000 := Nat.le_trans H.out.fit.f hk
   have HSUM := Lib.hid hsum
   generalize d.files[d.now[j].2].now = y at *
   generalize d.now[j].2 = i at *
   obtain ⟨F, hF⟩ : ∃ F, F = d.files.length := ⟨_, rfl⟩
   rw [← hF] at c0 hip hfn
   have hi1 : (i : Int) < (F : Int) := by omega
   obtain ⟨s0, hs0⟩ : ∃ s0, s0 = bytesR d.files (d.now.take j) := ⟨_, rfl⟩
   rw [← hs0] at hsum ⊢
   have HS0 := Lib.hid hs0
   have hw : IntKind.i64.wrap ((s0 : Int) + (y.length : Int)) = ((s0 + y.length : Nat) : Int) := by rw [IntKind.wrap_i64]; omega
   clear hrg hfl hs0 hF hle hsum
   go_upto_region 5 with fail
   go_quiet (fail)
   go_wp2_with fail
   go_roundw
   case rel => exact ⟨j + 1, by simp, by omega, by rw [HSUM.out, ← HS0.out]; simp, Lib.hid (by simpa using HK.out.drewN nq)⟩
   case measure =>
    simp only [RowKit.intOf]
    omega
  ·have hjn : j = n := by omega
   have hlt' : decide ((j : Int) < (n : Int)) = false := by simp; omega
   have HX := Lib.hid (show bytesR d.files (d.now.take j) = usedR d from by rw [hjn, HN.out, List.take_length]; rfl)
   clear hjn
   go_wp2_with fail
   go_ret
   exact ⟨by rw [← HX.out]; rfl, HK.out⟩
end
end Rf
end Go.Proofs.YtchjncnolmiejaaGreat

/- The document's disk: with. -/
namespace Go.Proofs.YtchjncnolmiejaaGreat
open Go.RowKit
namespace Rf
open Vd
theorem filM : Mids Tryz.prog 93 3 := ⟨⟨_, Tryz.underlying93, rfl⟩, by kernel_rfl⟩
theorem set_parts {α : Type} : ∀ (l : List α) (i : Nat) (x : α), i < l.length → l.take i ++ [x] ++ l.drop (i + 1) = l.set i x
 | [], i, x, h => by simp at h
 | a :: l, 0, x, _ => by simp
 | a :: l, i + 1, x, h => by
  have := set_parts l i x (by simpa using h)
  simp at this
  simp [this]
theorem zip_set {α β : Type} : ∀ (l : List α) (r : List β) (i : Nat) (x : α) (y : β), (l.zip r).set i (x, y) = (l.set i x).zip (r.set i y)
 | [], r, i, x, y => by simp
 | a :: l, [], i, x, y => by simp
 | a :: l, b :: r, 0, x, y => by simp
 | a :: l, b :: r, i + 1, x, y => by simp [zip_set l r i x y]
def filA (f : RFil) (v : Value) : Array Value := #[.string (bstr f.now), .string (bstr f.sure), v]
def setR (d : RDsk) (i : Nat) (f : RFil) : RDsk := { d with files := d.files.set i f }
section
variable {w : World} {M : Nat → Prop} {m : Nat} {d : RDsk} {k : Nat}
set_option maxRecDepth 100000 in
set_option maxHeartbeats 4000000 in
theorem with_r (h : RefAt w M m d k) (hk : k ≤ 1000000) {i : Nat} (hi : i < d.files.length) (f : RFil) (vw : Value) (hvw : w.ownsRow 0 127 2 vw f.waits.length (f.waits.flatMap wrC)) (hM : ∀ y, vw.ownBlock = some y → M y) (hf : RFit (setR d i f) k) : Calls Tryz.prog 160 #[.pointer (some ⟨m, 0, none⟩), .int .i64 (i : Int), .agg (filA f vw)] w fun e w' => e = .returned (.tuple #[]) ∧ RefAt w' (More M w w') m (setR d i f) k ∧ Mods (· = m) w w' := by
 obtain ⟨fv, nv, sv, wv, fw, h⟩ := h
 have H := Lib.hid h
 have HF := Lib.hid hf
 have HVW := Lib.hid hvw
 have HMM := Lib.hid hM
 have hfl : d.files.length ≤ 1000000 := Nat.le_trans h.fit.f hk
 obtain ⟨pf, cf, rfl, hcf, -⟩ := Frm.ownsRow_form h.files
 obtain ⟨pv, cv, rfl, -, -⟩ := Frm.ownsRow_form hvw
 have HZL := Lib.hid (show (d.files.zip fw).length = d.files.length from by rw [List.length_zip, h.len]; omega)
 have HON := Lib.hid h.one
 obtain ⟨nw, nws⟩ : ∃ n, n = f.waits.length := ⟨_, rfl⟩
 have HNWS := Lib.hid nws
 rw [← nws]
 clear h hf hvw hM nws
 obtain ⟨n, hn⟩ : ∃ n, n = d.files.length := ⟨_, rfl⟩
 have HN := Lib.hid hn
 have HFL := Lib.hid (show w.ownsRow 0 93 3 (.slice pf n cf) n ((d.files.zip fw).flatMap filC) from by rw [hn]; exact H.out.files)
 have HBL := Lib.hid (show Blk w m 59 (rdA d (.slice pf n cf) nv sv wv) from by rw [hn]; exact H.out.blk)
 rw [← hn] at hfl hi hcf
 rw [← hn] at HZL
 clear hn
 have hc1 : ∀ w', (Instr.slice 55 (.slice pf n cf) none (some (.int .i64 (i : Int))) none).run Tryz.prog w' = .ok (cutS 3 pf 0 i cf) w' := fun w' => run_cutS_h w' Tryz.underlying55 (by intro w; kernel_rfl) pf n cf i (by omega)
 have hc2 : ∀ w', (Instr.slice 55 (.slice pf n cf) (some (.int .i64 ((i : Int) + 1))) none none).run Tryz.prog w' = .ok (cutS 3 pf (i + 1) n cf) w' := fun w' => by
  rw [show ((i : Int) + 1) = ((i + 1 : Nat) : Int) from by omega]
  exact run_cutS_l w' Tryz.underlying55 (by intro w; kernel_rfl) pf n cf (i + 1) hi
 have HRS := Lib.hid (fun w' (kw : Keeps w w') => show RowS w' 3 (.slice pf (d.files.zip fw).length cf) (d.files.zip fw).length ((d.files.zip fw).flatMap filC) from by rw [HZL.out]; exact rowS_of (Frm.ownsRow_keeps HFL.out kw))
 have HP1 := Lib.hid (fun w' (kw : Keeps w w') => show RowS w' 3 (cutS 3 pf 0 i cf) i (((d.files.zip fw).take i).flatMap filC) from by
  have := RowS.part filC_len (HRS.out w' kw) (Nat.zero_le i) (by rw [HZL.out]; omega)
  simpa using this)
 have HP2 := Lib.hid (fun w' (kw : Keeps w w') => show RowS w' 3 (cutS 3 pf (i + 1) n cf) (n - (i + 1)) (((d.files.zip fw).drop (i + 1)).flatMap filC) from by
  have := RowS.part filC_len (HRS.out w' kw) (lo := i + 1) (hi := (d.files.zip fw).length) (by rw [HZL.out]; omega) (Nat.le_refl _)
  rw [List.take_of_length_le (by simp)] at this
  rw [HZL.out] at this
  exact this)
 obtain ⟨pa, hpa⟩ := cutS_sl 3 pf 0 i cf
 obtain ⟨pb, hpb⟩ := cutS_sl 3 pf (i + 1) n cf
 rw [hpa] at hc1 HP1
 rw [hpb] at hc2 HP2
 rw [Nat.sub_zero, Nat.sub_zero] at hc1 HP1
 clear hpa hpb
 have HO1 := Lib.hid (show (∀ p ∈ (d.files.zip fw).take i, p.2.oneCell' = true) ∧ (∀ p ∈ (d.files.zip fw).drop (i + 1), p.2.oneCell' = true) from ⟨fun p hp => HON.out p (List.mem_of_mem_take hp), fun p hp => HON.out p (List.mem_of_mem_drop hp)⟩)
 obtain ⟨nowb, hnow⟩ : ∃ s, s = bstr f.now := ⟨_, rfl⟩
 obtain ⟨sureb, hsure⟩ : ∃ s, s = bstr f.sure := ⟨_, rfl⟩
 have HBS := Lib.hid (And.intro hnow hsure)
 unfold filA
 rw [← hnow, ← hsure]
 clear hnow hsure
 go_enter Tryz.func160, Tryz.ntmps160
 go_upto_region 1 with fail
 generalize hW : World.alloc w _ = w1
 have HK1 := Lib.hid (show Keeps w w1 from by rw [← hW]; exact (Keeps.refl _).alloc _)
 have HB := Lib.hid (show Blk w1 w.heap.size 93 #[.string nowb, .string sureb, .slice pv nw cv] from by rw [← hW]; exact Blk.new _ _ _ rfl)
 clear hW
 obtain ⟨q, hq⟩ : ∃ q, q = w.heap.size := ⟨_, rfl⟩
 rw [← hq] at HB ⊢
 have HQ := Lib.hid hq
 clear hq
 have HB1 := Lib.hid (HBL.out.keeps HK1.out)
 have c0 : w1.cell? ⟨m, 0, none⟩ = some (.slice pf n cf) := by rw [HB1.out.cell]; rfl
 go_upto_region 3 with (at_builtin; go_loud (refine wpList_apps (base := w1.heap.size) filok (by decide) rfl _ _ rfl (.slice none 0 0) (.slice pa i (cf - 0)) 0 i [] (((d.files.zip fw).take i).flatMap filC) rfl rfl (World.ownsRow_nil _ _ _ 3) (HP1.out _ HK1.out) (filC_flat HO1.out.1) (by omega) (by decide) (Nat.le_refl _) ?_; intro v4 w4 ho4 hg4 hf4; obtain ⟨p4, c4, rfl, -, -⟩ := Frm.ownsRow_form ho4))
 have HO4 := Lib.hid (show w4.ownsRow w1.heap.size 93 3 (.slice p4 i c4) i (((d.files.zip fw).take i).flatMap filC) from by simpa using ho4)
 have HK4 := Lib.hid (show Keeps w1 w4 from (Keeps.refl w1).grown hg4 (fun k hk => by simp [Value.ownBlock] at hk))
 have HB4 := Lib.hid (show Blk w4 q 93 #[.string nowb, .string sureb, .slice pv nw cv] from HB.out.keeps HK4.out)
 have hs4 := HK4.out.size
 clear ho4 hg4 hf4 c0
 go_upto_region 4 with (first
  | refine wpList_ld rfl filM HB4.out _ rfl rfl ?_
  | (at_builtin; go_loud (refine wpList_apps (base := w1.heap.size) filok (by decide) rfl _ _ rfl (.slice p4 i c4) (.slice (some ⟨w4.heap.size, 0, none⟩) 1 1) i 1 (((d.files.zip fw).take i).flatMap filC) [.string nowb, .string sureb, .slice pv nw cv] rfl rfl (Frm.ownsRow_keeps HO4.out ((Keeps.refl _).alloc _)) (Frm.rowS_lit rfl rfl rfl) (by simp [Value.oneCell']) (by omega) (by decide) (by rw [Frm.alloc_size]; omega) ?_; intro v5 w5 ho5 hg5 hf5; obtain ⟨p5, c5, rfl, -, -⟩ := Frm.ownsRow_form ho5)))
 have HO5 := Lib.hid ho5
 have HK5 := Lib.hid (show Keeps w1 w5 from (HK4.out.alloc _).grown hg5 (Frm.ownsRow_base HO4.out))
 have hs5 := HK5.out.size
 have HB5 := Lib.hid (HB1.out.keeps HK5.out)
 have c0 : w5.cell? ⟨m, 0, none⟩ = some (.slice pf n cf) := by rw [HB5.out.cell]; rfl
 clear ho5 hg5 hf5 hc1
 go_wp2_with (at_builtin; go_loud (refine wpList_apps (base := w1.heap.size) filok (by decide) rfl _ _ rfl (.slice p5 (i + 1) c5) (.slice pb (n - (i + 1)) (cf - (i + 1))) (i + 1) (n - (i + 1)) (((d.files.zip fw).take i).flatMap filC ++ [.string nowb, .string sureb, .slice pv nw cv]) (((d.files.zip fw).drop (i + 1)).flatMap filC) rfl rfl HO5.out (HP2.out _ (HK1.out.trans HK5.out)) (filC_flat HO1.out.2) (by omega) (by decide) hs5 ?_; intro v6 w6 ho6 hg6 hf6; obtain ⟨p6, c6, rfl, -, -⟩ := Frm.ownsRow_form ho6; have HK6 := Lib.hid (show Keeps w1 w6 from HK5.out.grown hg6 (Frm.ownsRow_base HO5.out)); have HB6 := Lib.hid (HB1.out.keeps HK6.out); have c6' : w6.cell? ⟨m, 0, none⟩ = some (.slice pf n cf) := by { rw [HB6.out.cell]; rfl }; have z6 : w6.frozen? ⟨m, 0, none⟩ = false := HB6.out.frozen _; have HO6 := Lib.hid ho6; clear ho6 hg6 hf6))
 go_end0
 obtain ⟨n', hn'⟩ : ∃ n', n' = i + 1 + (n - (i + 1)) := ⟨_, rfl⟩
 have HN' := Lib.hid hn'
 rw [← hn'] at HO6 ⊢
 clear hn'
 have HM7 := Lib.hid ((Mods.of_keeps (S := (· = m)) (HK1.out.trans HK6.out)).setCell (p := ⟨m, 0, none⟩) (fun _ => rfl) (.slice p6 n' c6))
 have HM67 := Lib.hid ((Mods.refl (· = m) w6).setCell (p := ⟨m, 0, none⟩) (fun _ => rfl) (.slice p6 n' c6))
 have HB7 := Lib.hid (show Blk (w6.setCell ⟨m, 0, none⟩ (.slice p6 n' c6)) m 59 (rdA (setR d i f) (.slice p6 n' c6) nv sv wv) from HB6.out.set_ 0 _)
 have HO7 := Lib.hid (Frm.ownsRow_mods HO6.out HM67.out (fun y hy e => Frm.ownsRow_ne HO6.out HB6.out (by decide) (by rw [hy, e])))
 clear c6' z6 c0
 generalize w6.setCell ⟨m, 0, none⟩ (.slice p6 n' c6) = w7 at *
 obtain ⟨r1, r2, r3, r4, r5⟩ := H.out.rows HM7.out
 have hv7 := Frm.ownsRow_mods HVW.out HM7.out (fun y hy e => Frm.ownsRow_ne HVW.out HBL.out (by decide) (by rw [hy, e]))
 have hs1 := HK1.out.size
 have hs7 := HM7.out.size
 have hnl := HN.out
 have hlen := H.out.len
 refine ⟨rfl, ⟨.slice p6 n' c6, nv, sv, wv, fw.set i (.slice pv f.waits.length cv), ?_⟩, HM7.out⟩
 exact
  {blk := HB7.out
   files := by
    have h0 := ownsRow_low HO7.out (Nat.zero_le _)
    have e1 : (setR d i f).files.length = n' := by simp [setR]; have := HN'.out; omega
    have e2 : ((setR d i f).files.zip (fw.set i (.slice pv f.waits.length cv))).flatMap filC = ((d.files.zip fw).take i).flatMap filC ++ [.string nowb, .string sureb, .slice pv nw cv] ++ ((d.files.zip fw).drop (i + 1)).flatMap filC := by
     show ((d.files.set i f).zip (fw.set i (.slice pv f.waits.length cv))).flatMap filC = _
     rw [← zip_set, ← set_parts _ _ _ (by rw [HZL.out]; exact hi), List.flatMap_append, List.flatMap_append, HBS.out.1, HBS.out.2, HNWS.out]
     simp [filC]
    rw [e1, e2]
    exact h0
   len := by simp [setR, hlen]
   waits := fun j h1 h2 => by
    have h1' : j < fw.length := by simpa using h1
    have h2' : j < d.files.length := by simpa [setR] using h2
    by_cases hj : i = j
    ·subst hj
     have e1 : (fw.set i (.slice pv f.waits.length cv))[i] = .slice pv f.waits.length cv := List.getElem_set_self _
     have e2 : (setR d i f).files[i] = f := List.getElem_set_self _
     rw [e1, e2]
     exact hv7
    ·have e1 : (fw.set i (.slice pv f.waits.length cv))[j] = fw[j] := List.getElem_set_ne hj _
     have e2 : (setR d i f).files[j] = d.files[j] := List.getElem_set_ne hj _
     rw [e1, e2]
     exact r2 j h1' h2'
   now := r3, sure := r4, turns := r5
   sm := .inl H.out.sm
   sf := fun y hy => .inr ⟨by have := Frm.ownsRow_base HO7.out y hy; omega, (owns_ty HO7.out hy).lt⟩
   sn := fun y hy => .inl (H.out.sn y hy), ss := fun y hy => .inl (H.out.ss y hy), st := fun y hy => .inl (H.out.st y hy)
   sw := fun v hv y hy => by
    rcases List.mem_or_eq_of_mem_set hv with hv | rfl
    ·exact .inl (H.out.sw v hv y hy)
    ·exact .inl (HMM.out y hy)
   fit := HF.out }
end
end Rf
end Go.Proofs.YtchjncnolmiejaaGreat

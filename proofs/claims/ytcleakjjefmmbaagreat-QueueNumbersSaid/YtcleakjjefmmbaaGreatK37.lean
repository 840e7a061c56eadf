/- Several texts in one: AdRead, AdGood. -/
import Derived.Test.YtcleakjjefmmbaaGreatK00
import Derived.Test.YtcleakjjefmmbaaGreatK01
import Derived.Test.YtcleakjjefmmbaaGreatMid
import Derived.Test.YtcleakjjefmmbaaGreatDrawn
import Derived.Deep.LoopGhost
import Derived.Shelf.Abstract
/- addr: letters, labels and domains as the reader takes them. -/
namespace Go.Proofs.YtcleakjjefmmbaaGreat
open Go.RowKit
namespace Adr


theorem all256 {p : UInt8 → Bool} (h : ∀ n : Fin 256, p (UInt8.ofNat n.1) = true) (c : UInt8) : p c = true := by
 have := h ⟨c.toNat, c.toNat_lt⟩
 simpa using this
def letB (c : UInt8) : Bool := decide (97 ≤ c.toNat ||| 32) && decide (c.toNat ||| 32 ≤ 122)
def digB (c : UInt8) : Bool := decide (48 ≤ c.toNat) && decide (c.toNat ≤ 57)
theorem labC_eq (c : UInt8) : (letB c || digB c || decide (c = 45)) = labC c := by
 have := all256 (p := fun c => ((letB c || digB c || decide (c = 45)) == labC c)) (by decide +kernel) c
 simpa using this
theorem or32 (c : UInt8) : bits BinOp.or IntKind.u8 (c.toNat : Int) 32 = ((c.toNat ||| 32 : Nat) : Int) := by
 have := all256 (p := fun c => decide (bits BinOp.or IntKind.u8 (c.toNat : Int) 32 = ((c.toNat ||| 32 : Nat) : Int))) (by decide +kernel) c
 simpa using this

theorem letter_any (c : UInt8) (w : World) : Calls Tryz.prog 279 #[.int .u8 (c.toNat : Int)] w fun e w' => e = .returned (.bool (letB c)) ∧ w = w' := by
 have hb := or32 c
 have HX := Lib.hid (show letB c = (decide (97 ≤ c.toNat ||| 32) && decide (c.toNat ||| 32 ≤ 122)) from rfl)
 generalize c.toNat ||| 32 = m at *
 go_enter Tryz.func279, Tryz.ntmps279
 go_wp2_with fail
 all_goals
  go_ret
  refine ⟨?_, rfl⟩
  rw [HX.out, ← Bool.decide_and]
  first
   |exact retB (decide_eq_decide.2 (by omega))
   |exact retB (decide_eq_false (by omega)).symm
theorem digit_any (c : UInt8) (w : World) : Calls Tryz.prog 280 #[.int .u8 (c.toNat : Int)] w fun e w' => e = .returned (.bool (digB c)) ∧ w = w' := by
 have HX := Lib.hid (show digB c = (decide (48 ≤ c.toNat) && decide (c.toNat ≤ 57)) from rfl)
 generalize c.toNat = m at *
 go_enter Tryz.func280, Tryz.ntmps280
 go_wp2_with fail
 all_goals
  go_ret
  refine ⟨?_, rfl⟩
  rw [HX.out, ← Bool.decide_and]
  first
   |exact retB (decide_eq_decide.2 (by omega))
   |exact retB (decide_eq_false (by omega)).symm
theorem plain_any (c : UInt8) (w : World) : Calls Tryz.prog 258 #[.int .u8 (c.toNat : Int)] w fun e w' => e = .returned (.bool (plainC c)) ∧ w = w' := by
 have HX := Lib.hid (show plainC c = (decide (32 ≤ c.toNat) && decide (c.toNat ≤ 126)) from rfl)
 generalize c.toNat = m at *
 go_enter Tryz.func258, Tryz.ntmps258
 go_wp2_with fail
 all_goals
  go_ret
  refine ⟨?_, rfl⟩
  rw [HX.out, ← Bool.decide_and]
  first
   |exact retB (decide_eq_decide.2 (by omega))
   |exact retB (decide_eq_false (by omega)).symm
theorem label1_any (c : UInt8) (w : World) : Calls Tryz.prog 278 #[.int .u8 (c.toNat : Int)] w fun e w' => e = .returned (.bool (labC c)) ∧ w = w' := by
 have HX := Lib.hid (show (letB c || digB c || ((c.toNat : Int) == 45)) = labC c from by
  rw [← labC_eq c]
  congr 1
  exact (decide_eq_decide.2 ⟨fun h => UInt8.toNat_inj.1 (by simpa using (by omega : c.toNat = 45)), fun h => by subst h; rfl⟩ : decide ((c.toNat : Int) = 45) = decide (c = 45)))
 have HL := Lib.hid (letter_any c)
 have HD := Lib.hid (digit_any c)
 generalize labC c = r at *
 generalize letB c = a at *
 generalize digB c = b at *
 go_enter Tryz.func278, Tryz.ntmps278
 go_wp2_with fail
 refine (HL.out w).mono ?_
 rintro e w1 ⟨rfl, rfl⟩
 cases a with
 |true =>
  go_wp2_with fail
  go_ret
  exact ⟨retB (by have := HX.out; simpa using this), rfl⟩
 |false =>
  go_wp2_with fail
  refine (HD.out w).mono ?_
  rintro e w1 ⟨rfl, rfl⟩
  cases b with
  |true =>
   go_wp2_with fail
   go_ret
   exact ⟨retB (by have := HX.out; simpa using this), rfl⟩
  |false =>
   go_wp2_with fail
   go_ret
   exact ⟨retB (by have := HX.out; simpa using this), rfl⟩
/-- the reader at block g: its text, its place, and whether a part is too long -/
abbrev rdA (s : List UInt8) (a : Nat) (lg : Bool) : Array Value := #[.string (bstr s), .int .i64 (a : Int), .bool lg]
def RdAt (w : World) (g : Nat) (s : List UInt8) (a : Nat) (lg : Bool) : Prop := Blk w g 319 (rdA s a lg) ∧ a ≤ s.length ∧ s.length ≤ 9000000000000000000
theorem bstr_extract (z : List UInt8) (a b : Nat) : (bstr z).extract a b = bstr ((z.drop a).take (b - a)) := by
 unfold bstr
 rw [ByteArray.ext_iff]
 simp [ByteArray.data_extract, List.extract_toArray, List.extract_eq_take_drop]
theorem tw_in {p : UInt8 → Bool} : ∀ (l : List UInt8) (j : Nat), j < (l.takeWhile p).length → ∃ h : j < l.length, p l[j] = true
 | [], j, h => by simp at h
 |c :: l, j, h => by
  rw [List.takeWhile_cons] at h
  split at h
  ·rename_i hc
   cases j with
   |zero => exact ⟨by simp, hc⟩
   |succ j =>
    obtain ⟨h1, h2⟩ := tw_in l j (by simpa using h)
    exact ⟨by simp; omega, by simpa using h2⟩
  ·simp at h
theorem tw_out {p : UInt8 → Bool} : ∀ (l : List UInt8) (h : (l.takeWhile p).length < l.length), p l[(l.takeWhile p).length] = false
 | [], h => by simp at h
 |c :: l, h => by
  cases hc : p c with
  |false => simp [List.takeWhile_cons, hc]
  |true =>
   simp only [List.takeWhile_cons, hc, if_true, List.length_cons] at h ⊢
   simpa using tw_out l (by omega)
theorem tw_take {p : UInt8 → Bool} (l : List UInt8) : l.take (l.takeWhile p).length = l.takeWhile p := by
 induction l with
 |nil => rfl
 |cons c l ih =>
  rw [List.takeWhile_cons]
  split
  ·simpa using ih
  ·simp
theorem tw_le {p : UInt8 → Bool} (l : List UInt8) : (l.takeWhile p).length ≤ l.length := (List.takeWhile_sublist p).length_le
/-- behind run: the place is behind the bytes that are taken -/
def RunDid (W : World) (g : Nat) (s : List UInt8) (a : Nat) (lg : Bool) (e : Ending) (w' : World) : Prop :=
 e = .returned (.string (bstr (runL (s.drop a)))) ∧ RdAt w' g s (a + (runL (s.drop a)).length) lg ∧ Mods (· = g) W w'
theorem run_in {s : List UInt8} {a j : Nat} (h : j < (runL (s.drop a)).length) : ∃ h' : a + j < s.length, labC s[a + j] = true := by
 obtain ⟨h1, h2⟩ := tw_in (s.drop a) j h
 rw [List.length_drop] at h1
 refine ⟨by omega, ?_⟩
 simpa using h2
theorem run_out {s : List UInt8} {a : Nat} (h : a + (runL (s.drop a)).length < s.length) : labC s[a + (runL (s.drop a)).length] = false := by
 have := tw_out (p := labC) (s.drop a) (by rw [List.length_drop]; unfold runL at h; omega)
 simpa [runL] using this
theorem run_len {s : List UInt8} {a : Nat} (h : a ≤ s.length) : a + (runL (s.drop a)).length ≤ s.length := by
 have := tw_le (p := labC) (s.drop a)
 rw [List.length_drop] at this
 unfold runL
 omega
set_option maxRecDepth 100000 in
set_option maxHeartbeats 1000000 in
theorem run_any (w : World) (g : Nat) (s : List UInt8) (a : Nat) (lg : Bool) (h : RdAt w g s a lg) : Calls Tryz.prog 277 #[.pointer (some ⟨g, 0, none⟩), .func (.func 278) #[] #[]] w (RunDid w g s a lg) := by
 obtain ⟨hB, ha, hs⟩ := h
 have HB := Lib.hid hB
 have HSZ := Lib.hid (bstr_size s)
 have HGE := Lib.hid (fun (j : Nat) (h : j < (bstr s).size) => show (bstr s)[j] = s[j]'(by rw [bstr_size] at h; exact h) from rfl)
 have hle := run_len ha
 have HIN := Lib.hid (fun j => @run_in s a j)
 have HOUT := Lib.hid (@run_out s a)
 have HT := Lib.hid (show (s.drop a).take (runL (s.drop a)).length = runL (s.drop a) from tw_take _)
 have HE : ∀ (x : Value) (w : World), (callFunc 278 #[x]).run Tryz.prog w = .ok (.enter 278 #[x]) w := fun x w => enters_of Tryz.func278 (by kernel_rfl) rfl _ _
 unfold RunDid
 generalize runL (s.drop a) = r at *
 obtain ⟨n, hn⟩ : ∃ n, n = r.length := ⟨_, rfl⟩
 have HR := Lib.hid hn
 rw [← hn] at hle
 clear hB hn
 have h1 := HB.out.cell 1
 go_enter Tryz.func277, Tryz.ntmps277
 go_wp2_with fail
 clear h1
 go_loopg [32] n (fun gk _ wr => ∃ j : Nat, j + gk = n ∧ Hid (Blk wr g 319 (rdA s (a + j) lg)) ∧ Hid (Mods (· = g) w wr))
 case atStart => exact ⟨0, by omega, HB, Lib.hid (Mods.refl _ _)⟩
 case round =>
  obtain ⟨j, hj, HBj, HM⟩ := hrel
  have h0 : wr.cell? ⟨g, 0, none⟩ = some (.string (bstr s)) := by rw [HBj.out.cell]; rfl
  have h1 : wr.cell? ⟨g, 1, none⟩ = some (.int .i64 (((a + j : Nat) : Int))) := by rw [HBj.out.cell]; rfl
  have HNX := Lib.hid (HIN.out j)
  by_cases hg : 0 < gk
  ·obtain ⟨k', rfl⟩ : ∃ k', gk = k' + 1 := ⟨gk - 1, by omega⟩
   obtain ⟨hl1, hlc⟩ := HNX.out (by have := HR.out; omega)
   have hlt : a + j < (bstr s).size := by rw [HSZ.out]; exact hl1
   have HL := Lib.hid (label1_any ((bstr s)[a + j]'hlt))
   rw [HGE.out _ hlt] at HL
   rw [hlc] at HL
   have hw : IntKind.i64.wrap (((a + j : Nat) : Int) + 1) = ((a + j : Nat) : Int) + 1 := IntWalk.i64_in _ (by omega)
   have e1 : decide (((a + j : Nat) : Int) < ((bstr s).size : Int)) = true := decide_eq_true (by omega)
   have e2 : decide (a + j < (bstr s).size) = true := decide_eq_true hlt
   have HG2 := Lib.hid (HGE.out _ hlt)
   clear hlc HNX
   generalize hq : a + j = q at *
   have HQ := Lib.hid hq
   clear hq
   go_wp2_with fail
   refine wp_region_noPanic ?_
   refine wp_region_held_drew (S := fun w' => Keeps wr w') (by kernel_rfl) (((Keeps.refl wr).drew)) (fun _ => ?_)
   have hHeld : Keeps wr (wr).drew := ((Keeps.refl wr).drew)
   generalize World.drew wr = xs at *
   refine tq 0 10 ?_
   refine tq 1 11 ?_
   refine tq 2 12 ?_
   refine tq 3 13 ?_ (hy := fun w' hSw => by
    have hSw : Keeps wr w' := hSw
    have hx := keep1 hSw h1
    clear hSw
    go_simp
    try with_reducible rfl)
   refine tq 4 14 ?_
   refine tq 5 15 ?_
   refine tq 6 16 ?_
   refine tq 7 17 ?_ (hy := fun w' hSw => by
    have hSw : Keeps wr w' := hSw
    have hx := keep1 hSw h0
    clear hSw
    go_simp
    try with_reducible rfl)
   refine tq 8 18 ?_
   refine tq 9 19 ?_
   refine tq 10 20 ?_
   refine tq 11 21 ?_
   refine tq 12 22 ?_
   refine tq 13 23 ?_
   refine tq 14 24 ?_
   refine tq 15 25 ?_ (hy := fun w' hSw => by
    have hSw : Keeps wr w' := hSw
    have hx := keep1 hSw h0
    clear hSw
    go_simp
    try with_reducible rfl)
   refine tq 16 26 ?_
   refine tq 17 27 ?_
   refine tq 18 28 ?_
   refine tq 19 29 ?_ (hy := fun w' hSw => by
    have hSw : Keeps wr w' := hSw
    have hx := keep1 hSw h1
    clear hSw
    go_simp
    try with_reducible rfl)
   refine tq 20 30 ?_
   refine rd1 21 (fun K hK => ?_)
   go_simp
   rw [HG2.out]
   refine (HL.out _).mono ?_
   rintro e wz ⟨rfl, rfl⟩
   have hb := hHeld
   go_wp2_with fail
   refine bkm hK hb ?_
   clear hK K hHeld
   have hHeld : Keeps wr xs := hb
   clear hb
   refine tq 22 32 ?_
   refine wpAnyH_done (by kernel_rfl) ?_ _
   refine NoPanic.normal ?_
   have h1' := keep1 hHeld h1
   have z1 : World.frozen? xs ⟨g, 1, none⟩ = false := (HBj.out.keeps hHeld).frozen 1
   have HBx := Lib.hid ((HBj.out.keeps hHeld).set_ 1 (.int .i64 ((q : Int) + 1)))
   have HMx := Lib.hid ((HM.out.then hHeld).setCell (p := ⟨g, 1, none⟩) (fun _ => rfl) (.int .i64 ((q : Int) + 1)))
   clear hHeld h0 h1
   go_wp2_with fail
   go_roundg k'
   case measure => omega
   case rel =>
    refine ⟨j + 1, by omega, Lib.hid ?_, HMx⟩
    have e : ((a + (j + 1) : Nat) : Int) = (q : Int) + 1 := by have := HQ.out; omega
    unfold rdA
    rw [e]
    exact HBx.out
  ·have hjn : j = n := by omega
   subst hjn
   clear HNX hj hg
   generalize hq : a + j = q at *
   have HQ := Lib.hid hq
   have hs1 : (a : Int) ≤ (q : Int) := by omega
   clear hq
   by_cases hl1 : q < s.length
   ·have hlt : q < (bstr s).size := by rw [HSZ.out]; exact hl1
    have hs2 : (q : Int) ≤ ((bstr s).size : Int) := by omega
    have HL := Lib.hid (label1_any s[q])
    have hlc : labC s[q] = false := by
     have h1 := HOUT.out
     simp only [← HR.out, HQ.out] at h1
     exact h1 hl1
    rw [hlc] at HL
    have e1 : decide ((q : Int) < ((bstr s).size : Int)) = true := decide_eq_true (by omega)
    have e2 : decide (q < (bstr s).size) = true := decide_eq_true hlt
    have HG2 := Lib.hid (HGE.out _ hlt)
    clear hlc
    go_wp2_with fail
    refine wp_region_noPanic ?_
    refine wp_region_held_drew (S := fun w' => Keeps wr w') (by kernel_rfl) (((Keeps.refl wr).drew)) (fun _ => ?_)
    have hHeld : Keeps wr (wr).drew := ((Keeps.refl wr).drew)
    generalize World.drew wr = xs at *
    refine tq 0 10 ?_
    refine tq 1 11 ?_
    refine tq 2 12 ?_
    refine tq 3 13 ?_ (hy := fun w' hSw => by
     have hSw : Keeps wr w' := hSw
     have hx := keep1 hSw h1
     clear hSw
     go_simp
     try with_reducible rfl)
    refine tq 4 14 ?_
    refine tq 5 15 ?_
    refine tq 6 16 ?_
    refine tq 7 17 ?_ (hy := fun w' hSw => by
     have hSw : Keeps wr w' := hSw
     have hx := keep1 hSw h0
     clear hSw
     go_simp
     try with_reducible rfl)
    refine tq 8 18 ?_
    refine tq 9 19 ?_
    refine tq 10 20 ?_
    refine tq 11 21 ?_
    refine tq 12 22 ?_
    refine tq 13 23 ?_
    refine tq 14 24 ?_
    refine tq 15 25 ?_ (hy := fun w' hSw => by
     have hSw : Keeps wr w' := hSw
     have hx := keep1 hSw h0
     clear hSw
     go_simp
     try with_reducible rfl)
    refine tq 16 26 ?_
    refine tq 17 27 ?_
    refine tq 18 28 ?_
    refine tq 19 29 ?_ (hy := fun w' hSw => by
     have hSw : Keeps wr w' := hSw
     have hx := keep1 hSw h1
     clear hSw
     go_simp
     try with_reducible rfl)
    refine tq 20 30 ?_
    refine rd1 21 (fun K hK => ?_)
    go_simp
    rw [HG2.out]
    refine (HL.out _).mono ?_
    rintro e wz ⟨rfl, rfl⟩
    have hb := hHeld
    go_wp2_with fail
    refine bkm hK hb ?_
    clear hK K hHeld
    have hHeld : Keeps wr xs := hb
    clear hb
    refine tq 22 32 ?_
    refine wpAnyH_done (by kernel_rfl) ?_ _
    refine NoPanic.normal ?_
    have hh0 := keep1 hHeld h0
    have hh1 := keep1 hHeld h1
    have HBy := Lib.hid (HBj.out.keeps hHeld)
    have HMy := Lib.hid (HM.out.then hHeld)
    clear hHeld h0 h1
    obtain ⟨xo, rfl⟩ : ∃ z : World, z = xs := ⟨_, rfl⟩
    go_wp2_with fail
    refine wp_region_noPanic ?_
    refine wp_region_held_drew (S := fun w' => Keeps xo w') (by kernel_rfl) (((Keeps.refl xo).drew)) (fun _ => ?_)
    have hHeld : Keeps xo (xo).drew := ((Keeps.refl xo).drew)
    generalize World.drew xo = xs at *
    refine tq 0 40 ?_
    refine tq 1 41 ?_
    refine tq 2 42 ?_
    refine tq 3 43 ?_ (hy := fun w' hSw => by
     have hSw : Keeps xo w' := hSw
     have hx := keep1 hSw hh0
     clear hSw
     go_simp
     try with_reducible rfl)
    refine tq 4 44 ?_
    refine tq 5 45 ?_
    refine tq 6 46 ?_
    refine tq 7 47 ?_
    refine tq 8 48 ?_ (hy := fun w' hSw => by
     have hSw : Keeps xo w' := hSw
     have hx := keep1 hSw hh1
     clear hSw
     go_simp
     try with_reducible rfl)
    refine tq 9 49 ?_
    refine tq 10 4 ?_
    refine wpAnyH_done (by kernel_rfl) ?_ _
    refine NoPanic.normal ?_
    go_wp2_with fail
    go_ret
    refine ⟨congrArg (fun z => Ending.returned (.string z)) ?_, ⟨?_, by have := HR.out; have := HQ.out; omega, hs⟩, HMy.out.then hHeld⟩
    ·rw [bstr_extract]
     try simp only [Int.toNat_natCast]
     rw [← HQ.out, ← HT.out, ← HR.out, Nat.add_sub_cancel_left]
    ·rw [← HR.out, HQ.out]
     exact HBy.out.keeps hHeld
   ·have hs2 : (q : Int) ≤ ((bstr s).size : Int) := by rw [HSZ.out]; omega
    have e1 : decide ((q : Int) < ((bstr s).size : Int)) = false := decide_eq_false (by rw [HSZ.out]; omega)
    have e2 : decide (q < (bstr s).size) = false := decide_eq_false (by rw [HSZ.out]; omega)
    go_wp2_with fail
    refine wp_region_noPanic ?_
    refine wp_region_held_drew (S := fun w' => Keeps wr w') (by kernel_rfl) (((Keeps.refl wr).drew)) (fun _ => ?_)
    have hHeld : Keeps wr (wr).drew := ((Keeps.refl wr).drew)
    generalize World.drew wr = xs at *
    refine tq 0 10 ?_
    refine tq 1 11 ?_
    refine tq 2 12 ?_
    refine tq 3 13 ?_ (hy := fun w' hSw => by
     have hSw : Keeps wr w' := hSw
     have hx := keep1 hSw h1
     clear hSw
     go_simp
     try with_reducible rfl)
    refine tq 4 14 ?_
    refine tq 5 15 ?_
    refine tq 6 16 ?_
    refine tq 7 17 ?_ (hy := fun w' hSw => by
     have hSw : Keeps wr w' := hSw
     have hx := keep1 hSw h0
     clear hSw
     go_simp
     try with_reducible rfl)
    refine tq 8 18 ?_
    refine tq 9 19 ?_
    refine tq 10 20 ?_
    refine wpAnyH_take (i := 11) (by rfl) (by kernel_rfl) (by kernel_rfl) (by kernel_rfl) (by intro _ _ _ h; exact h) (Or.inr ⟨by kernel_rfl, rfl⟩) (by assumption) ?rest67
    change wpAnyH _ _ _ _ _ _ _ (Act.put _ (some 21) _) _
    try simp only [Act.put, List.setIfInBounds_toArray, List.set_cons_zero, List.set_cons_succ]
    refine wpAnyH_take (i := 12) (by rfl) (by kernel_rfl) (by kernel_rfl) (by kernel_rfl) (by intro _ _ _ h; exact h) (Or.inr ⟨by kernel_rfl, rfl⟩) (by assumption) ?rest68
    change wpAnyH _ _ _ _ _ _ _ (Act.put _ (some 22) _) _
    try simp only [Act.put, List.setIfInBounds_toArray, List.set_cons_zero, List.set_cons_succ]
    refine wpAnyH_take (i := 13) (by rfl) (by kernel_rfl) (by kernel_rfl) (by kernel_rfl) (by intro _ _ _ h; exact h) (Or.inr ⟨by kernel_rfl, rfl⟩) (by assumption) ?rest69
    change wpAnyH _ _ _ _ _ _ _ (Act.put _ (some 23) _) _
    try simp only [Act.put, List.setIfInBounds_toArray, List.set_cons_zero, List.set_cons_succ]
    refine wpAnyH_take (i := 14) (by rfl) (by kernel_rfl) (by kernel_rfl) (by kernel_rfl) (by intro _ _ _ h; exact h) (Or.inr ⟨by kernel_rfl, rfl⟩) (by assumption) ?rest70
    change wpAnyH _ _ _ _ _ _ _ (Act.put _ (some 24) _) _
    try simp only [Act.put, List.setIfInBounds_toArray, List.set_cons_zero, List.set_cons_succ]
    refine wpAnyH_take (i := 15) (by rfl) (by kernel_rfl) (by kernel_rfl) (by kernel_rfl) (by intro _ _ _ h; exact h) (Or.inr ⟨by kernel_rfl, rfl⟩) (by assumption) ?rest71
    change wpAnyH _ _ _ _ _ _ _ (Act.put _ (some 25) _) _
    try simp only [Act.put, List.setIfInBounds_toArray, List.set_cons_zero, List.set_cons_succ]
    refine wpAnyH_take (i := 16) (by rfl) (by kernel_rfl) (by kernel_rfl) (by kernel_rfl) (by intro _ _ _ h; exact h) (Or.inr ⟨by kernel_rfl, rfl⟩) (by assumption) ?rest72
    change wpAnyH _ _ _ _ _ _ _ (Act.put _ (some 26) _) _
    try simp only [Act.put, List.setIfInBounds_toArray, List.set_cons_zero, List.set_cons_succ]
    refine wpAnyH_take (i := 17) (by rfl) (by kernel_rfl) (by kernel_rfl) (by kernel_rfl) (by intro _ _ _ h; exact h) (Or.inr ⟨by kernel_rfl, rfl⟩) (by assumption) ?rest73
    change wpAnyH _ _ _ _ _ _ _ (Act.put _ (some 27) _) _
    try simp only [Act.put, List.setIfInBounds_toArray, List.set_cons_zero, List.set_cons_succ]
    refine wpAnyH_take (i := 18) (by rfl) (by kernel_rfl) (by kernel_rfl) (by kernel_rfl) (by intro _ _ _ h; exact h) (Or.inr ⟨by kernel_rfl, rfl⟩) (by assumption) ?rest74
    change wpAnyH _ _ _ _ _ _ _ (Act.put _ (some 28) _) _
    try simp only [Act.put, List.setIfInBounds_toArray, List.set_cons_zero, List.set_cons_succ]
    refine wpAnyH_take (i := 19) (by rfl) (by kernel_rfl) (by kernel_rfl) (by kernel_rfl) (by intro _ _ _ h; exact h) (Or.inr ⟨by kernel_rfl, rfl⟩) (by assumption) ?rest75
    change wpAnyH _ _ _ _ _ _ _ (Act.put _ (some 29) _) _
    try simp only [Act.put, List.setIfInBounds_toArray, List.set_cons_zero, List.set_cons_succ]
    refine wpAnyH_take (i := 20) (by rfl) (by kernel_rfl) (by kernel_rfl) (by kernel_rfl) (by intro _ _ _ h; exact h) (Or.inr ⟨by kernel_rfl, rfl⟩) (by assumption) ?rest76
    change wpAnyH _ _ _ _ _ _ _ (Act.put _ (some 30) _) _
    try simp only [Act.put, List.setIfInBounds_toArray, List.set_cons_zero, List.set_cons_succ]
    refine wpAnyH_take (i := 21) (by rfl) (by kernel_rfl) (by kernel_rfl) (by kernel_rfl) (by intro _ _ _ h; exact h) (Or.inr ⟨by kernel_rfl, rfl⟩) (by assumption) ?rest77
    change wpAnyH _ _ _ _ _ _ _ (Act.put _ (some 31) _) _
    try simp only [Act.put, List.setIfInBounds_toArray, List.set_cons_zero, List.set_cons_succ]
    refine tq 22 32 ?_
    refine wpAnyH_done (by kernel_rfl) ?_ _
    refine NoPanic.normal ?_
    have hh0 := keep1 hHeld h0
    have hh1 := keep1 hHeld h1
    have HBy := Lib.hid (HBj.out.keeps hHeld)
    have HMy := Lib.hid (HM.out.then hHeld)
    clear hHeld h0 h1
    obtain ⟨xo, rfl⟩ : ∃ z : World, z = xs := ⟨_, rfl⟩
    go_wp2_with fail
    refine wp_region_noPanic ?_
    refine wp_region_held_drew (S := fun w' => Keeps xo w') (by kernel_rfl) (((Keeps.refl xo).drew)) (fun _ => ?_)
    have hHeld : Keeps xo (xo).drew := ((Keeps.refl xo).drew)
    generalize World.drew xo = xs at *
    refine tq 0 40 ?_
    refine tq 1 41 ?_
    refine tq 2 42 ?_
    refine tq 3 43 ?_ (hy := fun w' hSw => by
     have hSw : Keeps xo w' := hSw
     have hx := keep1 hSw hh0
     clear hSw
     go_simp
     try with_reducible rfl)
    refine tq 4 44 ?_
    refine tq 5 45 ?_
    refine tq 6 46 ?_
    refine tq 7 47 ?_
    refine tq 8 48 ?_ (hy := fun w' hSw => by
     have hSw : Keeps xo w' := hSw
     have hx := keep1 hSw hh1
     clear hSw
     go_simp
     try with_reducible rfl)
    refine tq 9 49 ?_
    refine tq 10 4 ?_
    refine wpAnyH_done (by kernel_rfl) ?_ _
    refine NoPanic.normal ?_
    go_wp2_with fail
    go_ret
    refine ⟨congrArg (fun z => Ending.returned (.string z)) ?_, ⟨?_, by have := HR.out; have := HQ.out; omega, hs⟩, HMy.out.then hHeld⟩
    ·rw [bstr_extract]
     try simp only [Int.toNat_natCast]
     rw [← HQ.out, ← HT.out, ← HR.out, Nat.add_sub_cancel_left]
    ·rw [← HR.out, HQ.out]
     exact HBy.out.keeps hHeld
end Adr
end Go.Proofs.YtcleakjjefmmbaaGreat

/- addr.Domain, addr.Good. -/
namespace Go.Proofs.YtcleakjjefmmbaaGreat
open Go.RowKit
namespace Adr
theorem byte_eq (c : UInt8) (n : UInt8) : ((c.toNat : Int) == (n.toNat : Int)) = decide (c = n) := by
 by_cases h : c = n
 ·subst h
  simp
 ·have : c.toNat ≠ n.toNat := fun e => h (UInt8.toNat_inj.1 e)
  simp [h]
  omega
theorem ends_eq {r : List UInt8} (h : 0 < r.length) : endsOk r = (((r[0].toNat : Int) != 45) && ((r[r.length - 1].toNat : Int) != 45)) := by
 have h1 : r ≠ [] := fun e => by subst e; simp at h
 have h2 : r.head? = some r[0] := by
  cases r with
  |nil => simp at h
  |cons c r => rfl
 have h3 : r.getLast? = some r[r.length - 1] := by
  rw [List.getLast?_eq_getElem?]
  exact List.getElem?_eq_getElem (by omega)
 unfold endsOk
 rw [h2, h3]
 have e0 := byte_eq r[0] 45
 have e1 := byte_eq r[r.length - 1] 45
 simp only [bne] at *
 rw [show ((45 : UInt8).toNat : Int) = 45 from rfl] at e0 e1
 rw [e0, e1]
 simp [h1]
set_option maxRecDepth 100000 in
theorem next_any (w : World) (g : Nat) (s : List UInt8) (a : Nat) (lg : Bool) (h : RdAt w g s a lg) :
  Calls Tryz.prog 276 #[.pointer (some ⟨g, 0, none⟩)] w fun e w' => e = .returned (.int .u8 (((s.drop a).headD 0).toNat : Int)) ∧ Keeps w w' := by
 obtain ⟨hB, ha, hs⟩ := h
 have h0 : w.cell? ⟨g, 0, none⟩ = some (.string (bstr s)) := by rw [hB.cell]; rfl
 have h1 : w.cell? ⟨g, 1, none⟩ = some (.int .i64 (a : Int)) := by rw [hB.cell]; rfl
 have HSZ := Lib.hid (bstr_size s)
 by_cases hlt : a < s.length
 ·have hl : a < (bstr s).size := by rw [HSZ.out]; exact hlt
  have e1 : ((a : Int) == ((bstr s).size : Int)) = false := by simp; omega
  have HX := Lib.hid (show (s.drop a).headD 0 = (bstr s)[a]'hl from by
   rw [List.drop_eq_getElem_cons hlt]
   rfl)
  go_enter Tryz.func276, Tryz.ntmps276
  go_wp2_with fail
  refine wp_region_noPanic ?_
  refine wp_region_held_drew (S := fun w' => Keeps w w') (by kernel_rfl) (((Keeps.refl w).drew)) (fun _ => ?_)
  have hHeld : Keeps w (w).drew := ((Keeps.refl w).drew)
  generalize World.drew w = xs at *
  refine tq 0 3 ?_
  refine tq 1 4 ?_
  refine tq 2 5 ?_
  refine tq 3 6 ?_ (hy := fun w' hSw => by
   have hSw : Keeps w w' := hSw
   have hx := keep1 hSw h1
   clear hSw
   go_simp
   try with_reducible rfl)
  refine tq 4 7 ?_
  refine tq 5 8 ?_
  refine tq 6 9 ?_
  refine tq 7 10 ?_ (hy := fun w' hSw => by
   have hSw : Keeps w w' := hSw
   have hx := keep1 hSw h0
   clear hSw
   go_simp
   try with_reducible rfl)
  refine tq 8 11 ?_
  refine tq 9 12 ?_
  refine wpAnyH_done (by kernel_rfl) ?_ _
  refine NoPanic.normal ?_
  have hh0 := keep1 hHeld h0
  have hh1 := keep1 hHeld h1
  have HK := Lib.hid hHeld
  clear hHeld h0 h1
  obtain ⟨xo, rfl⟩ : ∃ z : World, z = xs := ⟨_, rfl⟩
  go_wp2_with fail
  refine wp_region_noPanic ?_
  refine wp_region_held_drew (S := fun w' => Keeps xo w') (by kernel_rfl) (((Keeps.refl xo).drew)) (fun _ => ?_)
  have hHeld : Keeps xo (xo).drew := ((Keeps.refl xo).drew)
  generalize World.drew xo = xs at *
  refine tq 0 13 ?_
  refine tq 1 14 ?_
  refine tq 2 15 ?_
  refine tq 3 16 ?_ (hy := fun w' hSw => by
   have hSw : Keeps xo w' := hSw
   have hx := keep1 hSw hh0
   clear hSw
   go_simp
   try with_reducible rfl)
  refine tq 4 17 ?_
  refine tq 5 18 ?_
  refine tq 6 19 ?_
  refine tq 7 20 ?_ (hy := fun w' hSw => by
   have hSw : Keeps xo w' := hSw
   have hx := keep1 hSw hh1
   clear hSw
   go_simp
   try with_reducible rfl)
  refine tq 8 21 ?_
  refine tq 9 2 ?_
  refine wpAnyH_done (by kernel_rfl) ?_ _
  refine NoPanic.normal ?_
  go_wp2_with fail
  go_ret
  exact ⟨by rw [HX.out]; rfl, HK.out.trans hHeld⟩
 ·have e1 : ((a : Int) == ((bstr s).size : Int)) = true := by simp [HSZ.out]; omega
  have HX := Lib.hid (show (s.drop a).headD 0 = 0 from by
   rw [List.drop_eq_nil_of_le (by omega)]
   rfl)
  go_enter Tryz.func276, Tryz.ntmps276
  go_wp2_with fail
  refine wp_region_noPanic ?_
  refine wp_region_held_drew (S := fun w' => Keeps w w') (by kernel_rfl) (((Keeps.refl w).drew)) (fun _ => ?_)
  have hHeld : Keeps w (w).drew := ((Keeps.refl w).drew)
  generalize World.drew w = xs at *
  refine tq 0 3 ?_
  refine tq 1 4 ?_
  refine tq 2 5 ?_
  refine tq 3 6 ?_ (hy := fun w' hSw => by
   have hSw : Keeps w w' := hSw
   have hx := keep1 hSw h1
   clear hSw
   go_simp
   try with_reducible rfl)
  refine tq 4 7 ?_
  refine tq 5 8 ?_
  refine tq 6 9 ?_
  refine tq 7 10 ?_ (hy := fun w' hSw => by
   have hSw : Keeps w w' := hSw
   have hx := keep1 hSw h0
   clear hSw
   go_simp
   try with_reducible rfl)
  refine tq 8 11 ?_
  refine tq 9 12 ?_
  refine wpAnyH_done (by kernel_rfl) ?_ _
  refine NoPanic.normal ?_
  go_wp2_with fail
  go_ret
  exact ⟨by rw [HX.out]; rfl, hHeld⟩
theorem label_any (w : World) (g : Nat) (s : List UInt8) (a : Nat) (lg : Bool) (h : RdAt w g s a lg) :
  Calls Tryz.prog 275 #[.pointer (some ⟨g, 0, none⟩)] w fun e w' => e = .returned (.bool (endsOk (runL (s.drop a)))) ∧ RdAt w' g s (a + (runL (s.drop a)).length) lg ∧ Mods (· = g) w w' := by
 have HR := Lib.hid (run_any w g s a lg h)
 have hle := run_len h.2.1
 have hs := h.2.2
 have hle2 := h.2.1
 unfold RunDid at HR
 generalize runL (s.drop a) = r at *
 have HSZ := Lib.hid (bstr_size r)
 clear h
 by_cases hr : r = []
 ·subst hr
  go_enter Tryz.func275, Tryz.ntmps275
  go_wp2_with fail
  refine HR.out.mono ?_
  rintro e w1 ⟨rfl, hd, hm⟩
  have HD := Lib.hid (And.intro hd hm)
  clear hd hm
  have e0 : (bstr []).toList = [] := bstr_toList []
  go_wp2_with fail
  go_ret
  exact ⟨rfl, HD.out⟩
 ·have hpos : 0 < r.length := List.length_pos_iff.2 hr
  have e0 : (bstr r).toList.isEmpty = false := by rw [bstr_toList]; simp [hr]
  have hl0 : 0 < (bstr r).size := by rw [HSZ.out]; exact hpos
  obtain ⟨m, hm⟩ : ∃ m, r.length = m + 1 := ⟨r.length - 1, by omega⟩
  have hl1 : m < (bstr r).size := by rw [HSZ.out]; omega
  have hwm : wrap64 (((bstr r).size : Int) - 1) = (m : Int) := by
   rw [HSZ.out, hm, show (((m + 1 : Nat) : Int) - 1) = (m : Int) by omega]
   exact IntWalk.wrap64_in _ (by omega)
  have HE := Lib.hid (show endsOk r = (((((bstr r)[0]'hl0).toNat : Int) != 45) && ((((bstr r)[m]'hl1).toNat : Int) != 45)) from by
   rw [ends_eq hpos]
   have e2 : r[r.length - 1] = (bstr r)[m]'hl1 := by
    have : r.length - 1 = m := by omega
    simp only [this]
    rfl
   rw [e2]
   rfl)
  obtain ⟨b0, hb0⟩ : ∃ b, ((((bstr r)[0]'hl0).toNat : Int) != 45) = b := ⟨_, rfl⟩
  obtain ⟨b1, hb1⟩ : ∃ b, ((((bstr r)[m]'hl1).toNat : Int) != 45) = b := ⟨_, rfl⟩
  rw [hb0, hb1] at HE
  clear hm
  cases b0 <;> cases b1
  all_goals
   go_enter Tryz.func275, Tryz.ntmps275
   go_wp2_with fail
   refine HR.out.mono ?_
   rintro e w1 ⟨rfl, hd, hm⟩
   have HD := Lib.hid (And.intro hd hm)
   clear hd hm
   go_wp2_with fail
   go_ret
   exact ⟨by rw [HE.out]; rfl, HD.out⟩
/-- what a domain leaves, and whether it is too long -/
def domL (s : List UInt8) : Option (List UInt8) := domF (s.length + 1) s
def DomDid (W : World) (g : Nat) (s : List UInt8) (e : Ending) (w' : World) : Prop :=
 ∃ (x : List UInt8) (ok : Bool) (b : Nat) (lg : Bool), e = .returned (.tuple #[.string (bstr x), .bool ok]) ∧ (ok = true → domL s = some (s.drop b) ∧ lg = decide (64 < b)) ∧ (ok = false → domL s = none) ∧ Mods (· = g) W w' ∧ RdAt w' g s b lg
theorem domF_none {n : Nat} {s : List UInt8} (h : endsOk (runL s) = false) : domF (n + 1) s = none := by
 rw [domF, if_pos h]
theorem domF_end {n : Nat} {s : List UInt8} (h : endsOk (runL s) = true) (h2 : (s.drop (runL s).length).headD 0 ≠ 46) : domF (n + 1) s = some (s.drop (runL s).length) := by
 rw [domF, if_neg (by simp [h])]
 split
 ·rename_i e
  rw [e]
 ·rename_i c r e
  rw [e] at h2 ⊢
  rw [if_neg (by simpa using h2)]
theorem domF_on {n : Nat} {s : List UInt8} (h : endsOk (runL s) = true) (h2 : (s.drop (runL s).length).headD 0 = 46) : domF (n + 1) s = domF n (s.drop ((runL s).length + 1)) ∧ (runL s).length < s.length := by
 rw [domF, if_neg (by simp [h])]
 cases e : s.drop (runL s).length with
 |nil => rw [e] at h2; simp at h2
 |cons c r =>
  rw [e] at h2
  have hc : c = 46 := by simpa using h2
  have e2 : s.drop ((runL s).length + 1) = r := by rw [← List.drop_drop, e]; rfl
  refine ⟨?_, ?_⟩
  ·dsimp only
   rw [if_pos hc, e2]
  ·have := congrArg List.length e
   simp at this
   omega
set_option maxRecDepth 100000 in
set_option maxHeartbeats 1000000 in
theorem domain_any (w : World) (g : Nat) (s : List UInt8) (h : RdAt w g s 0 false) : Calls Tryz.prog 271 #[.pointer (some ⟨g, 0, none⟩)] w (DomDid w g s) := by
 have hs := h.2.2
 have HL := Lib.hid (label_any w g s 0 false h)
 have HB := Lib.hid h
 simp only [List.drop_zero, Nat.zero_add] at HL
 have h1 : w.cell? ⟨g, 1, none⟩ = some (.int .i64 0) := by rw [h.1.cell]; rfl
 clear h
 go_enter Tryz.func271, Tryz.ntmps271
 go_wp2_with fail
 refine HL.out.mono ?_
 rintro e w1 ⟨rfl, hd, hm⟩
 have HD1 := Lib.hid hd
 have HM1 := Lib.hid hm
 clear hd hm HL h1
 generalize hok : endsOk (runL s) = ok at *
 have HOK := Lib.hid hok
 clear hok
 cases ok with
 |false =>
  go_wp2_with fail
  exact bodyPost_ret (v := .tuple #[.string (bstr []), .bool false]) (by simp [results, Tryz.results271, go_sem, bstr]) rfl ⟨[], false, _, _, rfl, by simp, fun _ => by
   unfold domL
   exact domF_none HOK.out, HM1.out, HD1.out⟩
 |true =>
  go_wp2_with fail
  go_loopg [12] s.length (fun gk _ wr => ∃ a : Nat, s.length + 1 ≤ a + (gk + 1) ∧ Hid (endsOk (runL (s.drop a)) = true ∧ domL s = domF (gk + 1) (s.drop a)) ∧ Hid (RdAt wr g s (a + (runL (s.drop a)).length) false) ∧ Hid (Mods (· = g) w wr))
  case atStart => exact ⟨0, by omega, Lib.hid ⟨by simpa using HOK.out, by simp [domL]⟩, Lib.hid (by simpa using HD1.out), HM1⟩
  case round =>
   obtain ⟨a, ha, HA, HR, HM⟩ := hrel
   have HN := Lib.hid (next_any wr g s _ false HR.out)
   have hle := HR.out.2.1
   have hb1 : (((s.drop (a + (runL (s.drop a)).length)).headD 0).toNat : Int) = ((((s.drop a).drop (runL (s.drop a)).length).headD 0).toNat : Int) := by rw [List.drop_drop]
   rw [hb1] at HN
   have HOn := Lib.hid (@domF_on gk (s.drop a))
   have HEn := Lib.hid (@domF_end gk (s.drop a))
   rw [List.drop_drop] at HEn HOn HN
   rw [List.drop_drop, List.length_drop] at HOn
   clear hb1
   have hal : a ≤ a + (runL (s.drop a)).length := by omega
   generalize hb : a + (runL (s.drop a)).length = b at *
   have HBE := Lib.hid hb
   generalize (runL (s.drop a)).length = rn at *
   clear hb
   generalize hc : (s.drop b).headD 0 = c at *
   clear hc
   have HCE := Lib.hid (byte_eq c 46)
   by_cases h46 : c = 46
   ·subst h46
    obtain ⟨hon1, hon2⟩ := HOn.out HA.out.1 rfl
    have HDD := Lib.hid (HA.out.2.trans hon1)
    rw [show a + (rn + 1) = b + 1 by have := HBE.out; omega] at HDD
    obtain ⟨k', rfl⟩ : ∃ k', gk = k' + 1 := ⟨gk - 1, by have := HBE.out; omega⟩
    have hbl : b < s.length := by have := HBE.out; omega
    clear HOn HEn hon1 hon2
    go_wp2_with fail
    refine HN.out.mono ?_
    rintro e w2 ⟨rfl, hk⟩
    have HR2 := Lib.hid (HR.out.1.keeps hk)
    have HM2 := Lib.hid (HM.out.then hk)
    have hw : IntKind.i64.wrap ((b : Int) + 1) = (b : Int) + 1 := IntWalk.i64_in _ (by omega)
    have r1 : w2.cell? ⟨g, 1, none⟩ = some (.int .i64 (b : Int)) := by rw [HR2.out.cell]; rfl
    have z1 : w2.frozen? ⟨g, 1, none⟩ = false := HR2.out.frozen 1
    have HR3 := Lib.hid (show RdAt (w2.setCell ⟨g, 1, none⟩ (.int .i64 ((b : Int) + 1))) g s (b + 1) false from ⟨HR2.out.set_ 1 (.int .i64 ((b : Int) + 1)), by omega, hs⟩)
    have HM3 := Lib.hid (HM2.out.setCell (p := ⟨g, 1, none⟩) (fun _ => rfl) (.int .i64 ((b : Int) + 1)))
    have HL := Lib.hid (label_any _ g s (b + 1) false HR3.out)
    clear hk HN HR HM HR2 HM2
    go_wp2_with fail
    refine HL.out.mono ?_
    rintro e w4 ⟨rfl, hd, hm⟩
    have HD1 := Lib.hid hd
    have HM1 := Lib.hid (HM3.out.trans hm (fun _ h _ => h))
    clear hd hm HL HR3 HM3 r1 z1
    generalize hok : endsOk (runL (s.drop (b + 1))) = ok at *
    have HOK2 := Lib.hid hok
    clear hok
    cases ok with
    |false =>
     go_wp2_with fail
     exact bodyPost_ret (v := .tuple #[.string (bstr []), .bool false]) (by simp [results, Tryz.results271, go_sem, bstr]) rfl ⟨[], false, _, _, rfl, by simp, fun _ => by
      rw [HDD.out]
      exact domF_none HOK2.out, HM1.out, HD1.out⟩
    |true =>
     go_wp2_with fail
     go_roundg k'
     case measure => omega
     case rel => exact ⟨b + 1, by have := HBE.out; omega, Lib.hid ⟨HOK2.out, HDD.out⟩, HD1, HM1⟩
   ·have e46 : ((c.toNat : Int) == 46) = false := by
     have := HCE.out
     rw [decide_eq_false h46] at this
     exact this
    have HDD := Lib.hid (HA.out.2.trans (HEn.out HA.out.1 h46))
    clear HOn HEn
    go_wp2_with fail
    refine HN.out.mono ?_
    rintro e w2 ⟨rfl, hk⟩
    have HR2 := Lib.hid (HR.out.1.keeps hk)
    have HM2 := Lib.hid (HM.out.then hk)
    have r0 : w2.cell? ⟨g, 0, none⟩ = some (.string (bstr s)) := by rw [HR2.out.cell]; rfl
    have r1 : w2.cell? ⟨g, 1, none⟩ = some (.int .i64 (b : Int)) := by rw [HR2.out.cell]; rfl
    have r2 : w2.cell? ⟨g, 2, none⟩ = some (.bool false) := by rw [HR2.out.cell]; rfl
    have z2 : w2.frozen? ⟨g, 2, none⟩ = false := HR2.out.frozen 2
    have hw : IntKind.i64.wrap ((b : Int) - 0) = (b : Int) := by rw [Int.sub_zero]; exact IntWalk.i64_in _ (by omega)
    have hw2 : IntKind.i64.wrap (b : Int) = (b : Int) := IntWalk.i64_in _ (by omega)
    obtain ⟨lg, hlg⟩ : ∃ l, decide ((64 : Int) < (b : Int)) = l := ⟨_, rfl⟩
    have HLG := Lib.hid (show lg = decide (64 < b) from by rw [← hlg]; exact decide_eq_decide.2 (by omega))
    have HR3 := Lib.hid (show RdAt (w2.setCell ⟨g, 2, none⟩ (.bool lg)) g s b lg from ⟨HR2.out.set_ 2 (.bool lg), hle, hs⟩)
    have HM3 := Lib.hid (HM2.out.setCell (p := ⟨g, 2, none⟩) (fun _ => rfl) (.bool lg))
    clear hk HN HR HM HR2 HM2
    go_wp2_with fail
    generalize w2.setCell ⟨g, 2, none⟩ (.bool lg) = x3 at *
    have s0 : x3.cell? ⟨g, 0, none⟩ = some (.string (bstr s)) := by rw [HR3.out.1.cell]; rfl
    have s1 : x3.cell? ⟨g, 1, none⟩ = some (.int .i64 (b : Int)) := by rw [HR3.out.1.cell]; rfl
    have hb0 : (0 : Int) ≤ (b : Int) := by omega
    have hb2 : (b : Int) ≤ ((bstr s).size : Int) := by rw [bstr_size]; omega
    refine wp_region_noPanic ?_
    refine wp_region_held_drew (S := fun w' => Keeps x3 w') (by kernel_rfl) (((Keeps.refl x3).drew)) (fun _ => ?_)
    have hHeld : Keeps x3 (x3).drew := ((Keeps.refl x3).drew)
    generalize World.drew x3 = xs at *
    refine tq 0 41 ?_
    refine tq 1 42 ?_
    refine tq 2 43 ?_
    refine tq 3 44 ?_ (hy := fun w' hSw => by
     have hSw : Keeps x3 w' := hSw
     have hx := keep1 hSw s0
     clear hSw
     go_simp
     try with_reducible rfl)
    refine tq 4 45 ?_
    refine tq 5 46 ?_
    refine tq 6 47 ?_
    refine tq 7 48 ?_
    refine tq 8 49 ?_ (hy := fun w' hSw => by
     have hSw : Keeps x3 w' := hSw
     have hx := keep1 hSw s1
     clear hSw
     go_simp
     try with_reducible rfl)
    refine tq 9 50 ?_
    refine tq 10 2 ?_
    refine tq 11 3 ?_
    refine wpAnyH_done (by kernel_rfl) ?_ _
    refine NoPanic.normal ?_
    go_wp2_with fail
    exact bodyPost_ret (v := .tuple #[.string (bstr (s.take b)), .bool true]) (by simp [results, Tryz.results271, go_sem, bstr_extract]) rfl ⟨s.take b, true, b, lg, rfl, fun _ => ⟨HDD.out, HLG.out⟩, by simp, HM3.out.then hHeld, HR3.out.1.keeps hHeld, HR3.out.2⟩
set_option maxRecDepth 100000 in
theorem domainB_any (w : World) (s : List UInt8) (hs : s.length ≤ 9000000000000000000) : Calls Tryz.prog 259 #[.string (bstr s)] w fun e w' => e = .returned (.bool (domainB s)) ∧ Keeps w w' := by
 have HX := Lib.hid (dom_labels (s.length + 1) s (by omega))
 have HSZ := Lib.hid (bstr_size s)
 go_enter Tryz.func259, Tryz.ntmps259
 go_wp2_with fail
 have HB := Lib.hid (show RdAt (w.alloc (.cells (rdA s 0 false) 319)) w.heap.size s 0 false from ⟨Blk.new _ _ _ rfl, by omega, hs⟩)
 have HKA := Lib.hid (show Keeps w (w.alloc (.cells (rdA s 0 false) 319)) from (Keeps.refl _).alloc _)
 refine (domain_any _ _ s HB.out).mono ?_
 rintro e w1 ⟨x, ok, b, lg, rfl, h1, h2, hm, hr⟩
 have HK := Lib.hid (hm.keeps HKA.out (fun x hx => by rw [hx]; exact Nat.le_refl _))
 have HR := Lib.hid hr.1
 have hb := hr.2.1
 have HD := Lib.hid (And.intro h1 h2)
 clear hr hm h1 h2 HB HKA
 generalize w.heap.size = g at *
 cases ok with
 |false =>
  have HN := Lib.hid (HD.out.2 rfl)
  clear HD
  go_wp2_with fail
  go_ret
  refine ⟨retB ?_, HK.out⟩
  unfold domainB
  rw [← HX.out]
  unfold domL at HN
  rw [HN.out]
  rfl
 |true =>
  have HN := Lib.hid (HD.out.1 rfl)
  clear HD
  have r1 : w1.cell? ⟨g, 1, none⟩ = some (.int .i64 (b : Int)) := by rw [HR.out.cell]; rfl
  have r2 : w1.cell? ⟨g, 2, none⟩ = some (.bool lg) := by rw [HR.out.cell]; rfl
  have HE := Lib.hid (show domainB s = (decide (b = s.length) && decide (s.length ≤ 64)) from by
   unfold domainB
   rw [← HX.out]
   have := HN.out.1
   unfold domL at this
   rw [this]
   congr 1
   refine decide_eq_decide.2 ⟨fun h => ?_, fun h => ?_⟩
   ·have := List.drop_eq_nil_iff.1 (Option.some.inj h)
    omega
   ·rw [List.drop_eq_nil_of_le (by omega)])
  by_cases hbs : b = s.length
  ·have e1 : ((b : Int) == ((bstr s).size : Int)) = true := by rw [HSZ.out, hbs]; simp
   have HLG := Lib.hid (show (!lg) = domainB s from by
    rw [HE.out, HN.out.2, hbs]
    simp
    by_cases h : 64 < s.length <;> simp [h] <;> omega)
   clear hbs
   cases lg <;>
   ·go_wp2_with fail
    go_ret
    exact ⟨by rw [← HLG.out]; rfl, HK.out⟩
  ·have e1 : ((b : Int) == ((bstr s).size : Int)) = false := by rw [HSZ.out]; simp; omega
   have HF := Lib.hid (show domainB s = false from by rw [HE.out]; simp [hbs])
   clear hbs
   go_wp2_with fail
   go_ret
   exact ⟨by rw [HF.out]; rfl, HK.out⟩
theorem all_take {p : UInt8 → Bool} {l : List UInt8} {j : Nat} (h : j < l.length) (ha : (l.take j).all p = true) (hc : p l[j] = true) : (l.take (j + 1)).all p = true := by
 rw [List.take_succ_eq_append_getElem h, List.all_append, ha]
 simp [hc]
theorem all_not {p : UInt8 → Bool} {l : List UInt8} {j : Nat} (h : j < l.length) (hc : p l[j] = false) : l.all p = false := by
 rw [List.all_eq_false]
 exact ⟨l[j], List.getElem_mem h, by simp [hc]⟩
set_option maxRecDepth 100000 in
set_option maxHeartbeats 1000000 in
theorem good_any (w : World) (l d : List UInt8) (hl : l.length ≤ 9000000000000000000) (hd : d.length ≤ 9000000000000000000) : Calls Tryz.prog 224 #[.agg #[.string (bstr l), .string (bstr d)]] w fun e w' => e = .returned (.bool (goodB l d)) ∧ Keeps w w' := by
 have HD := Lib.hid (fun w => domainB_any w d hd)
 have HSZ := Lib.hid (bstr_size l)
 obtain ⟨c9, w2, hcv, hrow, hK⟩ := str_bytes (P := Tryz.prog) (w.alloc (.cells #[.string (bstr l), .string (bstr d)] 50)) Tryz.underlying53 Tryz.underlying5 Tryz.underlying9 (bstr l) (by rw [bstr_size]; unfold maxLen; omega)
 rw [show (w.alloc (.cells #[.string (bstr l), .string (bstr d)] 50)).heap.size = w.heap.size + 1 by simp] at hrow
 have HRW := Lib.hid (show Row w2 (.slice (some ⟨w.heap.size + 1, 0, none⟩) (bstr l).size c9) (l.map u8v) from hrow)
 have HK2 := Lib.hid (((Keeps.refl w).alloc (.cells #[.string (bstr l), .string (bstr d)] 50)).trans hK)
 have HBA := Lib.hid ((Blk.new w 50 #[.string (bstr l), .string (bstr d)] rfl).keeps hK)
 have q0 : w2.cell? ⟨w.heap.size, 0, none⟩ = some (.string (bstr l)) := by rw [HBA.out.cell]; rfl
 have q1 : w2.cell? ⟨w.heap.size, 1, none⟩ = some (.string (bstr d)) := by rw [HBA.out.cell]; rfl
 have HG := Lib.hid (show goodB l d = (l.all plainC && decide (l ≠ []) && decide (l.length ≤ 64) && domainB d) from rfl)
 clear hK hrow
 go_enter Tryz.func224, Tryz.ntmps224
 go_wp2_with fail
 clear hcv
 generalize w.heap.size + 1 = bn at *
 generalize w.heap.size = an at *
 go_loopw [9] (fun i wr => ∃ j : Nat, i = .int .i64 (j : Int) ∧ j ≤ (bstr l).size ∧ Hid ((l.take j).all plainC = true) ∧ w2 = wr) (fun i _ => (bstr l).size - (intOf i).toNat)
 case atStart => exact ⟨0, rfl, Nat.zero_le _, Lib.hid rfl, rfl⟩
 case round =>
  obtain ⟨j, rfl, hj, HA, rfl⟩ := hrel
  by_cases hlt : j < (bstr l).size
  ·have hll : j < l.length := by rw [← HSZ.out]; exact hlt
   have hw : IntKind.i64.wrap ((j : Int) + 1) = (j : Int) + 1 := IntWalk.i64_in _ (by rw [bstr_size] at hlt; omega)
   obtain ⟨b, off, cap, hv, -, -, hc⟩ := HRW.out.bytesAt (by omega)
   simp only [Value.slice.injEq, Option.some.injEq, Addr.mk.injEq] at hv
   obtain ⟨⟨rfl, rfl, -⟩, -, rfl⟩ := hv
   have hcell := hc.out j l[j] (List.getElem?_eq_getElem hll)
   rw [Nat.zero_add] at hcell
   clear hc
   have HP := Lib.hid (plain_any l[j] w2)
   have HT := Lib.hid (@all_take plainC l j hll HA.out)
   have HF := Lib.hid (@all_not plainC l j hll)
   generalize plainC l[j] = r at *
   generalize l[j] = c at *
   go_wp2_with fail
   refine HP.out.mono ?_
   rintro e w3 ⟨rfl, rfl⟩
   cases r with
   |false =>
    have HX := Lib.hid (show goodB l d = false from by rw [HG.out, HF.out rfl]; rfl)
    go_wp2_with fail
    go_ret
    exact ⟨by rw [HX.out]; rfl, HK2.out⟩
   |true =>
    go_wp2_with fail
    go_roundw
    case rel => exact ⟨j + 1, by simp, by omega, Lib.hid (HT.out trivial), trivial⟩
    case measure =>
     simp only [intOf]
     omega
  ·have HA' := Lib.hid (show l.all plainC = true from by
    have := HA.out
    rwa [List.take_of_length_le (by rw [← HSZ.out]; omega)] at this)
   rw [HA'.out, Bool.true_and] at HG
   clear HA HA' HRW
   by_cases hl0 : l = []
   ·have e0 : (bstr l).toList.isEmpty = true := by rw [bstr_toList, hl0]; rfl
    have HX := Lib.hid (show goodB l d = false from by rw [HG.out, hl0]; rfl)
    clear hl0
    go_wp2_with fail
    go_ret
    exact ⟨by rw [HX.out]; rfl, HK2.out⟩
   ·have e0 : (bstr l).toList.isEmpty = false := by rw [bstr_toList]; simp [hl0]
    by_cases h64 : l.length ≤ 64
    ·have e1 : decide (((bstr l).size : Int) ≤ 64) = true := decide_eq_true (by rw [HSZ.out]; omega)
     have e2 : decide ((bstr l).size ≤ 64) = true := decide_eq_true (by rw [HSZ.out]; omega)
     have HX := Lib.hid (show goodB l d = domainB d from by rw [HG.out]; simp [hl0, h64])
     clear hl0 h64
     go_wp2_with fail
     refine (HD.out _).mono ?_
     rintro e w3 ⟨rfl, hk⟩
     go_wp2_with fail
     go_ret
     exact ⟨by rw [HX.out]; rfl, HK2.out.trans hk⟩
    ·have e1 : decide (((bstr l).size : Int) ≤ 64) = false := decide_eq_false (by rw [HSZ.out]; omega)
     have e2 : decide ((bstr l).size ≤ 64) = false := decide_eq_false (by rw [HSZ.out]; omega)
     have HX := Lib.hid (show goodB l d = false from by rw [HG.out]; simp [h64])
     clear hl0 h64
     go_wp2_with fail
     go_ret
     exact ⟨by rw [HX.out]; rfl, HK2.out⟩
end Adr
end Go.Proofs.YtcleakjjefmmbaaGreat

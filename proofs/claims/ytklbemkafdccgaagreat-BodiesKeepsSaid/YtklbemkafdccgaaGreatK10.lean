/- Several texts in one: OctetRaw, RecReadPlain, RecBackPlain, RecScanPlain, RecBackAll, OctetText. -/
import Derived.Test.YtklbemkafdccgaaGreatK02
import Derived.StillTailTactics
import Derived.Test.YtklbemkafdccgaaGreatK09
/- The source's Raw and Text. -/
namespace Go.Proofs.YtklbemkafdccgaaGreat
open Go.RowKit
namespace Oct

def rE (n a : Nat) (er k : Int) : Int := if er ≠ 0 then er else if k < 0 then 1 else if (n : Int) - a < k then 2 else 0
def rA (n a : Nat) (er k : Int) : Nat := if rE n a er k = 0 then a + k.toNat else a
def rL (l : List UInt8) (a : Nat) (er k : Int) : List UInt8 := if rE l.length a er k = 0 then (l.drop a).take k.toNat else []

/-- the call gives bytes of its own, and changes the source's block alone -/
def RawDid (W : World) (g : Nat) (v : Value) (l : List UInt8) (a : Nat) (er : Int) (m : List UInt8) (e : Ending) (w' : World) : Prop :=
 ∃ b, e = .returned b ∧ Own w' W.heap.size 5 b (m.map u8v) ∧ SrcAt w' g v l a er ∧ Mods (· = g) W w'

set_option maxRecDepth 100000 in
set_option maxHeartbeats 1000000 in
theorem srcRaw_any (g : Nat) (v : Value) (l : List UInt8) (a : Nat) (er k : Int) (w : World) (h : SrcAt w g v l a er) :
  Calls Tryz.prog 114 #[.pointer (some ⟨g, 0, none⟩), .int .i64 k] w (RawDid w g v l (rA l.length a er k) (rE l.length a er k) (rL l a er k)) := by
 by_cases he : er = 0
 ·subst he
  have hle := h.le
  have hlen := h.len
  by_cases h0 : k < 0
  ·have hE : rE l.length a 0 k = 1 := by simp [rE, h0]
   have H : Hid (rE l.length a 0 k = 1 ∧ rA l.length a 0 k = a ∧ rL l a 0 k = []) := Lib.hid ⟨hE, by simp [rA, hE], by simp [rL, hE]⟩
   have HF := Lib.hid (fail_any g v l a 0 true 1 w h)
   rw [show failB true 1 0 = true from rfl, show failE true 1 0 = 1 from rfl] at HF
   clear h hE
   go_enter Tryz.func114, Tryz.ntmps114
   go_wp2_with fail
   refine HF.out.mono ?_
   rintro e w1 ⟨rfl, hS1, hM1⟩
   go_wp2_with fail
   go_ret
   exact ⟨_, rfl, by rw [H.out.2.2]; exact Own.nil _ _ _, by rw [H.out.1, H.out.2.1]; exact hS1, hM1⟩
  ·have hd0 : decide (k < 0) = false := by simp; omega
   have HF := Lib.hid (fail_any g v l a 0 false 1 w h)
   rw [show failB false 1 0 = false from rfl, show failE false 1 0 = 0 from rfl] at HF
   by_cases hlt : (l.length : Int) - a < k
   ·have hE : rE l.length a 0 k = 2 := by simp [rE, h0, hlt]
    have H : Hid (rE l.length a 0 k = 2 ∧ rA l.length a 0 k = a ∧ rL l a 0 k = []) := Lib.hid ⟨hE, by simp [rA, hE], by simp [rL, hE]⟩
    clear h hE
    go_enter Tryz.func114, Tryz.ntmps114
    go_wp2_with fail
    refine HF.out.mono ?_
    rintro e w1 ⟨rfl, hS1, hM1⟩
    have HL := Lib.hid (left_any g v l a 0 w1 hS1)
    go_wp2_with fail
    refine HL.out.mono ?_
    rintro e w2 ⟨rfl, hK2⟩
    have HF2 := Lib.hid (fail_any g v l a 0 true 2 w2 (hS1.keeps hK2))
    rw [show failB true 2 0 = true from rfl, show failE true 2 0 = 2 from rfl] at HF2
    clear hS1 HL
    go_wp2_with fail
    refine HF2.out.mono ?_
    rintro e w3 ⟨rfl, hS3, hM3⟩
    go_wp2_with fail
    go_ret
    exact ⟨_, rfl, by rw [H.out.2.2]; exact Own.nil _ _ _, by rw [H.out.1, H.out.2.1]; exact hS3, (hM1.then hK2).trans hM3 fun _ h _ => h⟩
   ·have hE : rE l.length a 0 k = 0 := by simp [rE, h0, hlt]
    obtain ⟨n, rfl⟩ := Int.eq_ofNat_of_zero_le (show 0 ≤ k by omega)
    have H : Hid (rE l.length a 0 n = 0 ∧ rA l.length a 0 n = a + n ∧ rL l a 0 n = (l.drop a).take n) := Lib.hid ⟨hE, by simp [rA, hE], by simp [rL, hE]⟩
    have hd : decide ((l.length : Int) - a < (n : Int)) = false := by simp; omega
    clear h hE
    go_enter Tryz.func114, Tryz.ntmps114
    go_wp2_with fail
    refine HF.out.mono ?_
    rintro e w1 ⟨rfl, hS1, hM1⟩
    have HL := Lib.hid (left_any g v l a 0 w1 hS1)
    go_wp2_with fail
    refine HL.out.mono ?_
    rintro e w2 ⟨rfl, hK2⟩
    have HF2 := Lib.hid (fail_any g v l a 0 false 2 w2 (hS1.keeps hK2))
    rw [show failB false 2 0 = false from rfl, show failE false 2 0 = 0 from rfl] at HF2
    clear hS1 HL
    go_wp2_with fail
    refine HF2.out.mono ?_
    rintro e w3 ⟨rfl, hS3, hM3⟩
    obtain ⟨hc0, hc1, hc2⟩ := hS3.cells
    obtain ⟨hf0, hf1, hf2⟩ := hS3.free
    obtain ⟨p, cap, rfl, hcap1, hcap2⟩ := hS3.own.row.formB
    have HRow := Lib.hid hS3.own.row
    have HS3 := Lib.hid hS3
    clear hS3
    have hM03 := Lib.hid ((hM1.then hK2).trans hM3 fun _ h _ => h)
    clear hM1 hK2 hM3
    have EA := Lib.hid (show ∀ w, (Instr.slice 51 (.slice p l.length cap) (some (.int .i64 (a : Int))) (some (.int .i64 ((a : Int) + (n : Int)))) none).run Tryz.prog w = .ok (cutv p a (a + n) cap) w from fun w => by
     rw [show ((a : Int) + (n : Int)) = ((a + n : Nat) : Int) from by omega]
     exact run_cut_lh w Tryz.underlying51 s5 p l.length cap a (a + n) (by omega) (by omega))
    go_wp2_with fail
    have ea := EA.out
    generalize hW : World.setCell w3 _ _ = w4
    have hS4 : SrcAt w4 g (.slice p l.length cap) l (a + n) 0 := by rw [← hW]; simpa using HS3.out.setA (a + n) (by omega)
    have HM4 : Hid (Mods (· = g) w w4) := Lib.hid (by rw [← hW]; exact Mods.setCell (p := ⟨g, 1, none⟩) hM03.out (fun _ => rfl) _)
    clear hW HS3 HRow hM03 hc0 hc1 hc2 hf0 hf1 hf2
    obtain ⟨hc0, hc1, hc2⟩ := hS4.cells
    have HS4 := Lib.hid hS4
    clear hS4
    rw [show (((a + n : Nat)) : Int) = (a : Int) + n from by omega] at hc1
    have hwa : IntKind.i64.wrap (a : Int) = a := IntWalk.i64_in _ (by omega)
    go_still_tail 15, (by kernel_rfl)
    change wpList _ _ _ _ _ (World.drew _)
    clear hwa ea
    have HCl := Lib.hid (clone_any (cutv p a (a + n) cap) ((l.drop a).take n) w4.drew (by
     have := (HS4.out.keeps ((Keeps.refl _).drew)).own.row.cut (lo := a) (hi := a + n) (by omega) (by simp; omega)
     rw [show a + n - a = n from by omega] at this
     simpa [List.map_take, List.map_drop] using this) (by simp; omega))
    go_wp2_with fail
    refine HCl.out.mono ?_
    rintro e w5 ⟨b, rfl, hown5, hK5⟩
    go_wp2_with fail
    go_ret
    have hM5 := (HM4.out.drew).then hK5
    exact ⟨_, rfl, by rw [H.out.2.2]; exact hown5.lower HM4.out.drew.size, by rw [H.out.1, H.out.2.1]; exact (HS4.out.keeps ((Keeps.refl _).drew)).keeps hK5, hM5⟩
 ·have hE : rE l.length a er k = er := by simp [rE, he]
  have H : Hid (rE l.length a er k = er ∧ rA l.length a er k = a ∧ rL l a er k = []) := Lib.hid ⟨hE, by simp [rA, hE, he], by simp [rL, hE, he]⟩
  have HF := Lib.hid (fail_any g v l a er (decide (k < 0)) 1 w h)
  rw [show failB (decide (k < 0)) 1 er = true from by simp [failB, he], show failE (decide (k < 0)) 1 er = er from by simp [failE, he]] at HF
  clear h hE he
  go_enter Tryz.func114, Tryz.ntmps114
  go_wp2_with fail
  refine HF.out.mono ?_
  rintro e w1 ⟨rfl, hS1, hM1⟩
  go_wp2_with fail
  go_ret
  exact ⟨_, rfl, by rw [H.out.2.2]; exact Own.nil _ _ _, by rw [H.out.1, H.out.2.1]; exact hS1, hM1⟩
end Oct
end Go.Proofs.YtklbemkafdccgaaGreat

/- Records, plain: what is read of a payload. No program. -/
namespace Go.Proofs.YtklbemkafdccgaaGreat.Rcd
open Oct Frm

def capI (v : Nat) : Int := if 9223372036854775807 < v then 9223372036854775807 else v
def gI (l : List UInt8) (a k : Int) : Int := capI (getV l a k)
/-- the record whose fields a payload tells -/
def mkR (kind : Int) (l : List UInt8) : Rec :=
 if kind = 1 then ⟨1, gI l 0 2, gI l 2 4, gI l 6 4, gI l 10 4, 0, 0, 0, 0, 0, 0, []⟩
 else if kind = 2 then ⟨2, 0, 0, 0, 0, gI l 0 4, gI l 4 8, gI l 12 1, gI l 13 4, gI l 17 4, gI l 21 8, []⟩
 else if kind = 3 then ⟨3, 0, 0, 0, 0, gI l 0 4, 0, 0, 0, 0, 0, []⟩
 else if kind = 4 then ⟨4, 0, 0, 0, 0, gI l 0 4, 0, gI l 4 1, 0, 0, 0, []⟩
 else if kind = 5 then ⟨5, 0, 0, gI l 0 4, 0, 0, 0, 0, 0, 0, 0, []⟩
 else ⟨6, 0, 0, 0, 0, 0, 0, 0, gI l 0 4, 0, 0, l.drop 4⟩
def sizeK (k : Int) : Nat := if k = 1 then 14 else if k = 2 then 29 else if k = 4 then 5 else 4
def readE (kind : Int) (l : List UInt8) : Int :=
 if kind < 1 ∨ 6 < kind then 16
 else if l.length < sizeK kind then 2
 else if sizeK kind < l.length ∧ kind ≠ 6 then 3
 else if sizeK kind + 32768 < l.length then 4
 else if within (mkR kind l) = false then 1 else 0
def rec0 : Rec := ⟨0, 0, 0, 0, 0, 0, 0, 0, 0, 0, 0, []⟩
def readR (kind : Int) (l : List UInt8) : Rec := if readE kind l = 0 then mkR kind l else rec0

/-! ### what the program computes on its way -/
def widthS (ps : List Part) : Nat := (ps.map (·.width.toNat)).sum
def stepU (l : List UInt8) (s : Nat × Int × List Nat) (p : Part) : Nat × Int × List Nat := (uA l.length s.1 s.2.1 p.width, uE l.length s.1 s.2.1 p.width, s.2.2 ++ [uV l s.1 s.2.1 p.width])
def rdF (l : List UInt8) (ps : List Part) : Nat × Int × List Nat := ps.foldl (stepU l) (0, 0, [])
def valsL (l : List UInt8) : List Part → Nat → List Nat
 | [], _ => []
 |p :: ps, a => getV l a p.width :: valsL l ps (a + p.width.toNat)
theorem rdF_next (l : List UInt8) {ps : List Part} {j : Nat} (h : j < ps.length) : rdF l (ps.take (j + 1)) = stepU l (rdF l (ps.take j)) ps[j] := by
 rw [List.take_succ_eq_append_getElem h, rdF, List.foldl_append]
 rfl
theorem rdF_len (l : List UInt8) (ps : List Part) : (rdF l ps).2.2.length = ps.length := by
 have : ∀ (ps : List Part) (s : Nat × Int × List Nat), (ps.foldl (stepU l) s).2.2.length = s.2.2.length + ps.length := by
  intro ps
  induction ps with
  |nil => intro s; rfl
  |cons p ps ih => intro s; rw [List.foldl_cons, ih]; simp [stepU]; omega
 have h := this ps (0, 0, [])
 simpa [rdF] using h
theorem okk_of {k : Int} (h : 1 ≤ k ∧ k ≤ 8) : okk k = true := by unfold okk; exact decide_eq_true h
theorem uE_ok {n a : Nat} {k : Int} (hk : 1 ≤ k ∧ k ≤ 8) (h : a + k.toNat ≤ n) : uE n a 0 k = 0 := by
 unfold uE
 rw [if_neg (by omega), okk_of hk, if_neg (by decide), if_neg (by omega)]
theorem uE_short {n a : Nat} {k : Int} (hk : 1 ≤ k ∧ k ≤ 8) (h : n < a + k.toNat) : uE n a 0 k = 2 := by
 unfold uE
 rw [if_neg (by omega), okk_of hk, if_neg (by decide), if_pos (by omega)]
theorem uE_stay {n a : Nat} {k er : Int} (h : er ≠ 0) : uE n a er k = er := by unfold uE; rw [if_pos h]
theorem fold_ok (l : List UInt8) : ∀ (ps : List Part) (a : Nat) (acc : List Nat), (∀ p ∈ ps, 1 ≤ p.width ∧ p.width ≤ 8) → a + widthS ps ≤ l.length → ps.foldl (stepU l) (a, 0, acc) = (a + widthS ps, 0, acc ++ valsL l ps a)
 | [], a, acc, _, _ => by simp [widthS, valsL]
 |p :: ps, a, acc, hp, h => by
  have hw := hp p (by simp)
  simp only [widthS, List.map_cons, List.sum_cons] at h ⊢
  have he := uE_ok (n := l.length) (a := a) hw (by omega)
  have hs : stepU l (a, 0, acc) p = (a + p.width.toNat, 0, acc ++ [getV l a p.width]) := by
   simp only [stepU, uA, uV, he, if_pos]
  rw [List.foldl_cons, hs, fold_ok l ps _ _ (fun q hq => hp q (by simp [hq])) (by unfold widthS; omega)]
  simp [widthS, valsL, Nat.add_assoc]
theorem fold_stay (l : List UInt8) {er : Int} (he : er ≠ 0) : ∀ (ps : List Part) (a : Nat) (acc : List Nat), (ps.foldl (stepU l) (a, er, acc)).2.1 = er
 | [], _, _ => rfl
 |p :: ps, a, acc => by
  have hs : stepU l (a, er, acc) p = (uA l.length a er p.width, er, acc ++ [uV l a er p.width]) := by simp only [stepU, uE_stay he]
  rw [List.foldl_cons, hs, fold_stay l he]
theorem fold_short (l : List UInt8) : ∀ (ps : List Part) (a : Nat) (acc : List Nat), (∀ p ∈ ps, 1 ≤ p.width ∧ p.width ≤ 8) → a ≤ l.length → l.length < a + widthS ps → (ps.foldl (stepU l) (a, 0, acc)).2.1 = 2
 | [], a, acc, _, h1, h => by simp [widthS] at h; omega
 |p :: ps, a, acc, hp, h1, h => by
  have hw := hp p (by simp)
  simp only [widthS, List.map_cons, List.sum_cons] at h
  by_cases hf : a + p.width.toNat ≤ l.length
  ·have he := uE_ok (n := l.length) (a := a) hw hf
   have hs : stepU l (a, 0, acc) p = (a + p.width.toNat, 0, acc ++ [getV l a p.width]) := by
    simp only [stepU, uA, uV, he, if_pos]
   rw [List.foldl_cons, hs]
   exact fold_short l ps _ _ (fun q hq => hp q (by simp [hq])) hf (by unfold widthS; omega)
  ·have he := uE_short (n := l.length) (a := a) hw (by omega)
   have hs : stepU l (a, 0, acc) p = (uA l.length a 0 p.width, 2, acc ++ [uV l a 0 p.width]) := by simp only [stepU, he]
   rw [List.foldl_cons, hs]
   exact fold_stay l (by decide) _ _ _
theorem width_ok {k : Int} : ∀ p ∈ partsL k, 1 ≤ p.width ∧ p.width ≤ 8 := fun p hp => ⟨(part_ok p hp).1, (part_ok p hp).2.1⟩
theorem widthS_kind {k : Int} (h : 1 ≤ k ∧ k ≤ 6) : widthS (partsL k) = sizeK k := by
 have : k = 1 ∨ k = 2 ∨ k = 3 ∨ k = 4 ∨ k = 5 ∨ k = 6 := by omega
 rcases this with rfl | rfl | rfl | rfl | rfl | rfl <;> rfl
theorem rdF_ok {l : List UInt8} {k : Int} (hk : 1 ≤ k ∧ k ≤ 6) (h : sizeK k ≤ l.length) : rdF l (partsL k) = (sizeK k, 0, valsL l (partsL k) 0) := by
 have := fold_ok l (partsL k) 0 [] width_ok (by rw [widthS_kind hk]; omega)
 rw [widthS_kind hk, Nat.zero_add, List.nil_append] at this
 exact this
theorem rdF_short {l : List UInt8} {k : Int} (hk : 1 ≤ k ∧ k ≤ 6) (h : l.length < sizeK k) : (rdF l (partsL k)).2.1 = 2 :=
 fold_short l (partsL k) 0 [] width_ok (Nat.zero_le _) (by rw [widthS_kind hk]; omega)
/-- the second loop: the error and the cells -/
def errZ (e : Int) (zs : List (Part × Nat)) : Int := zs.foldl (fun e z => if e = 0 ∧ z.1.high < (z.2 : Int) then 1 else e) e
def capH (z : Part × Nat) : Int := if z.1.high < (z.2 : Int) then z.1.high else z.2
def arrZ (cs : Array Value) (zs : List (Part × Nat)) : Array Value := zs.foldl (fun cs z => cs.setIfInBounds z.1.off (.int .i64 (capH z))) cs
def cs0 (kind : Int) (dv : Value) : Array Value := #[.int .i64 kind, .int .i64 0, .int .i64 0, .int .i64 0, .int .i64 0, .int .i64 0, .int .i64 0, .int .i64 0, .int .i64 0, .int .i64 0, .int .i64 0, dv]
theorem errZ_next (e : Int) {zs : List (Part × Nat)} {j : Nat} (h : j < zs.length) : errZ e (zs.take (j + 1)) = if errZ e (zs.take j) = 0 ∧ zs[j].1.high < (zs[j].2 : Int) then 1 else errZ e (zs.take j) := by
 rw [List.take_succ_eq_append_getElem h, errZ, List.foldl_append]
 rfl
theorem arrZ_next (cs : Array Value) {zs : List (Part × Nat)} {j : Nat} (h : j < zs.length) : arrZ cs (zs.take (j + 1)) = (arrZ cs (zs.take j)).setIfInBounds zs[j].1.off (.int .i64 (capH zs[j])) := by
 rw [List.take_succ_eq_append_getElem h, arrZ, List.foldl_append]
 rfl
theorem arrZ_size (zs : List (Part × Nat)) : ∀ cs : Array Value, (arrZ cs zs).size = cs.size := by
 induction zs with
 |nil => intro cs; rfl
 |cons z zs ih => intro cs; show (arrZ (cs.setIfInBounds _ _) zs).size = _; rw [ih, Array.size_setIfInBounds]
theorem errZ_stay {e : Int} (he : e ≠ 0) (zs : List (Part × Nat)) : errZ e zs = e := by
 induction zs with
 |nil => rfl
 |cons z zs ih =>
  show errZ (if e = 0 ∧ z.1.high < (z.2 : Int) then 1 else e) zs = e
  rw [if_neg (fun h => he h.1)]
  exact ih
theorem errZ_zero (zs : List (Part × Nat)) : errZ 0 zs = if ∀ z ∈ zs, (z.2 : Int) ≤ z.1.high then 0 else 1 := by
 induction zs with
 |nil => simp [errZ]
 |cons z zs ih =>
  show errZ (if (0 : Int) = 0 ∧ z.1.high < (z.2 : Int) then 1 else 0) zs = _
  by_cases h : z.1.high < (z.2 : Int)
  ·rw [if_pos ⟨rfl, h⟩, errZ_stay (by decide), if_neg (fun hh => by have := hh z (by simp); omega)]
  ·rw [if_neg (fun hh => h hh.2), ih]
   by_cases h2 : ∀ z ∈ zs, (z.2 : Int) ≤ z.1.high
   ·rw [if_pos h2, if_pos (fun y hy => by rcases List.mem_cons.1 hy with rfl | hy; omega; exact h2 y hy)]
   ·rw [if_neg h2, if_neg (fun hh => h2 fun y hy => hh y (by simp [hy]))]
theorem capI_le {v : Nat} {h : Int} (hh : h ≤ 9007199254740992) : capI v ≤ h ↔ (v : Int) ≤ h := by
 unfold capI; split <;> omega
theorem capI_eq {v : Nat} {h : Int} (hh : h ≤ 9007199254740992) (hv : (v : Int) ≤ h) : capI v = v := by
 unfold capI; rw [if_neg (by omega)]
def zsL (k : Int) (l : List UInt8) : List (Part × Nat) := (partsL k).zip (valsL l (partsL k) 0)
theorem zs_rec {k : Int} (hk : 1 ≤ k ∧ k ≤ 6) {l : List UInt8} (h : ∀ z ∈ zsL k l, (z.2 : Int) ≤ z.1.high) (dv : Value) : arrZ (cs0 k dv) (zsL k l) = recA (mkR k l) dv := by
 have hc : ∀ z ∈ zsL k l, capH z = (z.2 : Int) := fun z hz => by unfold capH; rw [if_neg (by have := h z hz; omega)]
 have hg : ∀ z ∈ zsL k l, capI z.2 = (z.2 : Int) := fun z hz => capI_eq ((part_ok z.1 (List.of_mem_zip (a := z.1) (b := z.2) hz).1).2.2.2.2) (h z hz)
 have : k = 1 ∨ k = 2 ∨ k = 3 ∨ k = 4 ∨ k = 5 ∨ k = 6 := by omega
 rcases this with rfl | rfl | rfl | rfl | rfl | rfl <;>
 ·simp [zsL, partsL, valsL, pUid, pFlags, pBody, pNext] at hc hg
  simp [zsL, partsL, valsL, pUid, pFlags, pBody, pNext, arrZ, cs0, recA, mkR, gI, hc, hg]
theorem within_false {k : Int} (hk : 1 ≤ k ∧ k ≤ 6) {l : List UInt8} (h : ¬ ∀ z ∈ zsL k l, (z.2 : Int) ≤ z.1.high) : within (mkR k l) = false := by
 have hb : ∀ (v : Nat) (x : Int), x ≤ 9007199254740992 → (decide (capI v ≤ x) = decide ((v : Int) ≤ x)) := fun v x hx => by rw [Bool.eq_iff_iff, decide_eq_true_eq, decide_eq_true_eq]; exact capI_le hx
 cases hw : within (mkR k l) with
 |false => rfl
 |true =>
  exfalso
  apply h
  have : k = 1 ∨ k = 2 ∨ k = 3 ∨ k = 4 ∨ k = 5 ∨ k = 6 := by omega
  rcases this with rfl | rfl | rfl | rfl | rfl | rfl <;>
  ·simp [within, partsL, mkR, okP, fld, pUid, pFlags, pBody, pNext, gI, hb] at hw
   simp [zsL, partsL, valsL, pUid, pFlags, pBody, pNext]
   omega
theorem chk_mkR {k : Int} (hk : 1 ≤ k ∧ k ≤ 6) {l : List UInt8} (h : k = 6 → l.length ≤ 32772) : chk (mkR k l) = if within (mkR k l) = false then 1 else 0 := by
 have hb : mkR k l = bare (mkR k l) ∧ (mkR k l).kind = k ∧ (k = 6 → (mkR k l).data.length ≤ 32768) := by
  have : k = 1 ∨ k = 2 ∨ k = 3 ∨ k = 4 ∨ k = 5 ∨ k = 6 := by omega
  rcases this with rfl | rfl | rfl | rfl | rfl | rfl
  all_goals simp [mkR, bare]
  have := h rfl
  omega
 unfold chk
 rw [hb.2.1, if_neg (by omega), ← hb.1]
 split
 ·rfl
 ·rw [if_neg (fun hh => by have := hb.2.2 hh.1; omega), if_pos rfl]
/-! ### the error behind the source, and behind the data -/
def datL (k : Int) (l : List UInt8) : List UInt8 := if k = 6 ∧ 4 ≤ l.length then l.drop 4 else []
def E0 (k : Int) (l : List UInt8) : Int := if l.length < sizeK k then 2 else if sizeK k < l.length ∧ k ≠ 6 then 3 else 0
def E1 (k : Int) (l : List UInt8) : Int := if E0 k l = 0 ∧ 32768 < (datL k l).length then 4 else E0 k l
def zsR (k : Int) (l : List UInt8) : List (Part × Nat) := (partsL k).zip (rdF l (partsL k)).2.2
theorem zsR_len (k : Int) (l : List UInt8) : (zsR k l).length = (partsL k).length := by
 unfold zsR
 rw [List.length_zip, rdF_len, Nat.min_self]
theorem rd_all {k : Int} (hk : 1 ≤ k ∧ k ≤ 6) (l : List UInt8) :
  (errZ (E1 k l) (zsR k l) = 0 → (∀ dv, arrZ (cs0 k dv) (zsR k l) = recA (mkR k l) dv) ∧ (mkR k l).data = datL k l ∧ readE k l = chk (mkR k l)) ∧ (errZ (E1 k l) (zsR k l) ≠ 0 → readE k l = errZ (E1 k l) (zsR k l)) := by
 have hre : readE k l = if l.length < sizeK k then 2 else if sizeK k < l.length ∧ k ≠ 6 then 3 else if sizeK k + 32768 < l.length then 4 else if within (mkR k l) = false then 1 else 0 := by
  unfold readE; rw [if_neg (by omega)]
 have h6 : k = 6 → sizeK k = 4 := fun h => by subst h; rfl
 by_cases h1 : l.length < sizeK k
 ·have he : E1 k l = 2 := by unfold E1 E0; rw [if_pos h1, if_neg (by omega)]
  rw [he, errZ_stay (by decide), hre, if_pos h1]
  exact ⟨fun h => by omega, fun _ => rfl⟩
 by_cases h2 : sizeK k < l.length ∧ k ≠ 6
 ·have he : E1 k l = 3 := by unfold E1 E0; rw [if_neg h1, if_pos h2, if_neg (by omega)]
  rw [he, errZ_stay (by decide), hre, if_neg h1, if_pos h2]
  exact ⟨fun h => by omega, fun _ => rfl⟩
 have he0 : E0 k l = 0 := by unfold E0; rw [if_neg h1, if_neg h2]
 have hdl : (datL k l).length = if k = 6 then l.length - 4 else 0 := by
  unfold datL
  by_cases h : k = 6
  ·rw [if_pos h, if_pos ⟨h, by have := h6 h; omega⟩]; simp
  ·rw [if_neg h, if_neg (fun hh => h hh.1)]; rfl
 by_cases h3 : sizeK k + 32768 < l.length
 ·have hk6 : k = 6 := by
   by_cases h : k = 6
   ·exact h
   ·exact absurd ⟨by omega, h⟩ h2
  have he : E1 k l = 4 := by unfold E1; rw [if_pos ⟨he0, by rw [hdl, if_pos hk6]; have := h6 hk6; omega⟩]
  rw [he, errZ_stay (by decide), hre, if_neg h1, if_neg h2, if_pos h3]
  exact ⟨fun h => by omega, fun _ => rfl⟩
 have he : E1 k l = 0 := by
  unfold E1
  rw [if_neg, he0]
  rintro ⟨_, h⟩
  rw [hdl] at h
  split at h
  ·rename_i hk6
   have := h6 hk6
   omega
  ·omega
 have hz : zsR k l = zsL k l := by unfold zsR zsL; rw [rdF_ok hk (by omega)]
 have hch : chk (mkR k l) = if within (mkR k l) = false then 1 else 0 := chk_mkR hk (fun hk6 => by have := h6 hk6; omega)
 rw [he, hz, errZ_zero, hre, if_neg h1, if_neg h2, if_neg h3, hch]
 by_cases ha : ∀ z ∈ zsL k l, (z.2 : Int) ≤ z.1.high
 ·rw [if_pos ha]
  refine ⟨fun _ => ⟨fun dv => zs_rec hk ha dv, ?_, rfl⟩, fun h => absurd rfl h⟩
  by_cases hk6 : k = 6
  ·subst hk6
   have : datL 6 l = l.drop 4 := if_pos ⟨rfl, by have := h6 rfl; omega⟩
   rw [this]
   rfl
  ·have : datL k l = [] := if_neg (fun hh => hk6 hh.1)
   rw [this]
   have : k = 1 ∨ k = 2 ∨ k = 3 ∨ k = 4 ∨ k = 5 := by omega
   rcases this with rfl | rfl | rfl | rfl | rfl <;> rfl
 ·rw [if_neg ha]
  exact ⟨fun h => by omega, fun _ => by rw [if_pos (within_false hk ha)]⟩
/-- behind the first loop: the source's state, the data's -/
theorem done_not6 {k : Int} (hk : 1 ≤ k ∧ k ≤ 6) (h6 : k ≠ 6) (l : List UInt8) : datL k l = [] ∧ doneE (rdF l (partsL k)).2.1 (rdF l (partsL k)).1 l.length = E0 k l := by
 refine ⟨by unfold datL; rw [if_neg (fun h => h6 h.1)], ?_⟩
 unfold E0 doneE
 by_cases h1 : l.length < sizeK k
 ·rw [if_pos h1, rdF_short hk h1, if_neg (by omega)]
 ·rw [if_neg h1, rdF_ok hk (by omega)]
  by_cases h2 : sizeK k < l.length
  ·rw [if_pos ⟨rfl, h2⟩, if_pos ⟨h2, h6⟩]
  ·rw [if_neg (fun h => h2 h.2), if_neg (fun h => h2 h.1)]
theorem done_6 (l : List UInt8) {a : Nat} {er : Int} {vs : List Nat} (h : rdF l (partsL 6) = (a, er, vs)) :
  rL l a er ((l.length : Int) - a) = datL 6 l ∧ doneE (rE l.length a er ((l.length : Int) - a)) (rA l.length a er ((l.length : Int) - a)) l.length = E0 6 l := by
 by_cases h1 : l.length < sizeK 6
 ·have he : er = 2 := by have := rdF_short (k := 6) (by decide) h1; rw [h] at this; exact this
  subst he
  have hE : rE l.length a 2 ((l.length : Int) - a) = 2 := by unfold rE; rw [if_pos (by decide)]
  refine ⟨?_, ?_⟩
  ·unfold rL datL
   rw [hE, if_neg (by decide), if_neg (fun hh => by have : sizeK 6 = 4 := rfl; omega)]
  ·rw [hE]; unfold doneE E0; rw [if_neg (by omega), if_pos h1]
 ·have he := rdF_ok (l := l) (k := 6) (by decide) (by omega)
  rw [h] at he
  simp only [Prod.mk.injEq] at he
  obtain ⟨rfl, rfl, -⟩ := he
  have h4 : sizeK 6 = 4 := rfl
  have hE : rE l.length (sizeK 6) 0 ((l.length : Int) - (sizeK 6 : Nat)) = 0 := by unfold rE; rw [if_neg (by decide), if_neg (by omega), if_neg (by omega)]
  refine ⟨?_, ?_⟩
  ·unfold rL datL
   rw [hE, if_pos rfl, if_pos ⟨rfl, by omega⟩, h4]
   exact List.take_of_length_le (by simp; omega)
  ·unfold rA
   rw [hE, if_pos rfl]
   unfold doneE E0
   rw [if_neg (by rintro ⟨_, h⟩; omega), if_neg h1, if_neg (fun h => h.2 rfl)]
end Go.Proofs.YtklbemkafdccgaaGreat.Rcd

/- Records, plain: what is taken has this very payload. No program. -/
namespace Go.Proofs.YtklbemkafdccgaaGreat.Rcd
open Oct Frm

theorem take_cut (l : List UInt8) (a w s : Nat) : (l.drop a).take w ++ (l.drop (a + w)).take s = (l.drop a).take (w + s) := by
 rw [List.take_add, List.drop_drop]
theorem seg_be {l : List UInt8} {a w : Nat} {a' w' : Int} (h1 : a' = a) (h2 : w' = w) (hw : 1 ≤ w ∧ w ≤ 8) (ha : a + w ≤ l.length) (hg : gI l a' w' ≤ 9007199254740992) : be w (gI l a' w').toNat = (l.drop a).take w := by
 subst h1 h2
 have hb : getB l a w = true := by
  unfold getB
  rw [okk_of (by omega), decide_eq_true (by omega)]
  rfl
 have hv : getV l a w = Oct.valOf ((l.drop a).take w) := getV_nat hb
 have hc : gI l a w = (getV l a w : Int) := by
  unfold gI capI at *
  split at hg
  ·omega
  ·rename_i h; rw [if_neg h]
 rw [hc, hv, Int.toNat_natCast]
 have hl : ((l.drop a).take w).length = w := by simp; omega
 have := be_valOf ((l.drop a).take w)
 rw [hl] at this
 exact this
theorem read_back {k : Int} {l : List UInt8} (h : readE k l = 0) : chk (readR k l) = 0 ∧ payO (readR k l) = l := by
 have hk : 1 ≤ k ∧ k ≤ 6 := by
  unfold readE at h
  split at h
  ·omega
  ·omega
 have hr : readR k l = mkR k l := by unfold readR; rw [if_pos h]
 unfold readE at h
 rw [if_neg (by omega)] at h
 by_cases h1 : l.length < sizeK k
 ·rw [if_pos h1] at h; omega
 rw [if_neg h1] at h
 by_cases h2 : sizeK k < l.length ∧ k ≠ 6
 ·rw [if_pos h2] at h; omega
 rw [if_neg h2] at h
 by_cases h3 : sizeK k + 32768 < l.length
 ·rw [if_pos h3] at h; omega
 rw [if_neg h3] at h
 by_cases h4 : within (mkR k l) = false
 ·rw [if_pos h4] at h; omega
 have hw : within (mkR k l) = true := by simpa using h4
 have hc : chk (mkR k l) = 0 := by
  rw [chk_mkR hk (fun hk6 => by subst hk6; have : sizeK 6 = 4 := rfl; omega), if_neg h4]
 rw [hr]
 refine ⟨hc, ?_⟩
 unfold payO
 rw [if_pos hc]
 have : k = 1 ∨ k = 2 ∨ k = 3 ∨ k = 4 ∨ k = 5 ∨ k = 6 := by omega
 rcases this with rfl | rfl | rfl | rfl | rfl | rfl
 ·have hn : l.length = 14 := by have : sizeK 1 = 14 := rfl; omega
  simp [within, partsL, mkR, okP, fld, pNext] at hw
  have e0 := seg_be (l := l) (a := 0) (w := 2) (a' := 0) (w' := 2) rfl rfl (by omega) (by omega) (by omega)
  have e1 := seg_be (l := l) (a := 2) (w := 4) (a' := 2) (w' := 4) rfl rfl (by omega) (by omega) (by omega)
  have e2 := seg_be (l := l) (a := 6) (w := 4) (a' := 6) (w' := 4) rfl rfl (by omega) (by omega) (by omega)
  have e3 := seg_be (l := l) (a := 10) (w := 4) (a' := 10) (w' := 4) rfl rfl (by omega) (by omega) (by omega)
  have : payL (mkR 1 l) = be 2 (gI l 0 2).toNat ++ (be 4 (gI l 2 4).toNat ++ (be 4 (gI l 6 4).toNat ++ be 4 (gI l 10 4).toNat)) := by
   simp [payL, numsL, partsL, mkR, fld, pNext]
  rw [this, e0, e1, e2, e3, take_cut l 6, take_cut l 2, take_cut l 0]
  rw [List.drop_zero, List.take_of_length_le (by omega)]
 ·have hn : l.length = 29 := by have : sizeK 2 = 29 := rfl; omega
  simp [within, partsL, mkR, okP, fld, pUid, pFlags, pBody] at hw
  have e0 := seg_be (l := l) (a := 0) (w := 4) (a' := 0) (w' := 4) rfl rfl (by omega) (by omega) (by omega)
  have e1 := seg_be (l := l) (a := 4) (w := 8) (a' := 4) (w' := 8) rfl rfl (by omega) (by omega) (by omega)
  have e2 := seg_be (l := l) (a := 12) (w := 1) (a' := 12) (w' := 1) rfl rfl (by omega) (by omega) (by omega)
  have e3 := seg_be (l := l) (a := 13) (w := 4) (a' := 13) (w' := 4) rfl rfl (by omega) (by omega) (by omega)
  have e4 := seg_be (l := l) (a := 17) (w := 4) (a' := 17) (w' := 4) rfl rfl (by omega) (by omega) (by omega)
  have e5 := seg_be (l := l) (a := 21) (w := 8) (a' := 21) (w' := 8) rfl rfl (by omega) (by omega) (by omega)
  have : payL (mkR 2 l) = be 4 (gI l 0 4).toNat ++ (be 8 (gI l 4 8).toNat ++ (be 1 (gI l 12 1).toNat ++ (be 4 (gI l 13 4).toNat ++ (be 4 (gI l 17 4).toNat ++ be 8 (gI l 21 8).toNat)))) := by
   simp [payL, numsL, partsL, mkR, fld, pUid, pFlags, pBody]
  rw [this, e0, e1, e2, e3, e4, e5, take_cut l 17, take_cut l 13, take_cut l 12, take_cut l 4, take_cut l 0]
  rw [List.drop_zero, List.take_of_length_le (by omega)]
 ·have hn : l.length = 4 := by have : sizeK 3 = 4 := rfl; omega
  simp [within, partsL, mkR, okP, fld, pUid] at hw
  have e0 := seg_be (l := l) (a := 0) (w := 4) (a' := 0) (w' := 4) rfl rfl (by omega) (by omega) (by omega)
  have : payL (mkR 3 l) = be 4 (gI l 0 4).toNat := by simp [payL, numsL, partsL, mkR, fld, pUid]
  rw [this, e0, List.drop_zero, List.take_of_length_le (by omega)]
 ·have hn : l.length = 5 := by have : sizeK 4 = 5 := rfl; omega
  simp [within, partsL, mkR, okP, fld, pUid, pFlags] at hw
  have e0 := seg_be (l := l) (a := 0) (w := 4) (a' := 0) (w' := 4) rfl rfl (by omega) (by omega) (by omega)
  have e1 := seg_be (l := l) (a := 4) (w := 1) (a' := 4) (w' := 1) rfl rfl (by omega) (by omega) (by omega)
  have : payL (mkR 4 l) = be 4 (gI l 0 4).toNat ++ be 1 (gI l 4 1).toNat := by simp [payL, numsL, partsL, mkR, fld, pUid, pFlags]
  rw [this, e0, e1, take_cut l 0, List.drop_zero, List.take_of_length_le (by omega)]
 ·have hn : l.length = 4 := by have : sizeK 5 = 4 := rfl; omega
  simp [within, partsL, mkR, okP, fld, pNext] at hw
  have e0 := seg_be (l := l) (a := 0) (w := 4) (a' := 0) (w' := 4) rfl rfl (by omega) (by omega) (by omega)
  have : payL (mkR 5 l) = be 4 (gI l 0 4).toNat := by simp [payL, numsL, partsL, mkR, fld, pNext]
  rw [this, e0, List.drop_zero, List.take_of_length_le (by omega)]
 ·have hn : 4 ≤ l.length := by have : sizeK 6 = 4 := rfl; omega
  simp [within, partsL, mkR, okP, fld, pBody] at hw
  have e0 := seg_be (l := l) (a := 0) (w := 4) (a' := 0) (w' := 4) rfl rfl (by omega) (by omega) (by omega)
  have : payL (mkR 6 l) = be 4 (gI l 0 4).toNat ++ l.drop 4 := by simp [payL, numsL, partsL, mkR, fld, pBody]
  rw [this, e0, List.drop_zero, List.take_append_drop]
end Go.Proofs.YtklbemkafdccgaaGreat.Rcd

/- Records that are found in bytes, plain. No program. -/
namespace Go.Proofs.YtklbemkafdccgaaGreat.Rcd
open Oct Frm

/-- what is found: where, how long, the record -/
structure Fnd where
 at' : Int
 len : Int
 rc : Rec
def fndOf (f : Fr1) : List Fnd := if readE f.kind f.pay = 0 then [⟨f.at', f.len, readR f.kind f.pay⟩] else []
def fndL (fs : List Fr1) : List Fnd := fs.flatMap fndOf
def lenL (fs : List Fr1) : Int := (fs.map fun f => if readE f.kind f.pay = 0 then f.len else 0).sum
theorem fndL_next {fs : List Fr1} {j : Nat} (h : j < fs.length) : fndL (fs.take (j + 1)) = fndL (fs.take j) ++ fndOf fs[j] := by
 rw [List.take_succ_eq_append_getElem h]
 simp only [fndL, List.flatMap_append, List.flatMap_cons, List.flatMap_nil, List.append_nil]
theorem lenL_next {fs : List Fr1} {j : Nat} (h : j < fs.length) : lenL (fs.take (j + 1)) = lenL (fs.take j) + (if readE fs[j].kind fs[j].pay = 0 then fs[j].len else 0) := by
 rw [List.take_succ_eq_append_getElem h]
 simp only [lenL, List.map_append, List.sum_append, List.map_cons, List.map_nil, List.sum_cons, List.sum_nil, Int.add_zero]
theorem fndL_len (fs : List Fr1) : (fndL fs).length ≤ fs.length := by
 induction fs with
 |nil => simp [fndL]
 |cons f fs ih =>
  have : (fndOf f).length ≤ 1 := by unfold fndOf; split <;> simp
  simp only [fndL, List.flatMap_cons, List.length_append, List.length_cons] at *
  omega
/-- frames that lie in bytes: in order, apart -/
theorem scanN_in (l : List UInt8) : ∀ (k g u : Nat), u ≤ l.length → g ≤ u → (∀ f ∈ (scanN l k g u).1, 0 ≤ f.len ∧ f.len ≤ l.length ∧ f.pay.length ≤ l.length) ∧ ((scanN l k g u).1.map (·.len)).sum + u ≤ l.length := by
 intro k
 induction k with
 |zero =>
  intro g u hu _
  simp [scanN]
  omega
 |succ k ih =>
  intro g u hu hg
  by_cases hlt : u < l.length
  ·by_cases he : atE l u = 0
   ·rw [scanN_ok hlt he]
    obtain ⟨h10, hle, h0⟩ := atE_len he
    have hp := atE_pay he
    obtain ⟨ih1, ih2⟩ := ih (u + (atF l u).len.toNat) (u + (atF l u).len.toNat) (by omega) (Nat.le_refl _)
    refine ⟨fun f hf => ?_, ?_⟩
    ·rcases List.mem_cons.1 hf with rfl | hf
     ·exact ⟨by omega, by omega, hp⟩
     ·exact ih1 f hf
    ·simp only [List.map_cons, List.sum_cons]
     omega
   ·rw [scanN_err hlt he]
    obtain ⟨ih1, ih2⟩ := ih g (u + 1) (by omega) (by omega)
    exact ⟨ih1, by omega⟩
  ·rw [scanN_end hlt]
   simp
   omega
theorem lenL_take (l : List UInt8) (j : Nat) : 0 ≤ lenL ((scanR l).1.take j) ∧ lenL ((scanR l).1.take j) ≤ l.length := by
 obtain ⟨h1, h2⟩ := scanN_in l l.length 0 0 (Nat.zero_le _) (Nat.le_refl _)
 have key : ∀ (fs : List Fr1), (∀ f ∈ fs, 0 ≤ f.len) → ∀ j, 0 ≤ lenL (fs.take j) ∧ lenL (fs.take j) ≤ (fs.map (·.len)).sum := by
  intro fs
  induction fs with
  |nil => intro _ j; simp [lenL]
  |cons f fs ih =>
   intro hf j
   have h0 := hf f (by simp)
   have hs : ∀ gs : List Fr1, (∀ f ∈ gs, 0 ≤ f.len) → 0 ≤ (gs.map (·.len)).sum := by
    intro gs
    induction gs with
    |nil => intro _; simp
    |cons g gs ih => intro hg; have := ih (fun x hx => hg x (by simp [hx])); have := hg g (by simp); simp; omega
   cases j with
   |zero =>
    have := hs fs (fun x hx => hf x (by simp [hx]))
    simp [lenL]
    omega
   |succ j =>
    have := ih (fun x hx => hf x (by simp [hx])) j
    simp only [List.take_succ_cons, lenL, List.map_cons, List.sum_cons] at *
    split <;> omega
 have := key (scanR l).1 (fun f hf => (h1 f hf).1) j
 have h2' : ((scanR l).1.map (·.len)).sum + (0 : Nat) ≤ l.length := h2
 omega
end Go.Proofs.YtklbemkafdccgaaGreat.Rcd

/- Records written one behind the other are found: plain. No program. -/
namespace Go.Proofs.YtklbemkafdccgaaGreat.Rcd
open Oct Frm

theorem gI_mid {l a b c : List UInt8} {n k : Nat} {v : Int} (h : l = a ++ (b ++ c)) (hn : n = a.length) (hb : b = be k v.toNat) (h1 : 1 ≤ k) (h8 : k ≤ 8) (h0 : 0 ≤ v) (hv : v < ((256 ^ k : Nat) : Int)) (hm : v ≤ 9007199254740992) {n' k' : Int} (e1 : n' = n) (e2 : k' = k) : gI l n' k' = v := by
 subst e1 e2
 have hg := getV_mid h hn (k := k) (by rw [hb, be_length]) h1 h8
 unfold gI capI
 rw [hg, hb, valOf_be, Nat.mod_eq_of_lt (by omega), if_neg (by omega)]
 omega
theorem payL_size {r : Rec} (h : chk r = 0) : (payL r).length = sizeK r.kind + r.data.length := by
 obtain ⟨hk, -, -, -, -⟩ := chk_zero h
 have : r.kind = 1 ∨ r.kind = 2 ∨ r.kind = 3 ∨ r.kind = 4 ∨ r.kind = 5 ∨ r.kind = 6 := by omega
 unfold payL numsL partsL
 rcases this with k | k | k | k | k | k <;> (simp [k, be_length, sizeK, pUid, pFlags, pBody, pNext]; try omega)
theorem fld_ok {r : Rec} {k : Int} (hok : ∀ q ∈ partsL k, okP r q = true) {q : Part} (hq : q ∈ partsL k) : 0 ≤ fld r q.off ∧ fld r q.off < ((256 ^ q.width.toNat : Nat) : Int) ∧ fld r q.off ≤ 9007199254740992 := by
 have h := hok q hq
 obtain ⟨h1, h2, h3, h4, h5⟩ := part_ok q hq
 have hb : q.low ≤ fld r q.off ∧ fld r q.off ≤ q.high := by simpa [okP] using h
 omega
theorem sizeK_le (k : Int) : sizeK k ≤ 29 := by
 unfold sizeK
 by_cases h1 : k = 1
 ·rw [if_pos h1]; omega
 ·rw [if_neg h1]
  by_cases h2 : k = 2
  ·rw [if_pos h2]; omega
  ·rw [if_neg h2]
   by_cases h4 : k = 4
   ·rw [if_pos h4]; omega
   ·rw [if_neg h4]; omega
/-- what is written is read as it was -/
theorem pay_mk {r : Rec} (h : chk r = 0) : mkR r.kind (payL r) = r := by
 obtain ⟨hk, hok, hb, -, hd⟩ := chk_zero h
 have : r.kind = 1 ∨ r.kind = 2 ∨ r.kind = 3 ∨ r.kind = 4 ∨ r.kind = 5 ∨ r.kind = 6 := by omega
 conv => rhs; rw [hb]
 rcases this with k | k | k | k | k | k
 ·rw [k] at hok ⊢
  obtain ⟨a1, b1, c1⟩ := fld_ok hok (q := ⟨2, 1, 999, 1⟩) (by decide)
  obtain ⟨a2, b2, c2⟩ := fld_ok hok (q := ⟨4, 1, 2147483648, 2⟩) (by decide)
  obtain ⟨a3, b3, c3⟩ := fld_ok hok (q := pNext) (by decide)
  obtain ⟨a4, b4, c4⟩ := fld_ok hok (q := ⟨4, 0, 2147483648, 4⟩) (by decide)
  have hp : payL r = be 2 r.user.toNat ++ (be 4 r.seq.toNat ++ (be 4 r.next.toNat ++ be 4 r.base.toNat)) := by
   unfold payL numsL; rw [k, hd (by omega)]; simp [partsL, fld, pNext]
  have e1 : gI (payL r) 0 2 = r.user := gI_mid (a := []) (b := be 2 r.user.toNat) (c := be 4 r.seq.toNat ++ (be 4 r.next.toNat ++ be 4 r.base.toNat)) (n := 0) (k := 2) (by rw [hp]; rfl) rfl rfl (by decide) (by decide) a1 b1 c1 rfl rfl
  have e2 : gI (payL r) 2 4 = r.seq := gI_mid (a := be 2 r.user.toNat) (b := be 4 r.seq.toNat) (c := be 4 r.next.toNat ++ be 4 r.base.toNat) (n := 2) (k := 4) hp (by rw [be_length]) rfl (by decide) (by decide) a2 b2 c2 rfl rfl
  have e3 : gI (payL r) 6 4 = r.next := gI_mid (a := be 2 r.user.toNat ++ be 4 r.seq.toNat) (b := be 4 r.next.toNat) (c := be 4 r.base.toNat) (n := 6) (k := 4) (by rw [hp]; simp) (by simp [be_length]) rfl (by decide) (by decide) a3 b3 c3 rfl rfl
  have e4 : gI (payL r) 10 4 = r.base := gI_mid (a := be 2 r.user.toNat ++ (be 4 r.seq.toNat ++ be 4 r.next.toNat)) (b := be 4 r.base.toNat) (c := []) (n := 10) (k := 4) (by rw [hp]; simp) (by simp [be_length]) rfl (by decide) (by decide) a4 b4 c4 rfl rfl
  unfold mkR bare
  rw [if_pos rfl, if_pos k, e1, e2, e3, e4]
 ·rw [k] at hok ⊢
  obtain ⟨a1, b1, c1⟩ := fld_ok hok (q := pUid) (by decide)
  obtain ⟨a2, b2, c2⟩ := fld_ok hok (q := ⟨8, 0, 4503599627370496, 6⟩) (by decide)
  obtain ⟨a3, b3, c3⟩ := fld_ok hok (q := pFlags) (by decide)
  obtain ⟨a4, b4, c4⟩ := fld_ok hok (q := pBody) (by decide)
  obtain ⟨a5, b5, c5⟩ := fld_ok hok (q := ⟨4, 0, 32768, 9⟩) (by decide)
  obtain ⟨a6, b6, c6⟩ := fld_ok hok (q := ⟨8, 0, 9007199254740992, 10⟩) (by decide)
  have hp : payL r = be 4 r.uid.toNat ++ (be 8 r.time.toNat ++ (be 1 r.flags.toNat ++ (be 4 r.body.toNat ++ (be 4 r.size.toNat ++ be 8 r.origin.toNat)))) := by
   unfold payL numsL; rw [k, hd (by omega)]; simp [partsL, fld, pUid, pFlags, pBody]
  have e1 : gI (payL r) 0 4 = r.uid := gI_mid (a := []) (b := be 4 r.uid.toNat) (c := be 8 r.time.toNat ++ (be 1 r.flags.toNat ++ (be 4 r.body.toNat ++ (be 4 r.size.toNat ++ be 8 r.origin.toNat)))) (n := 0) (k := 4) (by rw [hp]; rfl) rfl rfl (by decide) (by decide) a1 b1 c1 rfl rfl
  have e2 : gI (payL r) 4 8 = r.time := gI_mid (a := be 4 r.uid.toNat) (b := be 8 r.time.toNat) (c := be 1 r.flags.toNat ++ (be 4 r.body.toNat ++ (be 4 r.size.toNat ++ be 8 r.origin.toNat))) (n := 4) (k := 8) hp (by rw [be_length]) rfl (by decide) (by decide) a2 b2 c2 rfl rfl
  have e3 : gI (payL r) 12 1 = r.flags := gI_mid (a := be 4 r.uid.toNat ++ be 8 r.time.toNat) (b := be 1 r.flags.toNat) (c := be 4 r.body.toNat ++ (be 4 r.size.toNat ++ be 8 r.origin.toNat)) (n := 12) (k := 1) (by rw [hp]; simp) (by simp [be_length]) rfl (by decide) (by decide) a3 b3 c3 rfl rfl
  have e4 : gI (payL r) 13 4 = r.body := gI_mid (a := be 4 r.uid.toNat ++ (be 8 r.time.toNat ++ be 1 r.flags.toNat)) (b := be 4 r.body.toNat) (c := be 4 r.size.toNat ++ be 8 r.origin.toNat) (n := 13) (k := 4) (by rw [hp]; simp) (by simp [be_length]) rfl (by decide) (by decide) a4 b4 c4 rfl rfl
  have e5 : gI (payL r) 17 4 = r.size := gI_mid (a := be 4 r.uid.toNat ++ (be 8 r.time.toNat ++ (be 1 r.flags.toNat ++ be 4 r.body.toNat))) (b := be 4 r.size.toNat) (c := be 8 r.origin.toNat) (n := 17) (k := 4) (by rw [hp]; simp) (by simp [be_length]) rfl (by decide) (by decide) a5 b5 c5 rfl rfl
  have e6 : gI (payL r) 21 8 = r.origin := gI_mid (a := be 4 r.uid.toNat ++ (be 8 r.time.toNat ++ (be 1 r.flags.toNat ++ (be 4 r.body.toNat ++ be 4 r.size.toNat)))) (b := be 8 r.origin.toNat) (c := []) (n := 21) (k := 8) (by rw [hp]; simp) (by simp [be_length]) rfl (by decide) (by decide) a6 b6 c6 rfl rfl
  unfold mkR bare
  rw [if_neg (by decide), if_pos rfl, if_neg (by omega), if_pos k, e1, e2, e3, e4, e5, e6]
 ·rw [k] at hok ⊢
  obtain ⟨a1, b1, c1⟩ := fld_ok hok (q := pUid) (by decide)
  have hp : payL r = be 4 r.uid.toNat := by unfold payL numsL; rw [k, hd (by omega)]; simp [partsL, fld, pUid]
  have e1 : gI (payL r) 0 4 = r.uid := gI_mid (a := []) (b := be 4 r.uid.toNat) (c := []) (n := 0) (k := 4) (by rw [hp]; simp) rfl rfl (by decide) (by decide) a1 b1 c1 rfl rfl
  unfold mkR bare
  rw [if_neg (by decide), if_neg (by decide), if_pos rfl, if_neg (by omega), if_neg (by omega), if_pos k, e1]
 ·rw [k] at hok ⊢
  obtain ⟨a1, b1, c1⟩ := fld_ok hok (q := pUid) (by decide)
  obtain ⟨a2, b2, c2⟩ := fld_ok hok (q := pFlags) (by decide)
  have hp : payL r = be 4 r.uid.toNat ++ be 1 r.flags.toNat := by unfold payL numsL; rw [k, hd (by omega)]; simp [partsL, fld, pUid, pFlags]
  have e1 : gI (payL r) 0 4 = r.uid := gI_mid (a := []) (b := be 4 r.uid.toNat) (c := be 1 r.flags.toNat) (n := 0) (k := 4) (by rw [hp]; simp) rfl rfl (by decide) (by decide) a1 b1 c1 rfl rfl
  have e2 : gI (payL r) 4 1 = r.flags := gI_mid (a := be 4 r.uid.toNat) (b := be 1 r.flags.toNat) (c := []) (n := 4) (k := 1) (by rw [hp]; simp) (by simp [be_length]) rfl (by decide) (by decide) a2 b2 c2 rfl rfl
  unfold mkR bare
  rw [if_neg (by decide), if_neg (by decide), if_neg (by decide), if_pos rfl, if_neg (by omega), if_neg (by omega), if_neg (by omega), if_pos k, e1, e2]
 ·rw [k] at hok ⊢
  obtain ⟨a1, b1, c1⟩ := fld_ok hok (q := pNext) (by decide)
  have hp : payL r = be 4 r.next.toNat := by unfold payL numsL; rw [k, hd (by omega)]; simp [partsL, fld, pNext]
  have e1 : gI (payL r) 0 4 = r.next := gI_mid (a := []) (b := be 4 r.next.toNat) (c := []) (n := 0) (k := 4) (by rw [hp]; simp) rfl rfl (by decide) (by decide) a1 b1 c1 rfl rfl
  unfold mkR bare
  rw [if_neg (by decide), if_neg (by decide), if_neg (by decide), if_neg (by decide), if_pos rfl, if_neg (by omega), if_neg (by omega), if_neg (by omega), if_neg (by omega), if_pos k, e1]
 ·rw [k] at hok ⊢
  obtain ⟨a1, b1, c1⟩ := fld_ok hok (q := pBody) (by decide)
  have hp : payL r = be 4 r.body.toNat ++ r.data := by unfold payL numsL; rw [k]; simp [partsL, fld, pBody]
  have e1 : gI (payL r) 0 4 = r.body := gI_mid (a := []) (b := be 4 r.body.toNat) (c := r.data) (n := 0) (k := 4) (by rw [hp]; simp) rfl rfl (by decide) (by decide) a1 b1 c1 rfl rfl
  have e2 : (payL r).drop 4 = r.data := by rw [hp, List.drop_left' (by rw [be_length])]
  unfold mkR bare
  rw [if_neg (by decide), if_neg (by decide), if_neg (by decide), if_neg (by decide), if_neg (by decide), if_neg (by omega), if_neg (by omega), if_neg (by omega), if_neg (by omega), if_neg (by omega), e1, e2]
theorem pay_read {r : Rec} (h : chk r = 0) : readE r.kind (payL r) = 0 ∧ readR r.kind (payL r) = r := by
 obtain ⟨hk, -, -, hdl, hd⟩ := chk_zero h
 have hs := payL_size h
 have hm := pay_mk h
 have hw : within r = true := by
  have := h
  unfold chk at this
  rw [if_neg (by omega)] at this
  by_cases hw : within r = false
  ·rw [if_pos hw] at this; omega
  ·simpa using hw
 have hE : readE r.kind (payL r) = 0 := by
  unfold readE
  rw [if_neg (by omega), if_neg (by omega), hm, hw, if_neg, if_neg (by omega), if_neg (by decide)]
  rintro ⟨h1, h2⟩
  rw [hs, hd h2] at h1
  simp at h1
 exact ⟨hE, by unfold readR; rw [if_pos hE, hm]⟩

/-- records one behind the other: the bytes, and where each is -/
def catX (xs : List (Rec × Value)) : List UInt8 := xs.flatMap fun x => frmL x.1
def inX : List (Rec × Value) → Nat → List (Fnd × Value)
 | [], _ => []
 |x :: xs, u => if chk x.1 = 0 then (⟨u, (frmL x.1).length, x.1⟩, x.2) :: inX xs (u + (frmL x.1).length) else inX xs u
theorem frmL_bad {r : Rec} (h : chk r ≠ 0) : frmL r = [] := by unfold frmL; rw [if_neg h]
theorem scan_recs (l : List UInt8) : ∀ (xs : List (Rec × Value)) (k g u : Nat), u ≤ l.length → l.length ≤ u + k → l.drop u = catX xs → fndL (scanN l k g u).1 = (inX xs u).map (·.1) ∧ lenL (scanN l k g u).1 = (l.length : Int) - u := by
 intro xs
 induction xs with
 |nil =>
  intro k g u hu hk hd
  have hlen := congrArg List.length hd
  rw [List.length_drop] at hlen
  simp [catX] at hlen
  rw [scanN_end (by omega)]
  simp [fndL, lenL, inX]
  omega
 |cons x xs ih =>
  intro k g u hu hk hd
  by_cases hx : chk x.1 = 0
  ·obtain ⟨hk1, -, -, hdl, -⟩ := chk_zero hx
   obtain ⟨kn, hkn⟩ : ∃ kn : Nat, x.1.kind = (kn : Int) := ⟨x.1.kind.toNat, by omega⟩
   have hf : frmL x.1 = wrapL kn (payL x.1) := by unfold frmL; rw [if_pos hx, hkn]
   have hps : (payL x.1).length ≤ 65536 := by rw [payL_size hx]; have := sizeK_le x.1.kind; omega
   rw [show catX (x :: xs) = wrapL kn (payL x.1) ++ catX xs from by rw [← hf]; simp [catX]] at hd
   have hlen := congrArg List.length hd
   rw [List.length_drop, List.length_append] at hlen
   have hpos : 1 ≤ (wrapL (kn : Int) (payL x.1)).length := by rw [(wrapL_ok (k := kn) (by omega) hps).2]; simp
   obtain ⟨he, hfr⟩ := at_put (k := kn) (by omega) hps hd
   obtain ⟨k', rfl⟩ : ∃ k', k = k' + 1 := ⟨k - 1, by omega⟩
   rw [scanN_ok (by omega) he, hfr]
   simp only [Int.toNat_natCast]
   have hd2 : l.drop (u + (wrapL (kn : Int) (payL x.1)).length) = catX xs := by rw [← List.drop_drop, hd, List.drop_left]
   obtain ⟨ih1, ih2⟩ := ih k' (u + (wrapL (kn : Int) (payL x.1)).length) (u + (wrapL (kn : Int) (payL x.1)).length) (by omega) (by omega) hd2
   obtain ⟨hr1, hr2⟩ := pay_read hx
   rw [hkn] at hr1 hr2
   constructor
   ·rw [inX, if_pos hx, hf]
    simp only [fndL, List.flatMap_cons, List.map_cons] at ih1 ⊢
    rw [ih1]
    unfold fndOf
    simp only [hr1, if_pos, hr2]
    rfl
   ·simp only [lenL, List.map_cons, List.sum_cons] at ih2 ⊢
    rw [ih2]
    simp only [hr1, if_pos]
    omega
  ·rw [show catX (x :: xs) = catX xs from by simp [catX, frmL_bad hx]] at hd
   rw [inX, if_neg hx]
   exact ih k g u hu hk hd
theorem scan_all (xs : List (Rec × Value)) : fndL (scanR (catX xs)).1 = (inX xs 0).map (·.1) ∧ lenL (scanR (catX xs)).1 = ((catX xs).length : Int) := by
 have := scan_recs (catX xs) xs (catX xs).length 0 0 (Nat.zero_le _) (by omega) rfl
 obtain ⟨h1, h2⟩ := this
 exact ⟨h1, h2.trans (by simp)⟩
end Go.Proofs.YtklbemkafdccgaaGreat.Rcd

/- The source's Text. -/
namespace Go.Proofs.YtklbemkafdccgaaGreat
open Go.RowKit
namespace Oct

def tE (l : List UInt8) (a : Nat) (er most : Int) : Int :=
 if uE l.length a er 4 ≠ 0 then uE l.length a er 4 else if most < 0 ∨ most < (getV l a 4 : Int) then 4 else if (l.length : Int) - a - 4 < (getV l a 4 : Int) then 2 else 0
def tA (l : List UInt8) (a : Nat) (er most : Int) : Nat := if tE l a er most = 0 then a + 4 + getV l a 4 else a
def tL (l : List UInt8) (a : Nat) (er most : Int) : List UInt8 := if tE l a er most = 0 then (l.drop (a + 4)).take (getV l a 4) else []

theorem getV4_lt {l : List UInt8} {a : Int} : getV l a 4 < 4294967296 := by
 unfold getV
 split
 ·have := valOf_lt' (l := (l.drop a.toNat).take (4 : Int).toNat) (j := 4) (by rw [List.length_take]; exact Nat.min_le_left _ _)
  simpa using this
 ·omega

set_option maxRecDepth 100000 in
set_option maxHeartbeats 1000000 in
theorem srcText_any (g : Nat) (v : Value) (l : List UInt8) (a : Nat) (er most : Int) (w : World) (h : SrcAt w g v l a er) (hm1 : -9223372036854775808 ≤ most) (hm2 : most ≤ 9223372036854775807) :
  Calls Tryz.prog 61 #[.pointer (some ⟨g, 0, none⟩), .int .i64 most] w (SrcDid w g v l (tA l a er most) (tE l a er most) (.returned (.string (bstr (tL l a er most))))) := by
 have HU := Lib.hid (srcU_any g v l a er 4 w h)
 obtain ⟨hc0, hc1, hc2⟩ := h.cells
 have hle := h.le
 have hlen := h.len
 by_cases hu : uE l.length a er 4 = 0
 ·have hub : uA l.length a er 4 = a + 4 ∧ uV l a er 4 = getV l a 4 := ⟨by simp [uA, hu], by simp [uV, hu]⟩
  have h4 : (4 : Int) ≤ l.length - a := by
   unfold uE at hu
   split at hu
   ·omega
   ·split at hu
    ·omega
    ·split at hu <;> omega
  have hN := getV4_lt (l := l) (a := (a : Int))
  rw [hu, hub.1, hub.2] at HU
  by_cases hbig : most < 0 ∨ most < (getV l a 4 : Int)
  ·have hE : tE l a er most = 4 := by simp [tE, hu, hbig]
   have H : Hid (tE l a er most = 4 ∧ tA l a er most = a ∧ tL l a er most = []) := Lib.hid ⟨hE, by simp [tA, hE], by simp [tL, hE]⟩
   clear h hE hub hu
   generalize getV l a 4 = N at *
   by_cases hneg : most < 0
   all_goals
    first | (have hbig' : most < (N : Int) := by omega) | skip
    clear hbig
    go_enter Tryz.func61, Tryz.ntmps61
    go_wp2_with fail
    refine HU.out.mono ?_
    rintro e w1 ⟨rfl, hS1, hM1⟩
    have HF := Lib.hid (fail_any g v l (a + 4) 0 true 4 w1 hS1)
    rw [show failB true 4 0 = true from rfl, show failE true 4 0 = 4 from rfl] at HF
    clear hS1 hc0 hc1 hc2
    go_wp2_with fail
    refine HF.out.mono ?_
    rintro e w2 ⟨rfl, hS2, hM2⟩
    obtain ⟨hc0, hc1, hc2⟩ := hS2.cells
    obtain ⟨hf0, hf1, hf2⟩ := hS2.free
    have HS2 := Lib.hid hS2
    clear hS2
    go_wp2_with fail
    go_ret
    refine ⟨by rw [H.out.2.2]; rfl, by rw [H.out.1, H.out.2.1]; exact HS2.out.setA a hle, ?_⟩
    exact Mods.setCell (p := ⟨g, 1, none⟩) (hM1.trans hM2 fun _ h _ => h) (fun _ => rfl) _
  ·have hpos : 0 ≤ most := by omega
   have hN2 : (getV l a 4 : Int) ≤ most := by omega
   by_cases hshort : (l.length : Int) - a - 4 < (getV l a 4 : Int)
   ·have hE : tE l a er most = 2 := by simp [tE, hu, hbig, hshort]
    have H : Hid (tE l a er most = 2 ∧ tA l a er most = a ∧ tL l a er most = []) := Lib.hid ⟨hE, by simp [tA, hE], by simp [tL, hE]⟩
    clear h hE hub hu hbig
    generalize getV l a 4 = N at *
    have hd1 : decide (most < 0) = false := by simp; omega
    have hd2 : decide (most < (N : Int)) = false := by simp; omega
    have hd3 : (l.length : Int) - (a + 4) < N := by omega
    clear hshort
    go_enter Tryz.func61, Tryz.ntmps61
    go_wp2_with fail
    refine HU.out.mono ?_
    rintro e w1 ⟨rfl, hS1, hM1⟩
    have HF := Lib.hid (fail_any g v l (a + 4) 0 false 4 w1 hS1)
    rw [show failB false 4 0 = false from rfl, show failE false 4 0 = 0 from rfl] at HF
    clear hS1 hc0 hc1 hc2
    go_wp2_with fail
    refine HF.out.mono ?_
    rintro e w2 ⟨rfl, hS2, hM2⟩
    have HL := Lib.hid (left_any g v l (a + 4) 0 w2 hS2)
    rw [show ((a + 4 : Nat) : Int) = (a : Int) + 4 from rfl] at HL
    go_wp2_with fail
    refine HL.out.mono ?_
    rintro e w3 ⟨rfl, hK3⟩
    have HF2 := Lib.hid (fail_any g v l (a + 4) 0 true 2 w3 (hS2.keeps hK3))
    rw [show failB true 2 0 = true from rfl, show failE true 2 0 = 2 from rfl] at HF2
    clear hS2 HL
    go_wp2_with fail
    refine HF2.out.mono ?_
    rintro e w4 ⟨rfl, hS4, hM4⟩
    obtain ⟨hc0, hc1, hc2⟩ := hS4.cells
    obtain ⟨hf0, hf1, hf2⟩ := hS4.free
    have HS4 := Lib.hid hS4
    clear hS4
    go_wp2_with fail
    go_ret
    refine ⟨by rw [H.out.2.2]; rfl, by rw [H.out.1, H.out.2.1]; exact HS4.out.setA a hle, ?_⟩
    exact Mods.setCell (p := ⟨g, 1, none⟩) (((hM1.trans hM2 fun _ h _ => h).then hK3).trans hM4 fun _ h _ => h) (fun _ => rfl) _
   ·have hE : tE l a er most = 0 := by simp [tE, hu, hbig, hshort]
    have H : Hid (tE l a er most = 0 ∧ tA l a er most = a + 4 + getV l a 4 ∧ tL l a er most = (l.drop (a + 4)).take (getV l a 4)) := Lib.hid ⟨hE, by simp [tA, hE], by simp [tL, hE]⟩
    clear h hE hub hu hbig
    generalize getV l a 4 = N at *
    have hd1 : decide (most < 0) = false := by simp; omega
    have hd2 : decide (most < (N : Int)) = false := by simp; omega
    have hd3 : decide ((l.length : Int) - (a + 4) < N) = false := by simp; omega
    have HR : Hid (rE l.length (a + 4) 0 N = 0 ∧ rA l.length (a + 4) 0 N = a + 4 + N ∧ rL l (a + 4) 0 N = (l.drop (a + 4)).take N) := Lib.hid (by
     have h0 : rE l.length (a + 4) 0 N = 0 := by simp [rE]; omega
     exact ⟨h0, by simp [rA, h0], by simp [rL, h0]⟩)
    clear hshort
    go_enter Tryz.func61, Tryz.ntmps61
    go_wp2_with fail
    refine HU.out.mono ?_
    rintro e w1 ⟨rfl, hS1, hM1⟩
    have HF := Lib.hid (fail_any g v l (a + 4) 0 false 4 w1 hS1)
    rw [show failB false 4 0 = false from rfl, show failE false 4 0 = 0 from rfl] at HF
    clear hS1 hc0 hc1 hc2
    go_wp2_with fail
    refine HF.out.mono ?_
    rintro e w2 ⟨rfl, hS2, hM2⟩
    have HL := Lib.hid (left_any g v l (a + 4) 0 w2 hS2)
    rw [show ((a + 4 : Nat) : Int) = (a : Int) + 4 from rfl] at HL
    go_wp2_with fail
    refine HL.out.mono ?_
    rintro e w3 ⟨rfl, hK3⟩
    have HF2 := Lib.hid (fail_any g v l (a + 4) 0 false 2 w3 (hS2.keeps hK3))
    rw [show failB false 2 0 = false from rfl, show failE false 2 0 = 0 from rfl] at HF2
    clear hS2 HL
    go_wp2_with fail
    refine HF2.out.mono ?_
    rintro e w4 ⟨rfl, hS4, hM4⟩
    have HRaw := Lib.hid (srcRaw_any g v l (a + 4) 0 N w4 hS4)
    rw [HR.out.1, HR.out.2.1, HR.out.2.2] at HRaw
    clear hS4
    go_wp2_with fail
    refine HRaw.out.mono ?_
    rintro e w5 ⟨b, rfl, hown5, hS5, hM5⟩
    have hst := hown5.row.str (P := Tryz.prog) Tryz.underlying51 Tryz.underlying5 str9
    clear hown5
    go_wp2_with fail
    go_ret
    refine ⟨by rw [H.out.2.2]; rfl, by rw [H.out.1, H.out.2.1]; exact hS5, ?_⟩
    exact (((hM1.trans hM2 fun _ h _ => h).then hK3).trans hM4 fun _ h _ => h).trans hM5 fun _ h _ => h
 ·have hE : tE l a er most = uE l.length a er 4 := by simp [tE, hu]
  have H : Hid (tE l a er most = uE l.length a er 4 ∧ tA l a er most = a ∧ tL l a er most = []) := Lib.hid ⟨hE, by simp [tA, hE, hu], by simp [tL, hE, hu]⟩
  have hub : uA l.length a er 4 = a ∧ uV l a er 4 = 0 := ⟨by simp [uA, hu], by simp [uV, hu]⟩
  rw [hub.1, hub.2] at HU
  clear h hE hub
  generalize uE l.length a er 4 = e1 at *
  have HB : Hid (∀ b ne, failB b ne e1 = true ∧ failE b ne e1 = e1) := Lib.hid fun b ne => ⟨by simp [failB, hu], by simp [failE, hu]⟩
  clear hu
  have hcases : most < 0 ∨ 0 ≤ most := by omega
  rcases hcases with hneg | hpos
  ·go_enter Tryz.func61, Tryz.ntmps61
   go_wp2_with fail
   refine HU.out.mono ?_
   rintro e w1 ⟨rfl, hS1, hM1⟩
   have HF := Lib.hid (fail_any g v l a e1 true 4 w1 hS1)
   rw [(HB.out true 4).1, (HB.out true 4).2] at HF
   clear hS1 hc0 hc1 hc2
   go_wp2_with fail
   refine HF.out.mono ?_
   rintro e w2 ⟨rfl, hS2, hM2⟩
   obtain ⟨hc0, hc1, hc2⟩ := hS2.cells
   obtain ⟨hf0, hf1, hf2⟩ := hS2.free
   have HS2 := Lib.hid hS2
   clear hS2
   go_wp2_with fail
   go_ret
   refine ⟨by rw [H.out.2.2]; rfl, by rw [H.out.1, H.out.2.1]; exact HS2.out.setA a hle, ?_⟩
   exact Mods.setCell (p := ⟨g, 1, none⟩) (hM1.trans hM2 fun _ h _ => h) (fun _ => rfl) _
  ·have hd1 : decide (most < 0) = false := by simp; omega
   go_enter Tryz.func61, Tryz.ntmps61
   go_wp2_with fail
   refine HU.out.mono ?_
   rintro e w1 ⟨rfl, hS1, hM1⟩
   have HF := Lib.hid (fail_any g v l a e1 false 4 w1 hS1)
   rw [(HB.out false 4).1, (HB.out false 4).2] at HF
   clear hS1 hc0 hc1 hc2
   go_wp2_with fail
   refine HF.out.mono ?_
   rintro e w2 ⟨rfl, hS2, hM2⟩
   obtain ⟨hc0, hc1, hc2⟩ := hS2.cells
   obtain ⟨hf0, hf1, hf2⟩ := hS2.free
   have HS2 := Lib.hid hS2
   clear hS2
   go_wp2_with fail
   go_ret
   refine ⟨by rw [H.out.2.2]; rfl, by rw [H.out.1, H.out.2.1]; exact HS2.out.setA a hle, ?_⟩
   exact Mods.setCell (p := ⟨g, 1, none⟩) (hM1.trans hM2 fun _ h _ => h) (fun _ => rfl) _
end Oct
end Go.Proofs.YtklbemkafdccgaaGreat

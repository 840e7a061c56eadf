/- Make, Append, Drop, plain, whenever the power goes. -/
import Derived.Test.YtohchhgheeolpaaK37
namespace Go.Proofs.Ytohchhgheeolpaa
open Go.RowKit
namespace Sf
open Vd
theorem overL_end (a c : Str) : overL a a.length c = a ++ c := by
  apply List.ext_getElem?
  intro j
  rw [overL_get]
  by_cases h1 : j < a.length
  · rw [if_neg (by omega), if_pos h1, List.getElem?_append_left h1]
  · by_cases h2 : j < a.length + c.length
    · rw [if_pos (by omega), List.getElem?_append_right (by omega)]
    · rw [if_neg (by omega), if_neg h1, if_neg (by omega), List.getElem?_eq_none (by simp; omega)]
def uA : Shp := ⟨[], [], [], []⟩
def uB : Shp := ⟨[newN], [(nmS, 0)], [], [⟨0, nmS, true⟩]⟩
def uC (a : Str) : Shp := ⟨[⟨a, [], [⟨0, a⟩], true⟩], [(nmS, 0)], [], [⟨0, nmS, true⟩]⟩
def uD (a : Str) : Shp := ⟨[⟨a, a, [], true⟩], [(nmS, 0)], [], [⟨0, nmS, true⟩]⟩
def uF (a : Str) : Shp := ⟨[⟨a, a, [], false⟩], [(nmS, 0)], [(nmS, 0)], []⟩
def uG (a b : Str) : Shp := ⟨[⟨a ++ b, a, [⟨a.length, b⟩], false⟩], [(nmS, 0)], [(nmS, 0)], []⟩
def uU (l : Str) : Shp := ⟨[⟨l, l, [], false⟩], [], [(nmS, 0)], [⟨0, [], false⟩]⟩
def uV (l : Str) : Shp := ⟨[⟨l, l, [], false⟩], [], [], []⟩
/-- what is read behind a boot -/
def Rd (sh : Shp) (P : Str × Int → Prop) : Prop := ∀ n f k t ks, P (textD (bootD (Wd 100000 sh true n f k) t ks).1 nmS)
def Part (a : Str) (r : Str × Int) : Prop := r = ([], 7) ∨ ∃ m, m ≤ a.length ∧ r = (a.take m, 0)
section
variable {a b l : Str} {n : Int} {f k : Int × Int}
theorem bootPats_one (p : Pat) (s : Str) (ks : List Int) : (bootPats [p] s ks).1 = if (keepN ks p).1.b = [] then s else overL s (keepN ks p).1.place (keepN ks p).1.b := rfl
theorem ruA : Rd uA (fun r => Part a r) := fun n f k t ks => by
  unfold bootD
  generalize t.toNat = m
  rcases m with _ | m <;> exact .inl (by kernel_rfl)
theorem ruB : Rd uB (fun r => Part a r) := fun n f k t ks => by
  unfold bootD
  generalize t.toNat = m
  rcases m with _ | _ | m
  · exact .inl (by kernel_rfl)
  · exact .inr ⟨0, Nat.zero_le _, by kernel_rfl⟩
  · exact .inr ⟨0, Nat.zero_le _, by kernel_rfl⟩
theorem ruC : Rd (uC a) (fun r => Part a r) := fun n f k t ks => by
  have hb : (bootPats [⟨0, a⟩] [] ks).1 = a.take (nKeep ks ⟨0, a⟩) := by
    rw [bootPats_one, keepN_eq]
    show (if a.take (nKeep ks ⟨0, a⟩) = [] then [] else overL [] 0 (a.take (nKeep ks ⟨0, a⟩))) = _
    split
    · rename_i h; rw [h]
    · rw [overL_nil]
  unfold bootD
  generalize t.toNat = m
  rcases m with _ | _ | m
  · exact .inl (by kernel_rfl)
  · refine .inr ⟨_, nKeep_le ks ⟨0, a⟩, ?_⟩
    rw [← hb]
    kernel_rfl
  · refine .inr ⟨_, nKeep_le ks ⟨0, a⟩, ?_⟩
    rw [← hb]
    kernel_rfl
theorem ruD : Rd (uD a) (fun r => Part a r) := fun n f k t ks => by
  have ht : (a, (0 : Int)) = (a.take a.length, 0) := by simp
  unfold bootD
  generalize t.toNat = m
  rcases m with _ | _ | m
  · exact .inl (by kernel_rfl)
  · refine .inr ⟨a.length, Nat.le_refl _, ?_⟩
    rw [← ht]
    kernel_rfl
  · refine .inr ⟨a.length, Nat.le_refl _, ?_⟩
    rw [← ht]
    kernel_rfl
theorem ruF : Rd (uF a) (fun r => ∃ m, r = (a ++ b.take m, 0)) := fun n f k t ks => by
  refine ⟨0, ?_⟩
  rw [List.take_zero, List.append_nil]
  unfold bootD
  generalize t.toNat = m
  rcases m with _ | m <;> kernel_rfl
theorem ruG : Rd (uG a b) (fun r => ∃ m, r = (a ++ b.take m, 0)) := fun n f k t ks => by
  have hb : (bootPats [⟨a.length, b⟩] a ks).1 = a ++ b.take (nKeep ks ⟨a.length, b⟩) := by
    rw [bootPats_one, keepN_eq]
    show (if b.take (nKeep ks ⟨a.length, b⟩) = [] then a else overL a a.length (b.take (nKeep ks ⟨a.length, b⟩))) = _
    split
    · rename_i h; rw [h, List.append_nil]
    · rw [overL_end]
  refine ⟨nKeep ks ⟨a.length, b⟩, ?_⟩
  rw [← hb]
  unfold bootD
  generalize t.toNat = m
  rcases m with _ | m <;> kernel_rfl
theorem ruH : Rd (uF l) (fun r => r = (l, 0)) := fun n f k t ks => by
  unfold bootD
  generalize t.toNat = m
  rcases m with _ | m <;> kernel_rfl
theorem ruU : Rd (uU l) (fun r => r = (l, 0) ∨ r = ([], 7)) := fun n f k t ks => by
  unfold bootD
  generalize t.toNat = m
  rcases m with _ | _ | m
  · exact .inl (by kernel_rfl)
  · exact .inr (by kernel_rfl)
  · exact .inr (by kernel_rfl)
theorem ruV : Rd (uV l) (fun r => r = ([], 7)) := fun n f k t ks => by
  unfold bootD
  generalize t.toNat = m
  rcases m with _ | m <;> kernel_rfl
/-- with no failing call set -/
theorem sure_of {room : Int} {sh sh' : Shp} {r : Dsk × Int} (hf : f.1 = -1) (h : Out room sh sh' r f) : ∃ n' f' k', Tr f' k' ∧ f'.1 = -1 ∧ (r = (Wd room sh' false n' f' k', 0) ∨ r = (Wd room sh true n' f' k', 11)) := by
  obtain ⟨n', f', k', ht, hff, hc | ⟨h0, -, -⟩ | hc⟩ := h
  · exact ⟨n', f', k', ht, hff hf, .inl hc⟩
  · omega
  · exact ⟨n', f', k', ht, hff hf, .inr hc⟩
theorem createU (h : Tr f k) : Out 100000 uA uB (createD (Wd 100000 uA false n f k) nmS) f :=
  out_of (begins_create nmS) h (fun n' f' k' hc => by
    show createD _ nmS = _
    unfold createD
    rw [hc]
    kernel_rfl)
theorem appendU (h : Tr f k) (hn : a.length ≤ 1000) : Out 100000 uB (uC a) (appendD (Wd 100000 uB false n f k) nmS a) f :=
  out_of (begins_append nmS a) h (fun n' f' k' hc => by
    show appendD _ nmS a = _
    unfold appendD
    rw [touch_of hc (i := 0) (by kernel_rfl), if_neg (by show ¬ (0 : Int) ≠ 0; simp)]
    show writeD (Wd 100000 uB false n' f' k') 0 ⟨0, a⟩ = _
    unfold writeD
    rw [if_neg (by
      show ¬ (100000 : Int) - ((bytesN [newN] [(nmS, 0)] : Nat) : Int) < ((overL [] 0 a).length : Int) - (([] : Str).length : Int)
      rw [overL_nil]
      simp [bytesN, newN]
      omega)]
    show (putD (Wd 100000 uB false n' f' k') 0 (wroteN newN ⟨0, a⟩), (0 : Int)) = _
    unfold wroteN
    rw [show overL newN.seen (Pat.mk 0 a).place (Pat.mk 0 a).b = a from overL_nil a]
    kernel_rfl)
theorem syncU (h : Tr f k) : Out 100000 (uC a) (uD a) (syncD (Wd 100000 (uC a) false n f k) nmS) f :=
  out_of (begins_sync nmS) h (fun n' f' k' hc => by
    show syncD _ nmS = _
    unfold syncD
    rw [touch_of hc (i := 0) (by kernel_rfl)]
    kernel_rfl)
theorem dirU (h : Tr f k) : Out 100000 (uD a) (uF a) (syncDirD (Wd 100000 (uD a) false n f k)) f :=
  out_of begins_dir h (fun n' f' k' hc => by
    show syncDirD _ = _
    unfold syncDirD
    rw [hc]
    kernel_rfl)
theorem append2U (h : Tr f k) (ha : a.length ≤ 1000) (hn : b.length ≤ 1000) : Out 100000 (uF a) (uG a b) (appendD (Wd 100000 (uF a) false n f k) nmS b) f :=
  out_of (begins_append nmS b) h (fun n' f' k' hc => by
    show appendD _ nmS b = _
    unfold appendD
    rw [touch_of hc (i := 0) (by kernel_rfl), if_neg (by show ¬ (0 : Int) ≠ 0; simp)]
    show writeD (Wd 100000 (uF a) false n' f' k') 0 ⟨a.length, b⟩ = _
    unfold writeD
    rw [if_neg (by
      show ¬ (100000 : Int) - ((bytesN [⟨a, a, [], false⟩] [(nmS, 0)] : Nat) : Int) < ((overL a a.length b).length : Int) - (a.length : Int)
      rw [overL_end]
      simp [bytesN]
      omega)]
    show (putD (Wd 100000 (uF a) false n' f' k') 0 (wroteN ⟨a, a, [], false⟩ ⟨a.length, b⟩), (0 : Int)) = _
    unfold wroteN
    rw [show overL (Nod.mk a a [] false).seen (Pat.mk a.length b).place (Pat.mk a.length b).b = a ++ b from overL_end a b]
    kernel_rfl)
theorem sync2U (h : Tr f k) : Out 100000 (uG a b) (uF (a ++ b)) (syncD (Wd 100000 (uG a b) false n f k) nmS) f :=
  out_of (begins_sync nmS) h (fun n' f' k' hc => by
    show syncD _ nmS = _
    unfold syncD
    rw [touch_of hc (i := 0) (by kernel_rfl)]
    kernel_rfl)
theorem unlinkU (h : Tr f k) : Out 100000 (uF l) (uU l) (unlinkD (Wd 100000 (uF l) false n f k) nmS) f :=
  out_of (begins_unlink nmS) h (fun n' f' k' hc => by
    show unlinkD _ nmS = _
    unfold unlinkD
    rw [touch_of hc (i := 0) (by kernel_rfl)]
    kernel_rfl)
theorem dir2U (h : Tr f k) : Out 100000 (uU l) (uV l) (syncDirD (Wd 100000 (uU l) false n f k)) f :=
  out_of begins_dir h (fun n' f' k' hc => by
    show syncDirD _ = _
    unfold syncDirD
    rw [hc]
    kernel_rfl)
/-- what Make, Append, Drop answer, and what is read behind the boot -/
def SureRes (a b : Str) (drop : Bool) (x y z : Int) (d : Dsk) : Prop := ∃ off n f k sh, d = Wd 100000 sh off n f k ∧
  ((x = 11 ∧ y = 11 ∧ z = 11 ∧ Rd sh (fun r => Part a r)) ∨ (x = 0 ∧ y = 11 ∧ z = 11 ∧ Rd sh (fun r => ∃ m, r = (a ++ b.take m, 0)))
  ∨ (x = 0 ∧ y = 0 ∧ z = 11 ∧ drop = false ∧ Rd sh (fun r => r = (a ++ b, 0))) ∨ (x = 0 ∧ y = 0 ∧ z = 11 ∧ drop = true ∧ Rd sh (fun r => r = (a ++ b, 0) ∨ r = ([], 7))) ∨ (x = 0 ∧ y = 0 ∧ z = 0 ∧ drop = true ∧ Rd sh (fun r => r = ([], 7))))
theorem off_ops {d : Dsk} (h : d.off = true) (x b : Str) : sAppend x b d = (d, 11) ∧ sDrop x d = (d, 11) := by
  obtain ⟨-, h2, -, -, h5, -⟩ := off_all h x x b
  refine ⟨by unfold sAppend; rw [h2, thenD_11], ?_⟩
  unfold sDrop
  rw [if_neg (by simp [h]), h5, thenD_11]
theorem hasU {sh : Shp} (h : (Vd.look sh.seen nmS) = some 0) : hasD (Wd 100000 sh false n f k) nmS = true := by
  unfold hasD textD
  rw [if_neg (by simp [Wd]), show (Wd 100000 sh false n f k).seen = sh.seen from rfl, h]
  rfl
theorem smake_res (h : Tr f k) (hf : f.1 = -1) (ha : a.length ≤ 1000) : ∃ n' f' k', Tr f' k' ∧ f'.1 = -1 ∧ (sMake nmS a (Wd 100000 uA false n f k) = (Wd 100000 (uF a) false n' f' k', 0) ∨ ∃ sh, Rd sh (fun r => Part a r) ∧ sMake nmS a (Wd 100000 uA false n f k) = (Wd 100000 sh true n' f' k', 11)) := by
  unfold sMake
  rw [show hasD (Wd 100000 uA false n f k) nmS = false from by kernel_rfl, if_neg (by simp)]
  obtain ⟨n1, f1, k1, t1, e1, hc | hc⟩ := sure_of hf (createU (n := n) h)
  · rw [hc, if_neg (by show ¬ (0 : Int) ≠ 0; simp)]
    show ∃ n' f' k', Tr f' k' ∧ f'.1 = -1 ∧ (tidyD nmS (thenD (sAppend nmS a (Wd 100000 uB false n1 f1 k1)) sDir) = _ ∨ ∃ sh, _ ∧ tidyD nmS (thenD (sAppend nmS a (Wd 100000 uB false n1 f1 k1)) sDir) = _)
    unfold sAppend
    obtain ⟨n2, f2, k2, t2, e2, hc2 | hc2⟩ := sure_of e1 (appendU (n := n1) (a := a) t1 ha)
    · rw [hc2, thenD_go]
      obtain ⟨n3, f3, k3, t3, e3, hc3 | hc3⟩ := twice_out (room := 100000) (sh := uC a) (sh' := uD a) (o := fun d => syncD d nmS) (n := n2) (fun n f k h => syncU h) t2
      · rw [show sSync nmS (Wd 100000 (uC a) false n2 f2 k2) = _ from hc3, thenD_go]
        obtain ⟨n4, f4, k4, t4, e4, hc4 | hc4⟩ := twice_out (room := 100000) (sh := uD a) (sh' := uF a) (o := syncDirD) (n := n3) (fun n f k h => dirU h) t3
        · rw [show sDir (Wd 100000 (uD a) false n3 f3 k3) = _ from hc4]
          exact ⟨n4, f4, k4, t4, e4 (e3 e2), .inl (if_pos (.inl rfl))⟩
        · rw [show sDir (Wd 100000 (uD a) false n3 f3 k3) = _ from hc4]
          exact ⟨n4, f4, k4, t4, e4 (e3 e2), .inr ⟨_, ruD, if_pos (.inr rfl)⟩⟩
      · rw [show sSync nmS (Wd 100000 (uC a) false n2 f2 k2) = _ from hc3, thenD_11]
        exact ⟨n3, f3, k3, t3, e3 e2, .inr ⟨_, ruC, if_pos (.inr rfl)⟩⟩
    · rw [hc2, thenD_11, thenD_11]
      exact ⟨n2, f2, k2, t2, e2, .inr ⟨_, ruB, if_pos (.inr rfl)⟩⟩
  · rw [hc, if_pos (by show (11 : Int) ≠ 0; decide)]
    exact ⟨n1, f1, k1, t1, e1, .inr ⟨_, ruA, rfl⟩⟩
theorem sure_res (h : Tr f k) (hf : f.1 = -1) (ha : a.length ≤ 1000) (hb : b.length ≤ 1000) (drop : Bool) :
    let r1 := sMake nmS a (Wd 100000 uA false n f k)
    let r2 := sAppend nmS b r1.1
    let r3 := if drop then sDrop nmS r2.1 else (r2.1, 11)
    SureRes a b drop r1.2 r2.2 r3.2 r3.1 := by
  intro r1 r2 r3
  obtain ⟨n1, f1, k1, t1, e1, hc | ⟨sh, hrd, hc⟩⟩ := smake_res (n := n) h hf ha
  · have h1 : r1 = (Wd 100000 (uF a) false n1 f1 k1, 0) := hc
    have h2 : r2 = sAppend nmS b (Wd 100000 (uF a) false n1 f1 k1) := by show sAppend nmS b r1.1 = _; rw [h1]
    unfold sAppend at h2
    obtain ⟨n2, f2, k2, t2, e2, hc2 | hc2⟩ := sure_of e1 (append2U (n := n1) (a := a) (b := b) t1 ha hb)
    · rw [hc2, thenD_go] at h2
      obtain ⟨n3, f3, k3, t3, e3, hc3 | hc3⟩ := twice_out (room := 100000) (sh := uG a b) (sh' := uF (a ++ b)) (o := fun d => syncD d nmS) (n := n2) (fun n f k h => sync2U h) t2
      · rw [show sSync nmS (Wd 100000 (uG a b) false n2 f2 k2) = _ from hc3] at h2
        cases drop with
        | false =>
          have h3 : r3 = (Wd 100000 (uF (a ++ b)) false n3 f3 k3, 11) := by show (r2.1, (11 : Int)) = _; rw [h2]
          rw [h1, h2, h3]
          exact ⟨_, _, _, _, _, rfl, .inr (.inr (.inl ⟨rfl, rfl, rfl, rfl, ruH⟩))⟩
        | true =>
          have h3 : r3 = thenD (unlinkD (Wd 100000 (uF (a ++ b)) false n3 f3 k3) nmS) sDir := by
            show sDrop nmS r2.1 = _
            rw [h2]
            unfold sDrop
            rw [if_neg (by rw [hasU rfl]; simp)]
          obtain ⟨n4, f4, k4, t4, e4, hc4 | hc4⟩ := sure_of (e3 e2) (unlinkU (n := n3) (l := a ++ b) t3)
          · rw [hc4, thenD_go] at h3
            obtain ⟨n5, f5, k5, t5, e5, hc5 | hc5⟩ := twice_out (room := 100000) (sh := uU (a ++ b)) (sh' := uV (a ++ b)) (o := syncDirD) (n := n4) (fun n f k h => dir2U h) t4
            · rw [show sDir (Wd 100000 (uU (a ++ b)) false n4 f4 k4) = _ from hc5] at h3
              rw [h1, h2, h3]
              exact ⟨_, _, _, _, _, rfl, .inr (.inr (.inr (.inr ⟨rfl, rfl, rfl, rfl, ruV⟩)))⟩
            · rw [show sDir (Wd 100000 (uU (a ++ b)) false n4 f4 k4) = _ from hc5] at h3
              rw [h1, h2, h3]
              exact ⟨_, _, _, _, _, rfl, .inr (.inr (.inr (.inl ⟨rfl, rfl, rfl, rfl, ruU⟩)))⟩
          · rw [hc4, thenD_11] at h3
            rw [h1, h2, h3]
            exact ⟨_, _, _, _, _, rfl, .inr (.inr (.inr (.inl ⟨rfl, rfl, rfl, rfl, fun n f k t ks => .inl (ruH n f k t ks)⟩)))⟩
      · rw [show sSync nmS (Wd 100000 (uG a b) false n2 f2 k2) = _ from hc3] at h2
        have h3 : r3 = (Wd 100000 (uG a b) true n3 f3 k3, 11) := by
          show (if drop then sDrop nmS r2.1 else (r2.1, (11 : Int))) = _
          rw [h2]
          cases drop
          · rfl
          · exact (off_ops (d := Wd 100000 (uG a b) true n3 f3 k3) rfl nmS b).2
        rw [h1, h2, h3]
        exact ⟨_, _, _, _, _, rfl, .inr (.inl ⟨rfl, rfl, rfl, ruG⟩)⟩
    · rw [hc2, thenD_11] at h2
      have h3 : r3 = (Wd 100000 (uF a) true n2 f2 k2, 11) := by
        show (if drop then sDrop nmS r2.1 else (r2.1, (11 : Int))) = _
        rw [h2]
        cases drop
        · rfl
        · exact (off_ops (d := Wd 100000 (uF a) true n2 f2 k2) rfl nmS b).2
      rw [h1, h2, h3]
      exact ⟨_, _, _, _, _, rfl, .inr (.inl ⟨rfl, rfl, rfl, ruF⟩)⟩
  · have h1 : r1 = (Wd 100000 sh true n1 f1 k1, 11) := hc
    have h2 : r2 = (Wd 100000 sh true n1 f1 k1, 11) := by show sAppend nmS b r1.1 = _; rw [h1]; exact (off_ops rfl nmS b).1
    have h3 : r3 = (Wd 100000 sh true n1 f1 k1, 11) := by
      show (if drop then sDrop nmS r2.1 else (r2.1, (11 : Int))) = _
      rw [h2]
      cases drop
      · rfl
      · exact (off_ops (d := Wd 100000 sh true n1 f1 k1) rfl nmS b).2
    rw [h1, h2, h3]
    exact ⟨_, _, _, _, _, rfl, .inl ⟨rfl, rfl, rfl, hrd⟩⟩
end
end Sf
end Go.Proofs.Ytohchhgheeolpaa

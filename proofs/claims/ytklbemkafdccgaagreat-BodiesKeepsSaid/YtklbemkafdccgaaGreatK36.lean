/- Several texts in one: VdNames, VdGive. -/
import Derived.Test.YtklbemkafdccgaaGreatK00
import Derived.Test.YtklbemkafdccgaaGreatK02
import Derived.Test.YtklbemkafdccgaaGreatRows
import Derived.Maps.RangeWalk
import Derived.StringKeys
import Derived.Sort.KeysCollected
import Derived.Test.YtklbemkafdccgaaGreatMid
import Derived.Test.YtklbemkafdccgaaGreatDrawn
import Derived.Deep.DeepCutAuto
import Derived.Deep.CutBlock
/- Maps of names in memory. -/
namespace Go.Proofs.YtklbemkafdccgaaGreat
open Go.RowKit
namespace Vd
open Go.Maps
open Mbx (intD intElem intElem_inv)

theorem strKeyed : Keyed Tryz.prog 9 := string_keyed Tryz.underlying9
theorem zeroInt_run (w : World) : (zeroValue 3).run Tryz.prog w = .ok (.int .i64 0) w := by kernel_rfl
/-- a map's datum reads as a list of names -/
def ReadsN (D : DataW Unit) (l : Nms) : Prop := IsMap D ∧ AscN l ∧ ∀ x : Str, has D (.string x) = (look l x).isSome ∧ ∀ i, look l x = some i → ∀ z, D.atKey (.string x) z = intD (i : Int)
theorem isKeyStr (x : Str) : WideAt.IsKeyLit (.string x) := by simp [WideAt.IsKeyLit]
theorem readsN_new : ReadsN (.map []) [] := ⟨isMap_empty, List.Pairwise.nil, fun _ => ⟨rfl, fun _ h => by simp [look] at h⟩⟩
theorem ReadsN.put {D : DataW Unit} {l : Nms} (h : ReadsN D l) (x : Str) (i : Nat) : ReadsN (D.put (.string x) (intD (i : Int))) (putN l x i) := by
 refine ⟨h.1.put _ _, ascN_put h.2.1 _ _, fun y => ?_⟩
 rw [look_put h.2.1]
 by_cases hy : y = x
 ·subst hy
  rw [has_put_same h.1 (isKeyStr y), if_pos rfl]
  exact ⟨rfl, fun u hu z => by cases hu; exact atKey_put_same h.1 (isKeyStr y) _ _⟩
 ·have hne : (Lit.string y) ≠ .string x := by simp [hy]
  rw [has_put_other hne, if_neg hy]
  exact ⟨(h.2.2 y).1, fun u hu z => by rw [atKey_put_other hne]; exact (h.2.2 y).2 u hu z⟩
theorem ReadsN.at_ {D : DataW Unit} {l : Nms} (h : ReadsN D l) (x : Str) : D.atKey (.string x) (intD 0) = intD (((look l x).getD 0 : Nat) : Int) := by
 cases e : look l x with
 |some v => exact (h.2.2 x).2 v e _
 |none => exact atKey_of_not_has (by rw [(h.2.2 x).1, e]; rfl) _
theorem ReadsN.size {P : Program} {k : TypeId} {R : Value → Option (DataW Unit × List MemPlace)} {w : World} {b n : Nat} {D : DataW Unit} {l : Nms} (h : ReadsN D l) (ho : w.ownsMap P k R b n D) (K : Keyed P k) (hk : P.underlying k = some .string) : Maps.size D = l.length := by
 have hnd : (l.map (·.1)).Nodup := List.pairwise_map.2 (h.2.1.imp fun {a b} hab => str_ne hab)
 have hc : Collected D (fun _ => false) (l.map (·.1)) := ⟨hnd, fun x => by
  rw [(h.2.2 x).1]
  simp only [and_true]
  cases e : look l x with
  |none =>
   rw [look_none] at e
   simp only [List.mem_map]
   constructor
   ·rintro ⟨p, hp, rfl⟩; exact absurd rfl (e p hp)
   ·intro hh; cases hh
  |some i =>
   have := (look_mem h.2.1).1 e
   simp only [Option.isSome_some, iff_true]
   exact List.mem_map.2 ⟨_, this, rfl⟩⟩
 have hp := (hc.perm ho K hk (fun _ => rfl)).length_eq
 obtain ⟨es, rfl⟩ := h.1
 simp [strKeys, Maps.size] at hp ⊢
 omega
/-- a map of names at a block -/
def NamesAt (w : World) (b n : Nat) (l : Nms) : Prop := ∃ D, w.ownsMap Tryz.prog 9 intElem b n D ∧ ReadsN D l
section
variable {w w' : World} {b n : Nat} {l : Nms}
theorem map_keepsS {R : Value → Option (DataW Unit × List MemPlace)} {D : DataW Unit} (h : w.ownsMap Tryz.prog 9 R b n D) (k : Keeps w w') : w'.ownsMap Tryz.prog 9 R b n D := by
 obtain ⟨es, clock, hb, r⟩ := h
 exact ⟨es, clock, by rw [k.block (Array.getElem?_eq_some_iff.1 hb).1]; exact hb, r⟩
theorem map_modsS {R : Value → Option (DataW Unit × List MemPlace)} {D : DataW Unit} {S : Nat → Prop} (h : w.ownsMap Tryz.prog 9 R b n D) (k : Mods S w w') (hn : ¬ S b) : w'.ownsMap Tryz.prog 9 R b n D := by
 obtain ⟨es, clock, hb, r⟩ := h
 exact ⟨es, clock, k.heap hb hn, r⟩
theorem NamesAt.keeps (h : NamesAt w b n l) (k : Keeps w w') : NamesAt w' b n l := let ⟨D, h1, h2⟩ := h; ⟨D, map_keepsS h1 k, h2⟩
theorem NamesAt.mods {S : Nat → Prop} (h : NamesAt w b n l) (k : Mods S w w') (hn : ¬ S b) : NamesAt w' b n l := let ⟨D, h1, h2⟩ := h; ⟨D, map_modsS h1 k hn, h2⟩
theorem NamesAt.mono (h : NamesAt w b n l) {n' : Nat} (hn : n ≤ n') : NamesAt w b n' l := let ⟨D, h1, h2⟩ := h; ⟨D, h1.mono hn, h2⟩
theorem NamesAt.lt (h : NamesAt w b n l) : b < w.heap.size := let ⟨_, h1, _⟩ := h; h1.lt
theorem NamesAt.asc (h : NamesAt w b n l) : AscN l := let ⟨_, _, h2⟩ := h; h2.2.1
theorem keyS {x : Str} (hx : x.length ≤ maxLen) : keyOf Tryz.prog 9 (.string (bstr x)) = some (.string x) := by
 have := Go.WideMaps.keyOf_string_mk (P := Tryz.prog) (k := 9) Tryz.underlying9 (s := bstr x) (by rw [bstr_size]; exact hx)
 rw [this]
 simp [bstr]
theorem NamesAt.look_ok (h : NamesAt w b n l) {x : Str} (hx : x.length ≤ maxLen) :
  (Instr.lookup 128 (.map (some b)) (.string (bstr x)) true).run Tryz.prog w = .ok (.tuple #[.int .i64 (((look l x).getD 0 : Nat) : Int), .bool (look l x).isSome]) w := by
 obtain ⟨D, h1, h2⟩ := h
 obtain ⟨v, ps, hrun, hv⟩ := h1.look_ok strKeyed Tryz.underlying128 (zeroInt_run w) (zd := intD 0) (zp := []) rfl (keyS hx)
 rw [h2.at_] at hv
 rw [hrun, intElem_inv hv, (h2.2.2 x).1]
theorem turned_modsS {b : Nat} (h : w.mapTurned w' b) : Mods (· = b) w w' := (Mods.refl (· = b) w).grown h.grown (fun k hk _ => by cases hk; rfl)
theorem NamesAt.put (h : NamesAt w b n l) (hn : n < 1000000) {x : Str} (hx : x.length ≤ maxLen) (i : Nat) : ∃ w', (Instr.mapUpdate 128 (.map (some b)) (.string (bstr x)) (.int .i64 (i : Int))).run Tryz.prog w = .ok () w' ∧ NamesAt w' b (n + 1) (putN l x i) ∧ Mods (· = b) w w' := by
 obtain ⟨D, h1, h2⟩ := h
 obtain ⟨w', hrun, ho, ht⟩ := h1.store strKeyed Tryz.underlying128 (by unfold maxLen; omega) (val := .int .i64 (i : Int)) (d := intD (i : Int)) (ps := []) (keyS hx) rfl
 exact ⟨w', hrun, ⟨_, ho, h2.put x i⟩, turned_modsS ht⟩
theorem NamesAt.len (h : NamesAt w b n l) (ty : TypeId) : (Builtin.len_ #[128] ty #[.map (some b)]).run Tryz.prog w = .ok (.int .i64 (l.length : Int)) w := by
 obtain ⟨D, h1, h2⟩ := h
 rw [h1.len Tryz.underlying128, h2.size h1 strKeyed Tryz.underlying9]
theorem NamesAt.new (w : World) : NamesAt (w.alloc (.map #[] 0)) w.heap.size 0 [] := ⟨_, World.ownsMap_made w Tryz.prog _ _, readsN_new⟩
end
end Vd
end Go.Proofs.YtklbemkafdccgaaGreat

/- names.give: names that go while they are ranged over. -/
namespace Go.Proofs.YtklbemkafdccgaaGreat
open Go.RowKit
namespace Vd
open Go.Maps
open Mbx (intD intElem intElem_inv)

theorem ReadsN.del {D : DataW Unit} {l : Nms} (h : ReadsN D l) (x : Str) : ReadsN (D.del (.string x)) (l.filter fun p => decide (p.1 ≠ x)) := by
 have ha : AscN (l.filter fun p => decide (p.1 ≠ x)) := h.2.1.filter _
 have hl : ∀ y, look (l.filter fun p => decide (p.1 ≠ x)) y = if y = x then none else look l y := fun y => by
  apply opt_ext
  intro k
  rw [look_mem ha, List.mem_filter]
  by_cases hy : y = x
  ·rw [if_pos hy]
   simp [hy]
  ·rw [if_neg hy, look_mem h.2.1]
   simp [hy]
 refine ⟨h.1.del _, ha, fun y => ?_⟩
 rw [hl]
 by_cases hy : y = x
 ·subst hy
  rw [has_del_same, if_pos rfl]
  exact ⟨rfl, fun u hu => by cases hu⟩
 ·have hne : (Lit.string y) ≠ .string x := by simp [hy]
  rw [has_del_other hne, if_neg hy]
  exact ⟨(h.2.2 y).1, fun u hu z => by rw [atKey_del_other hne]; exact (h.2.2 y).2 u hu z⟩
/-- the names that are there still, where those that are left haven't come -/
def restN (l : Nms) (k : Nat) (left : Lit → Bool) : Nms := l.filter fun p => !(decide (p.2 = k) && !left (.string p.1))
theorem restN_all {D : DataW Unit} {l : Nms} (h : ReadsN D l) (k : Nat) : restN l k (has D) = l := by
 unfold restN
 refine List.filter_eq_self.2 fun p hp => ?_
 rw [(h.2.2 p.1).1, (look_mem h.2.1).2 (show (p.1, p.2) ∈ l from hp)]
 simp
theorem restN_end {l : Nms} (k : Nat) {left : Lit → Bool} (h : ∀ kl, left kl = false) : restN l k left = dropN l k := by
 unfold restN dropN
 refine List.filter_congr fun p _ => ?_
 rw [h]
 simp
theorem restN_gone {l : Nms} (hl : AscN l) (k : Nat) (left : Lit → Bool) {x : Str} (hx : (x, k) ∈ l) : restN l k (fun z => left z && !z.sameKey (.string x)) = (restN l k left).filter fun p => decide (p.1 ≠ x) := by
 unfold restN
 rw [List.filter_filter]
 refine List.filter_congr fun p hp => ?_
 by_cases hpx : p.1 = x
 ·have h2 : p.2 = k := by
   have h1 := (look_mem hl).2 hx
   have h3 := (look_mem hl).2 (show (p.1, p.2) ∈ l from hp)
   rw [hpx, h1] at h3
   exact (Option.some.inj h3).symm
  simp [hpx, h2, Lit.sameKey]
 ·simp [hpx, Lit.sameKey, beq_eq_false_iff_ne.2 hpx]
theorem restN_stays {l : Nms} (hl : AscN l) (k : Nat) (left : Lit → Bool) {x : Str} {i : Nat} (hx : (x, i) ∈ l) (hi : i ≠ k) : restN l k (fun z => left z && !z.sameKey (.string x)) = restN l k left := by
 unfold restN
 refine List.filter_congr fun p hp => ?_
 by_cases hpx : p.1 = x
 ·have h2 : p.2 = i := by
   have h1 := (look_mem hl).2 hx
   have h3 := (look_mem hl).2 (show (p.1, p.2) ∈ l from hp)
   rw [hpx, h1] at h3
   exact (Option.some.inj h3).symm
  have : ¬ p.2 = k := by omega
  simp [this]
 ·simp [hpx, Lit.sameKey, beq_eq_false_iff_ne.2 hpx]
theorem restN_sub {l : Nms} {k : Nat} {left : Lit → Bool} {p : Str × Nat} (h : p ∈ restN l k left) : p ∈ l := (List.mem_filter.1 h).1
theorem intElem_form {v : Value} {y : DataW Unit × List MemPlace} (h : intElem v = some y) : ∃ c, v = .int .i64 c := by
 unfold intElem at h
 split at h
 ·exact ⟨_, rfl⟩
 ·cases h
theorem twice (left : Lit → Bool) (kl : Lit) : (fun z => (left z && !z.sameKey kl) && !z.sameKey kl) = fun z => left z && !z.sameKey kl := by
 funext z
 cases left z <;> cases z.sameKey kl <;> rfl

set_option maxRecDepth 100000 in
set_option maxHeartbeats 2000000 in
theorem give_any (w : World) {b n : Nat} {l : Nms} (h : NamesAt w b n l) (hn : n < 1000000) (m : Mv) (hm : m.name.length ≤ maxLen) : Calls Tryz.prog 215 #[.map (some b), .agg #[.int .i64 (m.node : Int), .string (bstr m.name), .bool m.made]] w fun e w' => e = .returned (.tuple #[]) ∧ NamesAt w' b (n + 1) (giveN l m) ∧ Mods (· = b) w w' := by
 have hbl := h.lt
 obtain ⟨D, hown0, hr0⟩ := h
 have HR0 := Lib.hid hr0
 go_enter Tryz.func215, Tryz.ntmps215
 go_upto_region 1 with fail
 generalize hW : World.alloc w _ = w1
 have HK1 := Lib.hid (show Keeps w w1 from by rw [← hW]; exact (Keeps.refl _).alloc _)
 have HM := Lib.hid (show Blk w1 w.heap.size 231 #[.int .i64 (m.node : Int), .string (bstr m.name), .bool m.made] from by rw [← hW]; exact Blk.new _ _ _ rfl)
 have hown := map_keepsS hown0 HK1.out
 clear hW hown0 hr0
 obtain ⟨q, hq⟩ : ∃ q, q = w.heap.size := ⟨_, rfl⟩
 rw [← hq] at HM hbl ⊢
 have HQ := Lib.hid hq
 clear hq
 go_upto_region 2 with (at_range; refine wpList_range_own _ rfl _ 128 rfl 9 3 strKeyed Tryz.underlying128 _ b n _ rfl hown ?_; intro w2 hrg0 hg0 hs0)
 obtain ⟨it, hit⟩ : ∃ it, it = w1.heap.size := ⟨_, rfl⟩
 rw [← hit] at hrg0 hs0 ⊢
 have hqi : q < it := by rw [hit]; exact HM.out.lt
 have HI := Lib.hid hit
 have HG0 := Lib.hid (show Mods (· = b) w w2 ∧ Blk w2 q 231 #[.int .i64 (m.node : Int), .string (bstr m.name), .bool m.made] from by
  have hk2 : Keeps w1 w2 := (Keeps.refl w1).grown hg0 (fun k hk => by cases hk)
  exact ⟨Mods.of_keeps (HK1.out.trans hk2), HM.out.keeps hk2⟩)
 have HRG := Lib.hid hrg0
 clear hrg0 hg0 hown hit
 go_frame
 go_loopw [] (fun wr => ∃ (D' : DataW Unit) (left : Lit → Bool) (cnt : Nat), Hid (wr.ranges Tryz.prog 9 intElem b it n D' left cnt ∧ ReadsN D' (restN l m.node left) ∧ Mods (· = b) w wr ∧ Blk wr q 231 #[.int .i64 (m.node : Int), .string (bstr m.name), .bool m.made])) (fun wr => wr.rangeLeft b it)
 case atStart => exact ⟨_, _, _, Lib.hid ⟨HRG.out, by rw [restN_all HR0.out]; exact HR0.out, HG0.out.1, HG0.out.2⟩⟩
 case round =>
  obtain ⟨D', left, cnt, HH⟩ := hrel
  clear HRG HG0
  have hrg := HH.out.1
  go_wp2_with (at_next; refine wpList_next_ranges _ rfl _ rfl 9 strKeyed intElem Value.string (Value.int .i64) (fun key kl hk => by obtain ⟨s, rfl, -, -⟩ := Go.WideMaps.string_of_keyOf Tryz.underlying9 hk; exact ⟨s, rfl⟩) (fun v y hv => intElem_form hv) b it n _ _ _ rfl hrg ?_ ?_)
  ·intro _ hl0
   have HE := Lib.hid (show NamesAt wr b n (dropN l m.node) from ⟨D', hrg.owns, by rw [← restN_end m.node hl0]; exact HH.out.2.1⟩)
   have hc1 : wr.cell? ⟨q, 1, none⟩ = some (.string (bstr m.name)) := by rw [HH.out.2.2.2.cell]; rfl
   have hc0 : wr.cell? ⟨q, 0, none⟩ = some (.int .i64 (m.node : Int)) := by rw [HH.out.2.2.2.cell]; rfl
   have HMD := Lib.hid HH.out.2.2.1
   have bt := bstr_toList m.name
   have bz : (⟨#[]⟩ : ByteArray).toList = [] := bstr_toList []
   clear hrg HH hl0
   by_cases hnm : m.name = []
   ·have HX := Lib.hid (show giveN l m = dropN l m.node from if_pos hnm)
    have e1 : (m.name == []) = true := by rw [hnm]; rfl
    clear hnm
    go_wp2_with fail
    go_end0
    exact ⟨rfl, by rw [HX.out]; exact HE.out.mono (by omega), HMD.out⟩
   ·have HX := Lib.hid (show giveN l m = putN (dropN l m.node) m.name m.node from if_neg hnm)
    have e1 : (m.name == []) = false := by simp [hnm]
    obtain ⟨w5, hrun, hna, hmm⟩ := HE.out.put hn hm m.node
    clear hnm
    go_wp2_with fail
    go_end0
    exact ⟨rfl, by rw [HX.out]; exact hna, HMD.out.trans hmm (fun x hx _ => hx)⟩
  ·intro x c kl yd yp w3 cnt3 hkey hlx hyv hat hrg3 hlt hg3 hs3 hen
   obtain ⟨s, hs, rfl, hsz⟩ := Go.WideMaps.string_of_keyOf Tryz.underlying9 hkey
   obtain rfl : x = s := by simpa using hs
   have hy1 : yd = intD c := by
    unfold intElem at hyv
    simp at hyv
    exact hyv.1.symm
   obtain ⟨X, hX⟩ : ∃ X, X = x.data.toList := ⟨_, rfl⟩
   rw [← hX] at hlx hat hrg3 hkey
   have hhas := has_true_of_atKey hat
   have hRN := HH.out.2.1
   rw [(hRN.2.2 X).1] at hhas
   obtain ⟨i, hi⟩ := Option.isSome_iff_exists.1 hhas
   have hci : c = (i : Int) := by
    have h1 := (hRN.2.2 X).2 i hi .nil
    rw [hat .nil, hy1] at h1
    simpa [intD] using h1
   have hmem : (X, i) ∈ l := restN_sub ((look_mem hRN.2.1).1 hi)
   have hM3 : Mods (· = b) w w3 := HH.out.2.2.1.grown hg3 (fun k hk hlt2 => by cases hk; have := HI.out; have := HK1.out.size; omega)
   have hB3 := HH.out.2.2.2.grown hg3 (by simp; omega)
   have HF := Lib.hid (And.intro hM3 (And.intro hB3 (And.intro hRN hmem)))
   have hc0 : w3.cell? ⟨q, 0, none⟩ = some (.int .i64 (m.node : Int)) := by rw [hB3.cell]; rfl
   have HLE := Lib.hid (And.intro hrg.left_eq hlt)
   subst hci
   clear hs hyv hy1 hhas hRN hi hmem hM3 hB3 hat HH hrg
   by_cases hik : i = m.node
   ·have e1 : ((i : Int) == (m.node : Int)) = true := by simp [hik]
    go_wp2_with (at_delete; refine wpList_delete_ranges _ rfl _ _ 128 9 rfl 3 strKeyed Tryz.underlying128 _ b it n _ _ _ rfl hrg3 _ _ rfl hkey ?_; intro w4 cnt4 hrg4 hle hturn; go_frame)
    rw [twice] at hrg4
    have hM4 := turned_modsS hturn
    go_roundw
    case rel => exact ⟨_, _, cnt4, Lib.hid ⟨hrg4, by rw [restN_gone HR0.out.2.1 m.node left (by rw [← hik]; exact HF.out.2.2.2)]; exact HF.out.2.2.1.del X, HF.out.1.trans hM4 (fun x hx _ => hx), HF.out.2.1.mods hM4 (by omega)⟩⟩
    case measure =>
     rw [hrg4.left_eq, HLE.out.1]
     have := HLE.out.2
     omega
   ·have e1 : ((i : Int) == (m.node : Int)) = false := by simp; omega
    go_wp2_with fail
    go_roundw
    case rel => exact ⟨_, _, cnt3, Lib.hid ⟨hrg3, by rw [restN_stays HR0.out.2.1 m.node left HF.out.2.2.2 hik]; exact HF.out.2.2.1, HF.out.1, HF.out.2.1⟩⟩
    case measure =>
     rw [hrg3.left_eq, HLE.out.1]
     exact HLE.out.2
end Vd
end Go.Proofs.YtklbemkafdccgaaGreat

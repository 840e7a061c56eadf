/- Disk.find, free. -/
import Derived.Test.YtcleakjjefmmbaaGreatVdDisk
import Derived.Test.YtcleakjjefmmbaaGreatFrameAwake
namespace Go.Proofs.YtcleakjjefmmbaaGreat
open Go.RowKit
namespace Vd
open Go.Maps
open Mbx (intD intElem intElem_inv)

def findE (l : Nms) (x : Str) : Int := if (look l x).isSome then 0 else 7
set_option maxRecDepth 100000 in
set_option maxHeartbeats 1000000 in
theorem find_any (w : World) {S : Nat → Prop} {g : Nat} {d : Dsk} (h : DiskAt w S g d) (x : Str) (hx : x.length ≤ maxLen) : Calls Tryz.prog 191 #[.pointer (some ⟨g, 0, none⟩), .string (bstr x)] w fun e w' => e = .returned (.tuple #[.int .i64 (((look d.seen x).getD 0 : Nat) : Int), .int .i64 (findE d.seen x)]) ∧ w = w' := by
 obtain ⟨b1, b2, nv, mv, nb, h⟩ := h
 have hl := h.seen.look_ok hx
 obtain ⟨-, -, c2, -⟩ := h.cells
 unfold findE
 clear h
 generalize look d.seen x = lk at *
 cases lk with
 |none =>
  simp only [Option.getD_none, Option.isSome_none] at hl ⊢
  go_enter Tryz.func191, Tryz.ntmps191
  go_wp2_with fail
  go_ret2
  exact ⟨rfl, rfl⟩
 |some i =>
  simp only [Option.getD_some, Option.isSome_some] at hl ⊢
  go_enter Tryz.func191, Tryz.ntmps191
  go_wp2_with fail
  go_ret2
  exact ⟨rfl, rfl⟩

/-- the bytes of those names that haven't come -/
def leftN (nodes : List Nod) (l : Nms) (left : Lit → Bool) : Nat := bytesN nodes (l.filter fun p => left (.string p.1))
theorem leftN_all {D : DataW Unit} {nodes : List Nod} {l : Nms} (h : ReadsN D l) : leftN nodes l (has D) = bytesN nodes l := by
 unfold leftN
 rw [List.filter_eq_self.2 fun p hp => ?_]
 rw [(h.2.2 p.1).1, (look_mem h.2.1).2 (show (p.1, p.2) ∈ l from hp)]
 rfl
theorem leftN_end {nodes : List Nod} {l : Nms} {left : Lit → Bool} (h : ∀ kl, left kl = false) : leftN nodes l left = 0 := by
 unfold leftN
 rw [List.filter_eq_nil_iff.2 fun p _ => by rw [h]; simp]
 rfl
theorem leftN_step {nodes : List Nod} {l : Nms} (hl : AscN l) {left : Lit → Bool} {x : Str} {i : Nat} (hx : (x, i) ∈ l) (hleft : left (.string x) = true) : leftN nodes l left = leftN nodes l (fun z => left z && !z.sameKey (.string x)) + ((nodes[i]?).map (·.seen.length)).getD 0 := by
 unfold leftN bytesN
 induction l with
 |nil => simp at hx
 |cons p l ih =>
  obtain ⟨h1, h2⟩ := List.pairwise_cons.1 hl
  rcases List.mem_cons.1 hx with rfl | hx
  ·have hno : ∀ q ∈ l, (left (.string q.1) && !(Lit.string q.1).sameKey (.string x)) = left (.string q.1) := fun q hq => by
    have hne : q.1 ≠ x := fun e => str_ne (h1 q hq) (by rw [e])
    simp [Lit.sameKey, beq_eq_false_iff_ne.2 hne]
   rw [List.filter_cons, if_pos hleft, List.filter_cons, if_neg (by simp [Lit.sameKey])]
   rw [List.filter_congr (fun q hq => hno q hq), List.map_cons, List.sum_cons]
   dsimp only
   omega
  ·have hpx : p.1 ≠ x := str_ne (h1 _ hx)
   have := ih h2 hx
   dsimp only at this
   have he : (left (.string p.1) && !(Lit.string p.1).sameKey (.string x)) = left (.string p.1) := by simp [Lit.sameKey, beq_eq_false_iff_ne.2 hpx]
   rw [List.filter_cons, List.filter_cons]
   simp only [he]
   cases left (.string p.1) with
   |true =>
    rw [if_pos rfl, if_pos rfl, List.map_cons, List.sum_cons, List.map_cons, List.sum_cons, this]
    omega
   |false => rw [if_neg (by simp), if_neg (by simp)]; exact this
theorem bytesN_sub {nodes : List Nod} : ∀ {a b : Nms}, a.Sublist b → bytesN nodes a ≤ bytesN nodes b := by
 intro a b h
 unfold bytesN
 induction h with
 |slnil => exact Nat.le_refl _
 |cons x _ ih => simp only [List.map_cons, List.sum_cons]; omega
 |cons_cons x _ ih => simp only [List.map_cons, List.sum_cons]; omega

set_option maxRecDepth 100000 in
set_option maxHeartbeats 2000000 in
theorem free_any (w : World) {S : Nat → Prop} {g : Nat} {d : Dsk} (h : DiskAt w S g d) : Calls Tryz.prog 33 #[.pointer (some ⟨g, 0, none⟩)] w fun e w' => e = .returned (.int .i64 (freeD d)) ∧ Keeps w w' := by
 obtain ⟨b1, b2, nv, mv, nb, h⟩ := h
 obtain ⟨c0, c1, c2, -⟩ := h.cells
 have HD := Lib.hid h
 obtain ⟨D, hown, hr0⟩ := h.seen
 have hr1 := h.fit.r1
 have hr2 := h.fit.r2
 have hfr := h.fit.fr
 obtain ⟨pn, cn, rfl, hn1, hn2⟩ := Frm.ownsRow_form h.row
 have hnl := h.len
 have HR0 := Lib.hid hr0
 have HLS := Lib.hid (fun (left : Lit → Bool) => bytesN_sub (nodes := d.nodes) (a := d.seen.filter fun p => left (Lit.string p.1)) (List.filter_sublist))
 clear h hr0
 unfold freeD
 go_enter Tryz.func33, Tryz.ntmps33
 go_upto_region 3 with (at_range; refine wpList_range_own _ rfl _ 83 rfl 9 3 strKeyed Tryz.underlying83 _ b1 _ _ rfl hown ?_; intro w2 hrg0 hg0 hs0)
 obtain ⟨it, hit⟩ : ∃ it, it = w.heap.size := ⟨_, rfl⟩
 rw [← hit] at hrg0 hs0 ⊢
 have HI := Lib.hid hit
 have HK0 := Lib.hid (show Keeps w w2 from (Keeps.refl w).grown hg0 (fun k hk => by cases hk))
 have HRG := Lib.hid hrg0
 clear hrg0 hg0 hown hit c0 c1 c2
 go_frame
 go_loopw [3] (fun nn wr => ∃ (left : Lit → Bool) (cnt : Nat), nn = .int .i64 (d.room - bytesN d.nodes d.seen + leftN d.nodes d.seen left) ∧ Hid (wr.ranges Tryz.prog 9 intElem b1 it d.seen.length D left cnt ∧ Keeps w wr)) (fun _ wr => wr.rangeLeft b1 it)
 case atStart => exact ⟨_, _, by rw [leftN_all HR0.out]; congr 1; omega, Lib.hid ⟨HRG.out, HK0.out⟩⟩
 case round =>
  obtain ⟨left, cnt, rfl, HH⟩ := hrel
  clear HRG HK0
  have hrg := HH.out.1
  go_wp2_with (at_next; refine wpList_next_ranges _ rfl _ rfl 9 strKeyed intElem Value.string (Value.int .i64) (fun key kl hk => by obtain ⟨s, rfl, -, -⟩ := Go.WideMaps.string_of_keyOf Tryz.underlying9 hk; exact ⟨s, rfl⟩) (fun v y hv => intElem_form hv) b1 it _ _ _ _ rfl hrg ?_ ?_)
  ·intro _ hl0
   have HE := Lib.hid (leftN_end (nodes := d.nodes) (l := d.seen) hl0)
   rw [HE.out]
   have HK := Lib.hid HH.out.2
   clear hrg HH hl0
   go_wp2_with fail
   go_ret
   exact ⟨by simp, HK.out⟩
  ·intro x c kl yd yp w3 cnt3 hkey hlx hyv hat hrg3 hlt hg3 hs3 hen
   obtain ⟨s, hs, rfl, hsz⟩ := Go.WideMaps.string_of_keyOf Tryz.underlying9 hkey
   obtain rfl : x = s := by simpa using hs
   have hy1 : yd = intD c := by
    unfold intElem at hyv
    simp at hyv
    exact hyv.1.symm
   obtain ⟨X, hX⟩ : ∃ X, X = x.data.toList := ⟨_, rfl⟩
   rw [← hX] at hlx hat hrg3 hkey
   have hhas := has_true_of_atKey hat
   rw [(HR0.out.2.2 X).1] at hhas
   obtain ⟨i, hi⟩ := Option.isSome_iff_exists.1 hhas
   have hci : c = (i : Int) := by
    have h1 := (HR0.out.2.2 X).2 i hi .nil
    rw [hat .nil, hy1] at h1
    simpa [intD] using h1
   have hmem : (X, i) ∈ d.seen := (look_mem HR0.out.2.1).1 hi
   have hK3 : Keeps w w3 := HH.out.2.grown hg3 (fun k hk => by cases hk; have := HI.out; omega)
   have hin : i < d.nodes.length := HD.out.fit.is _ hmem
   have hst := leftN_step (nodes := d.nodes) HR0.out.2.1 hmem hlx
   rw [List.getElem?_eq_getElem hin] at hst
   simp only [Option.map_some, Option.getD_some] at hst
   have hle := HLS.out left
   have hD3 := HD.out.keeps hK3
   obtain ⟨-, c1, -⟩ := hD3.cells
   obtain ⟨gn, cap, hv, -, -, -, hc⟩ := Frm.ownsRow_at hD3.row (by omega)
   simp only [Value.slice.injEq] at hv
   obtain ⟨rfl, -, rfl⟩ := hv
   have n0 : w3.cell? ⟨gn, i, none⟩ = some (.pointer (some ⟨(nb[i]'(by omega)).1, 0, none⟩)) := hc i _ (by simp [List.getElem?_eq_getElem (show i < nb.length by omega)])
   have n1 : w3.cell? ⟨(nb[i]'(by omega)).1, 0, none⟩ = some (.string (bstr d.nodes[i].seen)) := by rw [(hD3.nod i (by omega) hin).blk.cell]; rfl
   have hbs := bstr_size d.nodes[i].seen
   have HLE := Lib.hid (And.intro hrg.left_eq hlt)
   have HF := Lib.hid (And.intro hK3 hst)
   generalize (nb[i]'(by omega)).1 = nbi at *
   generalize hsl : d.nodes[i].seen.length = sl at *
   generalize bstr d.nodes[i].seen = bs at *
   subst hci
   have hw1 : IntKind.i64.wrap (d.room - (bytesN d.nodes d.seen : Int) + (leftN d.nodes d.seen left : Int) - (sl : Int)) = d.room - (bytesN d.nodes d.seen : Int) + (leftN d.nodes d.seen left : Int) - (sl : Int) := by
    have : leftN d.nodes d.seen left ≤ bytesN d.nodes d.seen := hle
    rw [IntKind.wrap_i64]; omega
   clear hs hyv hy1 hhas hi hmem hK3 hat HH hrg hst hle hD3 hc hkey
   go_wp2_with fail
   go_roundw
   case rel => exact ⟨_, cnt3, by rw [HF.out.2]; congr 1; omega, Lib.hid ⟨hrg3, HF.out.1⟩⟩
   case measure =>
    rw [hrg3.left_eq, HLE.out.1]
    exact HLE.out.2
end Vd
end Go.Proofs.YtcleakjjefmmbaaGreat

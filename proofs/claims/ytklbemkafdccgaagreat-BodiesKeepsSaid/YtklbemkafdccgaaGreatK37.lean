/- Several texts in one: VdDisk, VdFind. -/
import Derived.Test.YtklbemkafdccgaaGreatK36
import Derived.Test.YtklbemkafdccgaaGreatFrameScan
import Derived.Test.YtklbemkafdccgaaGreatFrameAwake
/- The disk in memory. -/
namespace Go.Proofs.YtklbemkafdccgaaGreat
open Go.RowKit
namespace Vd
open Go.Maps
open Mbx (intD intElem intElem_inv)

theorem owns_tight {P : Program} {k : TypeId} {R : Value → Option (DataW Unit × List MemPlace)} {w : World} {b n : Nat} {D : DataW Unit} (h : w.ownsMap P k R b n D) : w.ownsMap P k R b (Maps.size D) D := by
 obtain ⟨es, clock, hb, F, hs, rfl⟩ := h
 exact ⟨es, clock, hb, F, by simp [Maps.size, length_sorted], rfl⟩
theorem NamesAt.tight {w : World} {b n : Nat} {l : Nms} (h : NamesAt w b n l) : NamesAt w b l.length l := by
 obtain ⟨D, h1, h2⟩ := h
 refine ⟨D, ?_, h2⟩
 rw [← h2.size h1 strKeyed Tryz.underlying9]
 exact owns_tight h1
def patC (p : Pat) : List Value := [.int .i64 (p.place : Int), .string (bstr p.b)]
def mvC (m : Mv) : List Value := [.int .i64 (m.node : Int), .string (bstr m.name), .bool m.made]
/-- a node: its block and the slice of its patches -/
abbrev NB := Nat × Value
structure NodB (w : World) (p : NB) (x : Nod) : Prop where
 blk : Blk w p.1 140 #[.string (bstr x.seen), .string (bstr x.sure), p.2, .bool x.fresh]
 pats : w.ownsRow 0 252 2 p.2 x.pats.length (x.pats.flatMap patC)
def ApartN (p q : NB) : Prop := p.1 ≠ q.1 ∧ ∀ y, p.2.ownBlock = some y → q.2.ownBlock ≠ some y
def diskA (d : Dsk) (nv : Value) (b1 b2 : Nat) (mv : Value) : Array Value := #[.int .i64 d.room, nv, .map (some b1), .map (some b2), mv, .bool d.off, .int .i64 d.count, .int .i64 d.fail.1, .int .i64 d.fail.2, .int .i64 d.crash.1, .int .i64 d.crash.2]
/-- what always holds of a disk -/
structure Fit (d : Dsk) : Prop where
 r1 : 1 ≤ d.room
 r2 : d.room ≤ 4194304
 s1 : d.seen.length ≤ 1024
 s2 : d.sure.length ≤ 1024
 is : ∀ p ∈ d.seen, p.2 < d.nodes.length
 iu : ∀ p ∈ d.sure, p.2 < d.nodes.length
 im : ∀ m ∈ d.moves, m.node < d.nodes.length
 nm : ∀ m ∈ d.moves, m.name.length ≤ 32
 ns : ∀ x ∈ d.nodes, x.seen.length ≤ 1000000000 ∧ x.sure.length ≤ 1000000000
 ps : ∀ x ∈ d.nodes, ∀ p ∈ x.pats, p.place + p.b.length ≤ 1000000000
 fr : (bytesN d.nodes d.seen : Int) ≤ 4000000000000000
 tf : -1 ≤ d.fail.1 ∧ d.fail.1 ≤ 4611686018427387904
 tc : -1 ≤ d.crash.1 ∧ d.crash.1 ≤ 4611686018427387904
structure DiskIn (w : World) (S : Nat → Prop) (g b1 b2 : Nat) (nv mv : Value) (nb : List NB) (d : Dsk) : Prop where
 blk : Blk w g 134 (diskA d nv b1 b2 mv)
 row : w.ownsRow 0 137 1 nv nb.length (nb.map fun p => Value.pointer (some ⟨p.1, 0, none⟩))
 len : nb.length = d.nodes.length
 nod : ∀ i (h : i < nb.length) (h2 : i < d.nodes.length), NodB w nb[i] d.nodes[i]
 sep : nb.Pairwise ApartN
 seen : NamesAt w b1 d.seen.length d.seen
 sure : NamesAt w b2 d.sure.length d.sure
 mvs : w.ownsRow 0 231 3 mv d.moves.length (d.moves.flatMap mvC)
 d12 : b1 ≠ b2
 sg : S g
 s1 : S b1
 s2 : S b2
 sn : ∀ y, nv.ownBlock = some y → S y
 sm : ∀ y, mv.ownBlock = some y → S y
 sb : ∀ p ∈ nb, S p.1 ∧ ∀ y, p.2.ownBlock = some y → S y
 fit : Fit d
def DiskAt (w : World) (S : Nat → Prop) (g : Nat) (d : Dsk) : Prop := ∃ b1 b2 nv mv nb, DiskIn w S g b1 b2 nv mv nb d
section
variable {w w' : World} {S : Nat → Prop} {g b1 b2 : Nat} {nv mv : Value} {nb : List NB} {d : Dsk}
theorem NodB.keeps {p : NB} {x : Nod} (h : NodB w p x) (k : Keeps w w') : NodB w' p x := ⟨h.blk.keeps k, Frm.ownsRow_keeps h.pats k⟩
theorem NodB.mods {p : NB} {x : Nod} {T : Nat → Prop} (h : NodB w p x) (k : Mods T w w') (h1 : ¬ T p.1) (h2 : ∀ y, p.2.ownBlock = some y → ¬ T y) : NodB w' p x := ⟨h.blk.mods k h1, Frm.ownsRow_mods h.pats k h2⟩
theorem DiskIn.keeps (h : DiskIn w S g b1 b2 nv mv nb d) (k : Keeps w w') : DiskIn w' S g b1 b2 nv mv nb d :=
 {h with blk := h.blk.keeps k, row := Frm.ownsRow_keeps h.row k, nod := fun i h1 h2 => (h.nod i h1 h2).keeps k, seen := h.seen.keeps k, sure := h.sure.keeps k, mvs := Frm.ownsRow_keeps h.mvs k }
theorem DiskAt.keeps (h : DiskAt w S g d) (k : Keeps w w') : DiskAt w' S g d := let ⟨_, _, _, _, _, h⟩ := h; ⟨_, _, _, _, _, h.keeps k⟩
/-- another object's change leaves the disk -/
theorem DiskIn.apart (h : DiskIn w S g b1 b2 nv mv nb d) {T : Nat → Prop} (k : Mods T w w') (hd : ∀ x, S x → ¬ T x) : DiskIn w' S g b1 b2 nv mv nb d :=
 {h with
  blk := h.blk.mods k (hd _ h.sg)
  row := Frm.ownsRow_mods h.row k (fun y hy => hd _ (h.sn y hy))
  nod := fun i h1 h2 => (h.nod i h1 h2).mods k (hd _ (h.sb _ (List.getElem_mem h1)).1) (fun y hy => hd _ ((h.sb _ (List.getElem_mem h1)).2 y hy))
  seen := h.seen.mods k (hd _ h.s1)
  sure := h.sure.mods k (hd _ h.s2)
  mvs := Frm.ownsRow_mods h.mvs k (fun y hy => hd _ (h.sm y hy)) }
theorem DiskAt.apart (h : DiskAt w S g d) {T : Nat → Prop} (k : Mods T w w') (hd : ∀ x, S x → ¬ T x) : DiskAt w' S g d := let ⟨_, _, _, _, _, h⟩ := h; ⟨_, _, _, _, _, h.apart k hd⟩
theorem DiskIn.wide (h : DiskIn w S g b1 b2 nv mv nb d) {T : Nat → Prop} (hT : ∀ x, S x → T x) : DiskIn w T g b1 b2 nv mv nb d :=
 {h with sg := hT _ h.sg, s1 := hT _ h.s1, s2 := hT _ h.s2, sn := fun y hy => hT _ (h.sn y hy), sm := fun y hy => hT _ (h.sm y hy), sb := fun p hp => ⟨hT _ (h.sb p hp).1, fun y hy => hT _ ((h.sb p hp).2 y hy)⟩ }
theorem DiskAt.wide (h : DiskAt w S g d) {T : Nat → Prop} (hT : ∀ x, S x → T x) : DiskAt w T g d := let ⟨_, _, _, _, _, h⟩ := h; ⟨_, _, _, _, _, h.wide hT⟩
theorem DiskIn.cells (h : DiskIn w S g b1 b2 nv mv nb d) : w.cell? ⟨g, 0, none⟩ = some (.int .i64 d.room) ∧ w.cell? ⟨g, 1, none⟩ = some nv ∧ w.cell? ⟨g, 2, none⟩ = some (.map (some b1)) ∧ w.cell? ⟨g, 3, none⟩ = some (.map (some b2)) ∧ w.cell? ⟨g, 4, none⟩ = some mv ∧ w.cell? ⟨g, 5, none⟩ = some (.bool d.off) ∧ w.cell? ⟨g, 6, none⟩ = some (.int .i64 d.count) ∧ w.cell? ⟨g, 7, none⟩ = some (.int .i64 d.fail.1) ∧ w.cell? ⟨g, 8, none⟩ = some (.int .i64 d.fail.2) ∧ w.cell? ⟨g, 9, none⟩ = some (.int .i64 d.crash.1) ∧ w.cell? ⟨g, 10, none⟩ = some (.int .i64 d.crash.2) := by
 refine ⟨?_, ?_, ?_, ?_, ?_, ?_, ?_, ?_, ?_, ?_, ?_⟩ <;> (rw [h.blk.cell]; rfl)
end
theorem DiskIn.ng {w : World} {S : Nat → Prop} {g b1 b2 : Nat} {nv mv : Value} {nb : List NB} {d : Dsk} (h : DiskIn w S g b1 b2 nv mv nb d) : b1 ≠ g ∧ b2 ≠ g ∧ nv.ownBlock ≠ some g ∧ mv.ownBlock ≠ some g ∧ ∀ i (_ : i < nb.length), nb[i].1 ≠ g ∧ nb[i].2.ownBlock ≠ some g := by
 have hmap : ∀ {b n : Nat} {l : Nms}, NamesAt w b n l → b ≠ g := fun hn e => by
  obtain ⟨D, ⟨es, cl, hb, _⟩, _⟩ := hn
  have := h.blk
  unfold Blk at this
  rw [e, this] at hb
  simp at hb
 refine ⟨hmap h.seen, hmap h.sure, Frm.ownsRow_ne h.row h.blk (by decide), Frm.ownsRow_ne h.mvs h.blk (by decide), fun i hi => ?_⟩
 have hn := h.nod i hi (by rw [← h.len]; exact hi)
 refine ⟨fun e => ?_, Frm.ownsRow_ne hn.pats h.blk (by decide)⟩
 have h1 := hn.blk
 have h2 := h.blk
 unfold Blk at h1 h2
 rw [e, h2] at h1
 simp at h1
/-- the disk's own block is written anew -/
theorem DiskIn.turn {w w' : World} {S : Nat → Prop} {g b1 b2 : Nat} {nv mv : Value} {nb : List NB} {d : Dsk} (h : DiskIn w S g b1 b2 nv mv nb d) (k : Mods (· = g) w w') {off : Bool} {count : Int} {fail crash : Int × Int} (hB : Blk w' g 134 (diskA { d with off := off, count := count, fail := fail, crash := crash } nv b1 b2 mv)) (hf : -1 ≤ fail.1 ∧ fail.1 ≤ 4611686018427387904) (hc : -1 ≤ crash.1 ∧ crash.1 ≤ 4611686018427387904) : DiskIn w' S g b1 b2 nv mv nb { d with off := off, count := count, fail := fail, crash := crash } := by
 obtain ⟨n1, n2, n3, n4, n5⟩ := h.ng
 exact { h with
  blk := hB
  row := Frm.ownsRow_mods h.row k (fun y hy e => n3 (by rw [hy, e]))
  nod := fun i h1 h2 => (h.nod i h1 h2).mods k (n5 i h1).1 (fun y hy e => (n5 i h1).2 (by rw [hy, e]))
  seen := h.seen.mods k n1
  sure := h.sure.mods k n2
  mvs := Frm.ownsRow_mods h.mvs k (fun y hy e => n4 (by rw [hy, e]))
  fit := { h.fit with tf := hf, tc := hc } }
/-- the blocks of a disk behind a call -/
def More (S : Nat → Prop) (w w' : World) (x : Nat) : Prop := S x ∨ (w.heap.size ≤ x ∧ x < w'.heap.size)
end Vd
end Go.Proofs.YtklbemkafdccgaaGreat

/- Disk.find, free. -/
namespace Go.Proofs.YtklbemkafdccgaaGreat
open Go.RowKit
namespace Vd
open Go.Maps
open Mbx (intD intElem intElem_inv)

def findE (l : Nms) (x : Str) : Int := if (look l x).isSome then 0 else 7
set_option maxRecDepth 100000 in
set_option maxHeartbeats 1000000 in
theorem find_any (w : World) {S : Nat → Prop} {g : Nat} {d : Dsk} (h : DiskAt w S g d) (x : Str) (hx : x.length ≤ maxLen) : Calls Tryz.prog 180 #[.pointer (some ⟨g, 0, none⟩), .string (bstr x)] w fun e w' => e = .returned (.tuple #[.int .i64 (((look d.seen x).getD 0 : Nat) : Int), .int .i64 (findE d.seen x)]) ∧ w = w' := by
 obtain ⟨b1, b2, nv, mv, nb, h⟩ := h
 have hl := h.seen.look_ok hx
 obtain ⟨-, -, c2, -⟩ := h.cells
 unfold findE
 clear h
 generalize look d.seen x = lk at *
 cases lk with
 |none =>
  simp only [Option.getD_none, Option.isSome_none] at hl ⊢
  go_enter Tryz.func180, Tryz.ntmps180
  go_wp2_with fail
  go_ret2
  exact ⟨rfl, rfl⟩
 |some i =>
  simp only [Option.getD_some, Option.isSome_some] at hl ⊢
  go_enter Tryz.func180, Tryz.ntmps180
  go_wp2_with fail
  go_ret2
  exact ⟨rfl, rfl⟩

/-- the bytes of those names that haven't come -/
def leftN (nodes : List Nod) (l : Nms) (left : Lit → Bool) : Nat := bytesN nodes (l.filter fun p => left (.string p.1))
theorem leftN_all {D : DataW Unit} {nodes : List Nod} {l : Nms} (h : ReadsN D l) : leftN nodes l (has D) = bytesN nodes l := by
 unfold leftN
 rw [List.filter_eq_self.2 fun p hp => ?_]
 rw [(h.2.2 p.1).1, (look_mem h.2.1).2 (show (p.1, p.2) ∈ l from hp)]
 rfl
theorem leftN_end {nodes : List Nod} {l : Nms} {left : Lit → Bool} (h : ∀ kl, left kl = false) : leftN nodes l left = 0 := by
 unfold leftN
 rw [List.filter_eq_nil_iff.2 fun p _ => by rw [h]; simp]
 rfl
theorem leftN_step {nodes : List Nod} {l : Nms} (hl : AscN l) {left : Lit → Bool} {x : Str} {i : Nat} (hx : (x, i) ∈ l) (hleft : left (.string x) = true) : leftN nodes l left = leftN nodes l (fun z => left z && !z.sameKey (.string x)) + ((nodes[i]?).map (·.seen.length)).getD 0 := by
 unfold leftN bytesN
 induction l with
 |nil => simp at hx
 |cons p l ih =>
  obtain ⟨h1, h2⟩ := List.pairwise_cons.1 hl
  rcases List.mem_cons.1 hx with rfl | hx
  ·have hno : ∀ q ∈ l, (left (.string q.1) && !(Lit.string q.1).sameKey (.string x)) = left (.string q.1) := fun q hq => by
    have hne : q.1 ≠ x := fun e => str_ne (h1 q hq) (by rw [e])
    simp [Lit.sameKey, beq_eq_false_iff_ne.2 hne]
   rw [List.filter_cons, if_pos hleft, List.filter_cons, if_neg (by simp [Lit.sameKey])]
   rw [List.filter_congr (fun q hq => hno q hq), List.map_cons, List.sum_cons]
   dsimp only
   omega
  ·have hpx : p.1 ≠ x := str_ne (h1 _ hx)
   have := ih h2 hx
   dsimp only at this
   have he : (left (.string p.1) && !(Lit.string p.1).sameKey (.string x)) = left (.string p.1) := by simp [Lit.sameKey, beq_eq_false_iff_ne.2 hpx]
   rw [List.filter_cons, List.filter_cons]
   simp only [he]
   cases left (.string p.1) with
   |true =>
    rw [if_pos rfl, if_pos rfl, List.map_cons, List.sum_cons, List.map_cons, List.sum_cons, this]
    omega
   |false => rw [if_neg (by simp), if_neg (by simp)]; exact this
theorem bytesN_sub {nodes : List Nod} : ∀ {a b : Nms}, a.Sublist b → bytesN nodes a ≤ bytesN nodes b := by
 intro a b h
 unfold bytesN
 induction h with
 |slnil => exact Nat.le_refl _
 |cons x _ ih => simp only [List.map_cons, List.sum_cons]; omega
 |cons_cons x _ ih => simp only [List.map_cons, List.sum_cons]; omega

set_option maxRecDepth 100000 in
set_option maxHeartbeats 2000000 in
theorem free_any (w : World) {S : Nat → Prop} {g : Nat} {d : Dsk} (h : DiskAt w S g d) : Calls Tryz.prog 73 #[.pointer (some ⟨g, 0, none⟩)] w fun e w' => e = .returned (.int .i64 (freeD d)) ∧ Keeps w w' := by
 obtain ⟨b1, b2, nv, mv, nb, h⟩ := h
 obtain ⟨c0, c1, c2, -⟩ := h.cells
 have HD := Lib.hid h
 obtain ⟨D, hown, hr0⟩ := h.seen
 have hr1 := h.fit.r1
 have hr2 := h.fit.r2
 have hfr := h.fit.fr
 obtain ⟨pn, cn, rfl, hn1, hn2⟩ := Frm.ownsRow_form h.row
 have hnl := h.len
 have HR0 := Lib.hid hr0
 have HLS := Lib.hid (fun (left : Lit → Bool) => bytesN_sub (nodes := d.nodes) (a := d.seen.filter fun p => left (Lit.string p.1)) (List.filter_sublist))
 clear h hr0
 unfold freeD
 go_enter Tryz.func73, Tryz.ntmps73
 go_upto_region 3 with (at_range; refine wpList_range_own _ rfl _ 128 rfl 9 3 strKeyed Tryz.underlying128 _ b1 _ _ rfl hown ?_; intro w2 hrg0 hg0 hs0)
 obtain ⟨it, hit⟩ : ∃ it, it = w.heap.size := ⟨_, rfl⟩
 rw [← hit] at hrg0 hs0 ⊢
 have HI := Lib.hid hit
 have HK0 := Lib.hid (show Keeps w w2 from (Keeps.refl w).grown hg0 (fun k hk => by cases hk))
 have HRG := Lib.hid hrg0
 clear hrg0 hg0 hown hit c0 c1 c2
 go_frame
 go_loopw [3] (fun nn wr => ∃ (left : Lit → Bool) (cnt : Nat), nn = .int .i64 (d.room - bytesN d.nodes d.seen + leftN d.nodes d.seen left) ∧ Hid (wr.ranges Tryz.prog 9 intElem b1 it d.seen.length D left cnt ∧ Keeps w wr)) (fun _ wr => wr.rangeLeft b1 it)
 case atStart => exact ⟨_, _, by rw [leftN_all HR0.out]; congr 1; omega, Lib.hid ⟨HRG.out, HK0.out⟩⟩
 case round =>
  obtain ⟨left, cnt, rfl, HH⟩ := hrel
  clear HRG HK0
  have hrg := HH.out.1
  go_wp2_with (at_next; refine wpList_next_ranges _ rfl _ rfl 9 strKeyed intElem Value.string (Value.int .i64) (fun key kl hk => by obtain ⟨s, rfl, -, -⟩ := Go.WideMaps.string_of_keyOf Tryz.underlying9 hk; exact ⟨s, rfl⟩) (fun v y hv => intElem_form hv) b1 it _ _ _ _ rfl hrg ?_ ?_)
  ·intro _ hl0
   have HE := Lib.hid (leftN_end (nodes := d.nodes) (l := d.seen) hl0)
   rw [HE.out]
   have HK := Lib.hid HH.out.2
   clear hrg HH hl0
   go_wp2_with fail
   go_ret
   exact ⟨by simp, HK.out⟩
  ·intro x c kl yd yp w3 cnt3 hkey hlx hyv hat hrg3 hlt hg3 hs3 hen
   obtain ⟨s, hs, rfl, hsz⟩ := Go.WideMaps.string_of_keyOf Tryz.underlying9 hkey
   obtain rfl : x = s := by simpa using hs
   have hy1 : yd = intD c := by
    unfold intElem at hyv
    simp at hyv
    exact hyv.1.symm
   obtain ⟨X, hX⟩ : ∃ X, X = x.data.toList := ⟨_, rfl⟩
   rw [← hX] at hlx hat hrg3 hkey
   have hhas := has_true_of_atKey hat
   rw [(HR0.out.2.2 X).1] at hhas
   obtain ⟨i, hi⟩ := Option.isSome_iff_exists.1 hhas
   have hci : c = (i : Int) := by
    have h1 := (HR0.out.2.2 X).2 i hi .nil
    rw [hat .nil, hy1] at h1
    simpa [intD] using h1
   have hmem : (X, i) ∈ d.seen := (look_mem HR0.out.2.1).1 hi
   have hK3 : Keeps w w3 := HH.out.2.grown hg3 (fun k hk => by cases hk; have := HI.out; omega)
   have hin : i < d.nodes.length := HD.out.fit.is _ hmem
   have hst := leftN_step (nodes := d.nodes) HR0.out.2.1 hmem hlx
   rw [List.getElem?_eq_getElem hin] at hst
   simp only [Option.map_some, Option.getD_some] at hst
   have hle := HLS.out left
   have hD3 := HD.out.keeps hK3
   obtain ⟨-, c1, -⟩ := hD3.cells
   obtain ⟨gn, cap, hv, -, -, -, hc⟩ := Frm.ownsRow_at hD3.row (by omega)
   simp only [Value.slice.injEq] at hv
   obtain ⟨rfl, -, rfl⟩ := hv
   have n0 : w3.cell? ⟨gn, i, none⟩ = some (.pointer (some ⟨(nb[i]'(by omega)).1, 0, none⟩)) := hc i _ (by simp [List.getElem?_eq_getElem (show i < nb.length by omega)])
   have n1 : w3.cell? ⟨(nb[i]'(by omega)).1, 0, none⟩ = some (.string (bstr d.nodes[i].seen)) := by rw [(hD3.nod i (by omega) hin).blk.cell]; rfl
   have hbs := bstr_size d.nodes[i].seen
   have HLE := Lib.hid (And.intro hrg.left_eq hlt)
   have HF := Lib.hid (And.intro hK3 hst)
   generalize (nb[i]'(by omega)).1 = nbi at *
   generalize hsl : d.nodes[i].seen.length = sl at *
   generalize bstr d.nodes[i].seen = bs at *
   subst hci
   have hw1 : IntKind.i64.wrap (d.room - (bytesN d.nodes d.seen : Int) + (leftN d.nodes d.seen left : Int) - (sl : Int)) = d.room - (bytesN d.nodes d.seen : Int) + (leftN d.nodes d.seen left : Int) - (sl : Int) := by
    have : leftN d.nodes d.seen left ≤ bytesN d.nodes d.seen := hle
    rw [IntKind.wrap_i64]; omega
   clear hs hyv hy1 hhas hi hmem hK3 hat HH hrg hst hle hD3 hc hkey
   go_wp2_with fail
   go_roundw
   case rel => exact ⟨_, cnt3, by rw [HF.out.2]; congr 1; omega, Lib.hid ⟨hrg3, HF.out.1⟩⟩
   case measure =>
    rw [hrg3.left_eq, HLE.out.1]
    exact HLE.out.2
end Vd
end Go.Proofs.YtklbemkafdccgaaGreat

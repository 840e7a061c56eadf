/- The disk in memory. -/
import Derived.Test.YtcleakjjefmmbaaGreatVdGive
import Derived.Test.YtcleakjjefmmbaaGreatK16
namespace Go.Proofs.YtcleakjjefmmbaaGreat
open Go.RowKit
namespace Vd
open Go.Maps
open Mbx (intD intElem intElem_inv)

theorem owns_tight {P : Program} {k : TypeId} {R : Value → Option (DataW Unit × List MemPlace)} {w : World} {b n : Nat} {D : DataW Unit} (h : w.ownsMap P k R b n D) : w.ownsMap P k R b (Maps.size D) D := by
 obtain ⟨es, clock, hb, F, hs, rfl⟩ := h
 exact ⟨es, clock, hb, F, by simp [Maps.size, length_sorted], rfl⟩
theorem NamesAt.tight {w : World} {b n : Nat} {l : Nms} (h : NamesAt w b n l) : NamesAt w b l.length l := by
 obtain ⟨D, h1, h2⟩ := h
 refine ⟨D, ?_, h2⟩
 rw [← h2.size h1 strKeyed Tryz.underlying9]
 exact owns_tight h1
def patC (p : Pat) : List Value := [.int .i64 (p.place : Int), .string (bstr p.b)]
theorem patC_len (p : Pat) : (patC p).length = 2 := rfl
def mvC (m : Mv) : List Value := [.int .i64 (m.node : Int), .string (bstr m.name), .bool m.made]
theorem mvC_len (m : Mv) : (mvC m).length = 3 := rfl
/-- a node: its block and the slice of its patches -/
abbrev NB := Nat × Value
structure NodB (w : World) (p : NB) (x : Nod) : Prop where
 blk : Blk w p.1 95 #[.string (bstr x.seen), .string (bstr x.sure), p.2, .bool x.fresh]
 pats : w.ownsRow 0 148 2 p.2 x.pats.length (x.pats.flatMap patC)
def ApartN (p q : NB) : Prop := p.1 ≠ q.1 ∧ ∀ y, p.2.ownBlock = some y → q.2.ownBlock ≠ some y
def diskA (d : Dsk) (nv : Value) (b1 b2 : Nat) (mv : Value) : Array Value := #[.int .i64 d.room, nv, .map (some b1), .map (some b2), mv, .bool d.off, .int .i64 d.count, .int .i64 d.fail.1, .int .i64 d.fail.2, .int .i64 d.crash.1, .int .i64 d.crash.2]
/-- what always holds of a disk -/
structure Fit (d : Dsk) : Prop where
 r1 : 1 ≤ d.room
 r2 : d.room ≤ 4194304
 s1 : d.seen.length ≤ 1024
 s2 : d.sure.length ≤ 1024
 is : ∀ p ∈ d.seen, p.2 < d.nodes.length
 iu : ∀ p ∈ d.sure, p.2 < d.nodes.length
 im : ∀ m ∈ d.moves, m.node < d.nodes.length
 nm : ∀ m ∈ d.moves, m.name.length ≤ 32
 ns : ∀ x ∈ d.nodes, x.seen.length ≤ 1000000000 ∧ x.sure.length ≤ 1000000000
 ps : ∀ x ∈ d.nodes, ∀ p ∈ x.pats, p.place + p.b.length ≤ 1000000000
 fr : (bytesN d.nodes d.seen : Int) ≤ 4000000000000000
 tf : -1 ≤ d.fail.1 ∧ d.fail.1 ≤ 4611686018427387904
 tc : -1 ≤ d.crash.1 ∧ d.crash.1 ≤ 4611686018427387904
structure DiskIn (w : World) (S : Nat → Prop) (g b1 b2 : Nat) (nv mv : Value) (nb : List NB) (d : Dsk) : Prop where
 blk : Blk w g 89 (diskA d nv b1 b2 mv)
 row : w.ownsRow 0 92 1 nv nb.length (nb.map fun p => Value.pointer (some ⟨p.1, 0, none⟩))
 len : nb.length = d.nodes.length
 nod : ∀ i (h : i < nb.length) (h2 : i < d.nodes.length), NodB w nb[i] d.nodes[i]
 sep : nb.Pairwise ApartN
 seen : NamesAt w b1 d.seen.length d.seen
 sure : NamesAt w b2 d.sure.length d.sure
 mvs : w.ownsRow 0 152 3 mv d.moves.length (d.moves.flatMap mvC)
 d12 : b1 ≠ b2
 sg : S g
 s1 : S b1
 s2 : S b2
 sn : ∀ y, nv.ownBlock = some y → S y
 sm : ∀ y, mv.ownBlock = some y → S y
 sb : ∀ p ∈ nb, S p.1 ∧ ∀ y, p.2.ownBlock = some y → S y
 fit : Fit d
def DiskAt (w : World) (S : Nat → Prop) (g : Nat) (d : Dsk) : Prop := ∃ b1 b2 nv mv nb, DiskIn w S g b1 b2 nv mv nb d
section
variable {w w' : World} {S : Nat → Prop} {g b1 b2 : Nat} {nv mv : Value} {nb : List NB} {d : Dsk}
theorem NodB.keeps {p : NB} {x : Nod} (h : NodB w p x) (k : Keeps w w') : NodB w' p x := ⟨h.blk.keeps k, Frm.ownsRow_keeps h.pats k⟩
theorem NodB.mods {p : NB} {x : Nod} {T : Nat → Prop} (h : NodB w p x) (k : Mods T w w') (h1 : ¬ T p.1) (h2 : ∀ y, p.2.ownBlock = some y → ¬ T y) : NodB w' p x := ⟨h.blk.mods k h1, Frm.ownsRow_mods h.pats k h2⟩
theorem DiskIn.keeps (h : DiskIn w S g b1 b2 nv mv nb d) (k : Keeps w w') : DiskIn w' S g b1 b2 nv mv nb d :=
 {h with blk := h.blk.keeps k, row := Frm.ownsRow_keeps h.row k, nod := fun i h1 h2 => (h.nod i h1 h2).keeps k, seen := h.seen.keeps k, sure := h.sure.keeps k, mvs := Frm.ownsRow_keeps h.mvs k }
theorem DiskAt.keeps (h : DiskAt w S g d) (k : Keeps w w') : DiskAt w' S g d := let ⟨_, _, _, _, _, h⟩ := h; ⟨_, _, _, _, _, h.keeps k⟩
/-- another object's change leaves the disk -/
theorem DiskIn.apart (h : DiskIn w S g b1 b2 nv mv nb d) {T : Nat → Prop} (k : Mods T w w') (hd : ∀ x, S x → ¬ T x) : DiskIn w' S g b1 b2 nv mv nb d :=
 {h with
  blk := h.blk.mods k (hd _ h.sg)
  row := Frm.ownsRow_mods h.row k (fun y hy => hd _ (h.sn y hy))
  nod := fun i h1 h2 => (h.nod i h1 h2).mods k (hd _ (h.sb _ (List.getElem_mem h1)).1) (fun y hy => hd _ ((h.sb _ (List.getElem_mem h1)).2 y hy))
  seen := h.seen.mods k (hd _ h.s1)
  sure := h.sure.mods k (hd _ h.s2)
  mvs := Frm.ownsRow_mods h.mvs k (fun y hy => hd _ (h.sm y hy)) }
theorem DiskAt.apart (h : DiskAt w S g d) {T : Nat → Prop} (k : Mods T w w') (hd : ∀ x, S x → ¬ T x) : DiskAt w' S g d := let ⟨_, _, _, _, _, h⟩ := h; ⟨_, _, _, _, _, h.apart k hd⟩
theorem DiskIn.wide (h : DiskIn w S g b1 b2 nv mv nb d) {T : Nat → Prop} (hT : ∀ x, S x → T x) : DiskIn w T g b1 b2 nv mv nb d :=
 {h with sg := hT _ h.sg, s1 := hT _ h.s1, s2 := hT _ h.s2, sn := fun y hy => hT _ (h.sn y hy), sm := fun y hy => hT _ (h.sm y hy), sb := fun p hp => ⟨hT _ (h.sb p hp).1, fun y hy => hT _ ((h.sb p hp).2 y hy)⟩ }
theorem DiskAt.wide (h : DiskAt w S g d) {T : Nat → Prop} (hT : ∀ x, S x → T x) : DiskAt w T g d := let ⟨_, _, _, _, _, h⟩ := h; ⟨_, _, _, _, _, h.wide hT⟩
theorem DiskIn.cells (h : DiskIn w S g b1 b2 nv mv nb d) : w.cell? ⟨g, 0, none⟩ = some (.int .i64 d.room) ∧ w.cell? ⟨g, 1, none⟩ = some nv ∧ w.cell? ⟨g, 2, none⟩ = some (.map (some b1)) ∧ w.cell? ⟨g, 3, none⟩ = some (.map (some b2)) ∧ w.cell? ⟨g, 4, none⟩ = some mv ∧ w.cell? ⟨g, 5, none⟩ = some (.bool d.off) ∧ w.cell? ⟨g, 6, none⟩ = some (.int .i64 d.count) ∧ w.cell? ⟨g, 7, none⟩ = some (.int .i64 d.fail.1) ∧ w.cell? ⟨g, 8, none⟩ = some (.int .i64 d.fail.2) ∧ w.cell? ⟨g, 9, none⟩ = some (.int .i64 d.crash.1) ∧ w.cell? ⟨g, 10, none⟩ = some (.int .i64 d.crash.2) := by
 refine ⟨?_, ?_, ?_, ?_, ?_, ?_, ?_, ?_, ?_, ?_, ?_⟩ <;> (rw [h.blk.cell]; rfl)
end
theorem DiskIn.ng {w : World} {S : Nat → Prop} {g b1 b2 : Nat} {nv mv : Value} {nb : List NB} {d : Dsk} (h : DiskIn w S g b1 b2 nv mv nb d) : b1 ≠ g ∧ b2 ≠ g ∧ nv.ownBlock ≠ some g ∧ mv.ownBlock ≠ some g ∧ ∀ i (_ : i < nb.length), nb[i].1 ≠ g ∧ nb[i].2.ownBlock ≠ some g := by
 have hmap : ∀ {b n : Nat} {l : Nms}, NamesAt w b n l → b ≠ g := fun hn e => by
  obtain ⟨D, ⟨es, cl, hb, _⟩, _⟩ := hn
  have := h.blk
  unfold Blk at this
  rw [e, this] at hb
  simp at hb
 refine ⟨hmap h.seen, hmap h.sure, Frm.ownsRow_ne h.row h.blk (by decide), Frm.ownsRow_ne h.mvs h.blk (by decide), fun i hi => ?_⟩
 have hn := h.nod i hi (by rw [← h.len]; exact hi)
 refine ⟨fun e => ?_, Frm.ownsRow_ne hn.pats h.blk (by decide)⟩
 have h1 := hn.blk
 have h2 := h.blk
 unfold Blk at h1 h2
 rw [e, h2] at h1
 simp at h1
/-- the disk's own block is written anew -/
theorem DiskIn.turn {w w' : World} {S : Nat → Prop} {g b1 b2 : Nat} {nv mv : Value} {nb : List NB} {d : Dsk} (h : DiskIn w S g b1 b2 nv mv nb d) (k : Mods (· = g) w w') {off : Bool} {count : Int} {fail crash : Int × Int} (hB : Blk w' g 89 (diskA { d with off := off, count := count, fail := fail, crash := crash } nv b1 b2 mv)) (hf : -1 ≤ fail.1 ∧ fail.1 ≤ 4611686018427387904) (hc : -1 ≤ crash.1 ∧ crash.1 ≤ 4611686018427387904) : DiskIn w' S g b1 b2 nv mv nb { d with off := off, count := count, fail := fail, crash := crash } := by
 obtain ⟨n1, n2, n3, n4, n5⟩ := h.ng
 exact { h with
  blk := hB
  row := Frm.ownsRow_mods h.row k (fun y hy e => n3 (by rw [hy, e]))
  nod := fun i h1 h2 => (h.nod i h1 h2).mods k (n5 i h1).1 (fun y hy e => (n5 i h1).2 (by rw [hy, e]))
  seen := h.seen.mods k n1
  sure := h.sure.mods k n2
  mvs := Frm.ownsRow_mods h.mvs k (fun y hy e => n4 (by rw [hy, e]))
  fit := { h.fit with tf := hf, tc := hc } }
/-- the blocks of a disk behind a call -/
def More (S : Nat → Prop) (w w' : World) (x : Nat) : Prop := S x ∨ (w.heap.size ≤ x ∧ x < w'.heap.size)
end Vd
end Go.Proofs.YtcleakjjefmmbaaGreat

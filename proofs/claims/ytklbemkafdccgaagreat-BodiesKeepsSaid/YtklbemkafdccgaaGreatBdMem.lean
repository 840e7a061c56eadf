/- bodies: a store in memory. -/
import Derived.Test.YtklbemkafdccgaaGreatBdPlain
import Derived.Test.YtklbemkafdccgaaGreatMid
import Derived.Test.YtklbemkafdccgaaGreatK12
import Derived.Test.YtklbemkafdccgaaGreatFrameScan
namespace Go.Proofs.YtklbemkafdccgaaGreat
open Go.RowKit
namespace Bds
open Mp Go.Maps
open Frm (ownsRow_mods ownsRow_keeps)
structure NumX where
 n : Int
 b : Str
 s : SlQ
structure AlkX where
 k : TrK
 zs : List Int
 s : SlQ
abbrev intL : Int → Lit := fun n => Lit.int .i64 n
theorem intKeyB : Keyed Tryz.prog 3 := int_keyed Tryz.underlying3
/-- the store's block, its two maps, its bodies' bytes, its lists of numbers: all in blocks of O -/
structure StIn (w : World) (O : Nat → Prop) (g b1 b2 gd n : Nat) (s : BdP) (nv : List NumX) (av : List AlkX) : Prop where
 blk : Blk w g 151 #[.pointer (some ⟨gd, 0, none⟩), .int .i64 s.next, .int .i64 s.broken, .map (some b1), .map (some b2)]
 num : ∃ D, w.ownsMap Tryz.prog 3 slqElem b1 n D ∧ MapOf intL slqD D (nv.map fun x => (x.n, x.s))
 nl : (nv.map fun x => (x.n, x.b)) = s.L
 row : ∀ x ∈ nv, Piece w 0 5 x.s.v (x.b.map u8v)
 ro : ∀ x ∈ nv, x.b ≠ [] → ∀ a, x.s.p = some a → O a.block
 alk : ∃ D, w.ownsMap Tryz.prog 198 slqElem b2 n D ∧ MapOf trL slqD D (av.map fun x => (x.k, x.s))
 al : ∀ x ∈ av, x.zs = nums s.L x.k
 cov : ∀ x ∈ s.L, trP x.2 ∈ av.map (·.k)
 own : ∀ x ∈ av, Own w 0 3 x.s.v (x.zs.map (.int .i64))
 ao : ∀ x ∈ av, ∀ y, x.s.v.ownBlock = some y → O y
 ap : av.Pairwise fun x y => ∀ z, x.s.v.ownBlock = some z → y.s.v.ownBlock ≠ some z
 og : O g ∧ O b1 ∧ O b2
 ne : b1 ≠ b2
 wf : ∀ x ∈ s.L, (Lit.int .i64 x.1).wf = true
def StAt (w : World) (O : Nat → Prop) (g gd n : Nat) (s : BdP) : Prop := ∃ b1 b2 nv av, StIn w O g b1 b2 gd n s nv av
section
variable {w w' : World} {O : Nat → Prop} {g b1 b2 gd n : Nat} {s : BdP} {nv : List NumX} {av : List AlkX}
theorem StIn.mods {S : Nat → Prop} (h : StIn w O g b1 b2 gd n s nv av) (k : Mods S w w') (hn : ∀ y, O y → ¬ S y) : StIn w' O g b1 b2 gd n s nv av := by
 refine { h with blk := h.blk.mods k (hn _ h.og.1), num := ?_, row := fun x hx => ?_, alk := ?_, own := fun x hx => ownsRow_mods (h.own x hx) k (fun y hy => hn y (h.ao x hx y hy)) }
 ·obtain ⟨D, h1, h2⟩ := h.num
  exact ⟨D, Usr.map_modsS h1 k (hn _ h.og.2.1), h2⟩
 ·rcases h.row x hx with h0 | ⟨q, off, cap, cs, fr, hv, h0, h1, h2, h3, h4, h5⟩
  ·exact .inl h0
  ·refine .inr ⟨q, off, cap, cs, fr, hv, h0, h1, h2, h3, k.heap h4 (hn q ?_), h5⟩
   have hp : x.s.p = some ⟨q, off, none⟩ := by
    unfold SlQ.v at hv
    simp only [Value.slice.injEq] at hv
    exact hv.1
   exact h.ro x hx (fun e => by rw [e] at h0; simp at h0) _ hp
 ·obtain ⟨D, h1, h2⟩ := h.alk
  exact ⟨D, Usr.map_modsS h1 k (hn _ h.og.2.2), h2⟩
theorem StIn.keeps (h : StIn w O g b1 b2 gd n s nv av) (k : Keeps w w') : StIn w' O g b1 b2 gd n s nv av :=
 h.mods (S := fun _ => False) (Mods.of_keeps k) (fun _ _ hf => hf)
theorem StAt.keeps (h : StAt w O g gd n s) (k : Keeps w w') : StAt w' O g gd n s := let ⟨b1, b2, nv, av, h⟩ := h; ⟨b1, b2, nv, av, h.keeps k⟩
theorem StAt.mods {S : Nat → Prop} (h : StAt w O g gd n s) (k : Mods S w w') (hn : ∀ y, O y → ¬ S y) : StAt w' O g gd n s := let ⟨b1, b2, nv, av, h⟩ := h; ⟨b1, b2, nv, av, h.mods k hn⟩
theorem StIn.nkeys (h : StIn w O g b1 b2 gd n s nv av) : (nv.map fun x => (x.n, x.s)).map (·.1) = keysB s := by
 unfold keysB
 rw [← h.nl, List.map_map, List.map_map]
 rfl
theorem StIn.nodup (h : StIn w O g b1 b2 gd n s nv av) : (keysB s).Nodup := by
 obtain ⟨D, -, h2⟩ := h.num
 rw [← h.nkeys]
 exact h2.nd
theorem StIn.cells (h : StIn w O g b1 b2 gd n s nv av) : w.cell? ⟨g, 0, none⟩ = some (.pointer (some ⟨gd, 0, none⟩)) ∧ w.cell? ⟨g, 1, none⟩ = some (.int .i64 s.next) ∧ w.cell? ⟨g, 2, none⟩ = some (.int .i64 s.broken) ∧ w.cell? ⟨g, 3, none⟩ = some (.map (some b1)) ∧ w.cell? ⟨g, 4, none⟩ = some (.map (some b2)) := by
 refine ⟨?_, ?_, ?_, ?_, ?_⟩ <;> (rw [h.blk.cell]; rfl)
theorem key_n {x : Int} (h : (Lit.int .i64 x).wf = true) : keyOf Tryz.prog 3 (.int .i64 x) = some (intL x) := keyOf_int_mk Tryz.underlying3 h
/-- byNum[x], with 'ok' and without -/
theorem StIn.look (h : StIn w O g b1 b2 gd n s nv av) {x : Int} (hx : (Lit.int .i64 x).wf = true) :
  ∃ u : SlQ, (Instr.lookup 148 (.map (some b1)) (.int .i64 x) true).run Tryz.prog w = .ok (.tuple #[u.v, .bool (decide (x ∈ keysB s))]) w ∧ (Instr.lookup 148 (.map (some b1)) (.int .i64 x) false).run Tryz.prog w = .ok u.v w ∧ Row w u.v (((bodyOf s.L x).getD []).map u8v) := by
 obtain ⟨D, h1, h2⟩ := h.num
 obtain ⟨v, ps, hrun, hv⟩ := h1.look_ok intKeyB Tryz.underlying148 (zeroB_run w) (slqElem_mk sq0) (key_n hx)
 obtain ⟨v', ps', hrun', hv'⟩ := Usr.look_plain h1 intKeyB Tryz.underlying148 (zeroB_run w) (slqElem_mk sq0) (key_n hx)
 have hat := h2.at_ intKind x sq0
 have hh := h2.has intKind x
 rw [look_isSome, h.nkeys] at hh
 rw [show D.atKey (intL x) (slqD sq0) = _ from hat] at hv hv'
 refine ⟨(Mp.look (nv.map fun y => (y.n, y.s)) x).getD sq0, by rw [hrun, slqElem_inv hv, show Maps.has D (intL x) = decide (x ∈ keysB s) from hh], by rw [hrun', slqElem_inv hv'], ?_⟩
 by_cases hm : x ∈ keysB s
 ·rw [← h.nkeys] at hm
  obtain ⟨y, hy, hyx⟩ := List.mem_map.1 hm
  obtain ⟨z, hz, rfl⟩ := List.mem_map.1 hy
  simp only at hyx
  subst hyx
  rw [(look_some h2.nd).2 (List.mem_map.2 ⟨z, hz, rfl⟩)]
  have hb : bodyOf s.L z.n = some z.b := by
   unfold bodyOf
   refine (look_some ?_).2 ?_
   ·exact h.nodup
   ·rw [← h.nl]; exact List.mem_map.2 ⟨z, hz, rfl⟩
  rw [hb]
  exact (h.row z hz).row
 ·rw [look_none.2 (by rw [h.nkeys]; exact hm)]
  have hb : bodyOf s.L x = none := look_none.2 hm
  rw [hb]
  exact .inl ⟨none, 0, rfl, rfl, Nat.zero_le _, fun _ => rfl⟩
/-- alike[k] -/
theorem StIn.lookA (h : StIn w O g b1 b2 gd n s nv av) (k : TrK) :
  ∃ u : SlQ, (Instr.lookup 149 (.map (some b2)) (trV k) false).run Tryz.prog w = .ok u.v w ∧ Row w u.v ((nums s.L k).map (.int .i64)) := by
 obtain ⟨D, h1, h2⟩ := h.alk
 obtain ⟨v', ps', hrun', hv'⟩ := Usr.look_plain h1 trKeyed Tryz.underlying149 (zeroI_run w) (slqElem_mk sq0) (key_tr k)
 have hat := h2.at_ trKind k sq0
 rw [show D.atKey (trL k) (slqD sq0) = _ from hat] at hv'
 refine ⟨(Mp.look (av.map fun y => (y.k, y.s)) k).getD sq0, by rw [hrun', slqElem_inv hv'], ?_⟩
 by_cases hm : k ∈ av.map (·.k)
 ·obtain ⟨z, hz, rfl⟩ := List.mem_map.1 hm
  rw [(look_some h2.nd).2 (List.mem_map.2 ⟨z, hz, rfl⟩), ← h.al z hz]
  exact (h.own z hz).row
 ·have e : (av.map fun y => (y.k, y.s)).map (·.1) = av.map (·.k) := by rw [List.map_map]; rfl
  rw [look_none.2 (by rw [e]; exact hm)]
  have hn : nums s.L k = [] := by
   unfold nums
   rw [List.map_eq_nil_iff, List.filter_eq_nil_iff]
   intro x hx hk
   simp only [decide_eq_true_eq] at hk
   exact hm (hk ▸ h.cov x hx)
  rw [hn]
  exact .inl ⟨none, 0, rfl, rfl, Nat.zero_le _, fun _ => rfl⟩
end
end Bds
end Go.Proofs.YtklbemkafdccgaaGreat

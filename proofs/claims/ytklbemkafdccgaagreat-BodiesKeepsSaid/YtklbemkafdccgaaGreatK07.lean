/- Several texts in one: BdKey, BdEntry. -/
import Derived.Test.YtklbemkafdccgaaGreatK05
import Derived.Test.YtklbemkafdccgaaGreatK06
import Derived.DeepKeys3
import Derived.WideKeyEntry
/- bodies: traces as keys of a map; slices as values. -/
namespace Go.Proofs.YtklbemkafdccgaaGreat
open Go.RowKit
namespace Bds
open Mp Go.Maps
abbrev Str := List UInt8
/-- a trace: a sum, a size -/
abbrev TrK := { p : Nat × Nat // p.1 < 4294967296 ∧ p.2 < 9223372036854775808 }
def trP (b : Str) : TrK := ⟨(Crc.more 0 b, b.length % 9223372036854775808), Crc.more_lt _ _, Nat.mod_lt _ (by decide)⟩
def trV (p : TrK) : Value := .agg #[.int .u32 (p.1.1 : Int), .int .i64 (p.1.2 : Int)]
def trL (p : TrK) : Lit := .string (keyBytes [.int .u32 (p.1.1 : Int), .int .i64 (p.1.2 : Int)])
theorem trKeyed : Keyed Tryz.prog 198 := Keyed.of_law (deep_law (m := 3) (by decide) (by kernel_rfl) (by kernel_rfl) (by kernel_rfl))
theorem key_tr (p : TrK) : keyOf Tryz.prog 198 (trV p) = some (trL p) := by
 obtain ⟨⟨a, b⟩, h1, h2⟩ := p
 have e1 : (Lit.int .u32 (a : Int)).wf = true := by simp [Lit.wf, IntKind.min, IntKind.max, IntKind.signed, IntKind.bits]; omega
 have e2 : (Lit.int .i64 (b : Int)).wf = true := by simp [Lit.wf, IntKind.min, IntKind.max, IntKind.signed, IntKind.bits]; omega
 have hsz : ∃ m, Tryz.prog.types.size = m + 1 := ⟨Tryz.prog.types.size - 1, by kernel_rfl⟩
 obtain ⟨m, hm⟩ := hsz
 have h3 : ∀ q n, (Lit.int q n).wf = true → ∀ e, Tryz.prog.underlying e = some (.int q) → Tryz.prog.keyLits (m + 1) e [.int q n] = some [.int q n] := fun q n hw e he => by
  unfold Program.keyLits
  rw [he]
  simp [hw]
 unfold keyOf
 rw [Tryz.underlying198]
 simp only
 rw [if_pos (show (Tryz.prog.keyType 198 && Value.formed Tryz.prog 198 (trV ⟨(a, b), h1, h2⟩)) = true from by kernel_rfl)]
 rw [hm]
 have h4 : Tryz.prog.keyLits (m + 1 + 1) 198 (trV ⟨(a, b), h1, h2⟩).cells.toList = some [.int .u32 (a : Int), .int .i64 (b : Int)] := by
  unfold Program.keyLits
  rw [Tryz.underlying198]
  simp only
  rw [if_pos ⟨by kernel_rfl, by kernel_rfl⟩]
  have g1 := h3 _ _ e1 _ Tryz.underlying196
  have g2 := h3 _ _ e2 _ Tryz.underlying3
  have c1 : Tryz.prog.cellsOf 196 = 1 := by kernel_rfl
  have c2 : Tryz.prog.cellsOf 3 = 1 := by kernel_rfl
  simp [trV, Value.cells, c1, c2, g1, g2]
 rw [h4]
 rfl
theorem trKind : Kind trL := ⟨fun _ => trivial, fun a b h => by
 have ha := key_tr a
 have hb := key_tr b
 rw [← h] at hb
 have := trKeyed.inj ha hb
 unfold trV at this
 simp only [Value.agg.injEq, Array.mk.injEq, List.cons.injEq, Value.int.injEq, true_and, and_true] at this
 exact Subtype.ext (Prod.ext (by omega) (by omega))⟩
end Bds
end Go.Proofs.YtklbemkafdccgaaGreat

/- Maps whose values are slices: how a value reads; m[k] = append(m[k], ..): the entry first, its store later. -/
namespace Go.Proofs.YtklbemkafdccgaaGreat
open Go.RowKit
namespace Bds
open Mp Go.Maps
open Go.ChangeMaps
/-- a slice's value, whatever it points to -/
structure SlQ where
 p : Option Addr
 n : Nat
 c : Nat
def SlQ.v (s : SlQ) : Value := .slice s.p s.n s.c
def sq0 : SlQ := ⟨none, 0, 0⟩
def slqD (s : SlQ) : DataW Unit := .agg (litN s.n :: litN s.c :: (match s.p with | none => [] | some a => [litN a.block, litN a.off, litN (match a.spot with | none => 0 | some k => k + 1)]))
theorem slqD_inj {a b : SlQ} (h : slqD a = slqD b) : a = b := by
 obtain ⟨p, n, c⟩ := a
 obtain ⟨q, m, d⟩ := b
 cases p <;> cases q <;> simp [slqD, litN] at h
 ·obtain ⟨h1, h2⟩ := h
  have e1 : n = m := by omega
  have e2 : c = d := by omega
  subst e1; subst e2; rfl
 ·rename_i x y
  obtain ⟨x1, x2, x3⟩ := x
  obtain ⟨y1, y2, y3⟩ := y
  obtain ⟨h1, h2, h3, h4, h5⟩ := h
  have e1 : n = m := by omega
  have e2 : c = d := by omega
  simp only at h3 h4 h5
  have e3 : x1 = y1 := by omega
  have e4 : x2 = y2 := by omega
  subst e1; subst e2; subst e3; subst e4
  cases x3 <;> cases y3 <;> simp at h5
  ·rfl
  ·omega
  ·omega
  ·have e5 : ∀ i j : Nat, (i : Int) = j → i = j := fun i j h => by omega
   rw [e5 _ _ h5]
def slqElem : Value → Option (DataW Unit × List MemPlace)
 | .slice p n c => some (slqD ⟨p, n, c⟩, [])
 | _ => none
theorem slqElem_mk (s : SlQ) : slqElem s.v = some (slqD s, []) := rfl
theorem slqElem_inv {v : Value} {s : SlQ} {ps : List MemPlace} (h : slqElem v = some (slqD s, ps)) : v = s.v := by
 unfold slqElem at h
 split at h
 ·simp only [Option.some.injEq, Prod.mk.injEq] at h
  rw [← slqD_inj h.1]
  rfl
 ·cases h
theorem trLaw : WideMaps.KeyLaw Tryz.prog 198 := deep_law (m := 3) (by decide) (by kernel_rfl) (by kernel_rfl) (by kernel_rfl)
theorem zeroI_run (w : World) : (zeroValue 57).run Tryz.prog w = .ok (.slice none 0 0) w := by kernel_rfl
theorem zeroB_run (w : World) : (zeroValue 51).run Tryz.prog w = .ok (.slice none 0 0) w := by kernel_rfl
theorem mods_set {w : World} {b : Nat} {o o' : Obj} (_h : w.heap[b]? = some o) : Mods (· = b) w (setBlock w b o') :=
 ⟨rfl, rfl, rfl, by simp [setBlock], fun k _ hn => by simp only [setBlock]; rw [Array.getElem?_setIfInBounds_ne (fun e => hn e.symm)]⟩
theorem set_same {w : World} {b : Nat} {o o' : Obj} (h : w.heap[b]? = some o) : (setBlock w b o').heap[b]? = some o' := by
 have := (Array.getElem?_eq_some_iff.1 h).1
 simp [setBlock, this]
/-- m[k] = f(m[k]) on a map of slices by traces: the entry's value; what its store leaves, whatever was done elsewhere since -/
theorem entry_run {w : World} {b n : Nat} {D : DataW Unit} (h : w.ownsMap Tryz.prog 198 slqElem b n D) (hn : n < 1000000) (p : TrK) :
  ∃ (s : SlQ) (st : Int) (w1 : World) (o1 : Obj), (Instr.mapEntry 149 (.map (some b)) (trV p)).run Tryz.prog w = .ok (.tuple #[s.v, .int .i64 st]) w1 ∧ D.atKey (trL p) (slqD sq0) = slqD s ∧ Mods (· = b) w w1 ∧ w1.heap[b]? = some o1 ∧ (∀ cs e fr, o1 ≠ .cells cs e fr) ∧
   ∀ (w2 : World) (u : SlQ), w2.heap[b]? = some o1 → ∃ w3, (Instr.entryStore 149 (.map (some b)) (.int .i64 st) u.v).run Tryz.prog w2 = .ok () w3 ∧ w3.ownsMap Tryz.prog 198 slqElem b (n + 1) (D.put (trL p) (slqD u)) ∧ Mods (· = b) w2 w3 := by
 have hst := fun (u : SlQ) => h.store trKeyed Tryz.underlying149 (by unfold maxLen; omega) (val := u.v) (d := slqD u) (ps := []) (key_tr p) (slqElem_mk u)
 obtain ⟨es, clock, hb, F, hsz, rfl⟩ := h
 obtain ⟨v0, st, es1, clock1, h1, h2, h3⟩ := Go.WideElems.entry_then_store trLaw Tryz.underlying149 (zeroI_run) hb F (key_tr p)
 obtain ⟨s1, s2, s3⟩ := F.stamped
 have hv : ∃ s : SlQ, v0 = s.v ∧ (DataW.map ((es.toList.map (Go.WideElems.rg Tryz.prog 198 slqElem)).foldr DataW.insert [])).atKey (trL p) (slqD sq0) = slqD s := by
  rcases Maps.fit_look false trKeyed Tryz.underlying149 (zeroI_run w) hb F (key_tr p) with ⟨-, hno, hat⟩ | ⟨e0, y, hm, hk, -, hR, hat, -⟩
  ·rcases h2 with ⟨e1, he, hk1, -⟩ | ⟨-, hz⟩
   ·exact absurd hk1 (hno e1 he)
   ·exact ⟨sq0, hz, hat _⟩
  ·rcases h2 with ⟨e1, he, hk1, hv1⟩ | ⟨hno, -⟩
   ·have : e1 = e0 := by
     obtain ⟨i, hi, rfl⟩ := List.getElem_of_mem he
     obtain ⟨j, hj, rfl⟩ := List.getElem_of_mem hm
     have hp := List.pairwise_iff_getElem.1 (List.pairwise_map.1 s3)
     rcases Nat.lt_trichotomy i j with hlt | hlt | hlt
     ·exact absurd (hk1.trans hk.symm) (hp i j hi hj hlt)
     ·subst hlt; rfl
     ·exact absurd (hk.trans hk1.symm) (hp j i hj hi hlt)
    subst this
    unfold slqElem at hR
    split at hR
    ·rename_i p' n' c' heq
     simp only [Option.some.injEq] at hR
     exact ⟨⟨p', n', c'⟩, by rw [hv1, heq]; rfl, by rw [hat, ← hR]⟩
    ·cases hR
   ·exact absurd hk (hno e0 hm)
 obtain ⟨s, rfl, hs⟩ := hv
 refine ⟨s, st, setBlock w b (.map es1 clock1), .map es1 clock1, h1, hs, mods_set hb, set_same hb, fun cs e fr => by simp, fun w2 u hw2 => ?_⟩
 obtain ⟨es', clock', h4, h5⟩ := h3 w2 u.v hw2
 obtain ⟨w', hrun, ho, -⟩ := hst u
 rw [h5] at hrun
 simp only [Result.ok.injEq, true_and] at hrun
 subst hrun
 refine ⟨setBlock w2 b (.map es' clock'), h4, ?_, mods_set hw2⟩
 obtain ⟨es2, cl2, hb2, F2, hs2, hD2⟩ := ho
 rw [set_same hb] at hb2
 simp only [Option.some.injEq, Obj.map.injEq] at hb2
 obtain ⟨rfl, rfl⟩ := hb2
 exact ⟨es', clock', set_same hw2, F2, hs2, hD2⟩
end Bds
end Go.Proofs.YtklbemkafdccgaaGreat

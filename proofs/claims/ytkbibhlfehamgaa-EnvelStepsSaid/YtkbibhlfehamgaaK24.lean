/- Several texts in one: FrameSame, TxOne, TxRepPlain. -/
import Derived.Test.YtkbibhlfehamgaaFrameAwake
import Derived.Test.YtkbibhlfehamgaaDrawn
import Derived.Test.YtkbibhlfehamgaaK06
import Derived.Test.YtkbibhlfehamgaaK22
import Derived.Test.YtkbibhlfehamgaaMid
/- The reference's Same and SameGaps: of what is the same they say so. -/
namespace Go.Proofs.Ytkbibhlfehamgaa
open Go.RowKit
namespace Frm
open Oct

theorem fr_at {l : List (Fr1 × Value)} {i : Nat} (h : i < l.length) {j : Nat} (hj : j < 4) : (l.flatMap frC)[i * 4 + j]? = (frC l[i])[j]? := flat_get frC_len l i j _ (List.getElem?_eq_getElem h) hj
/-- one frame of a list in memory: its cells and its payload -/
theorem FramesAt.one {w : World} {base : Nat} {p : Option Addr} {n cap : Nat} {l : List (Fr1 × Value)} (h : FramesAt w base (.slice p n cap) l) {j : Nat} (hj : j < l.length) : ∃ g, p = some ⟨g, 0, none⟩ ∧ (w.cell? ⟨g, j * 4, none⟩ = some (.int .i64 l[j].1.at') ∧ w.cell? ⟨g, j * 4 + 1, none⟩ = some (.int .i64 l[j].1.len) ∧ w.cell? ⟨g, j * 4 + 2, none⟩ = some (.int .i64 l[j].1.kind) ∧ w.cell? ⟨g, j * 4 + 3, none⟩ = some l[j].2) ∧ Row w l[j].2 (l[j].1.pay.map u8v) := by
 obtain ⟨g, cap', hv, -, -, -, hc⟩ := ownsRow_at h.own (by omega)
 simp only [Value.slice.injEq] at hv
 obtain ⟨rfl, -, rfl⟩ := hv
 refine ⟨g, rfl, ⟨hc (j * 4 + 0) _ (by rw [fr_at hj (by omega)]; rfl), hc (j * 4 + 1) _ (by rw [fr_at hj (by omega)]; rfl), hc (j * 4 + 2) _ (by rw [fr_at hj (by omega)]; rfl), hc (j * 4 + 3) _ (by rw [fr_at hj (by omega)]; rfl)⟩, (h.pay _ (List.getElem_mem hj)).row⟩

end Frm
end Go.Proofs.Ytkbibhlfehamgaa

/- txlog.one. -/
namespace Go.Proofs.Ytkbibhlfehamgaa
open Go.RowKit
namespace Txl
open Oct Frm
theorem frM : Mids Try.prog 53 4 := ⟨⟨_, Try.underlying53, rfl⟩, by kernel_rfl⟩
/-- a row of frames that is read alone -/
structure FrmsR (w : World) (base : Nat) (v : Value) (l : List (Fr1 × Value)) : Prop where
 row : RowS w 4 v l.length (l.flatMap frC)
 pay : ∀ x ∈ l, Piece w base 5 x.2 (x.1.pay.map u8v)
 len : ∀ x ∈ l, x.1.pay.length ≤ 35184372088832
 ty : ∀ b off n cap, v = .slice (some ⟨b, off, none⟩) n cap → 0 < n → ∃ cs fr, w.heap[b]? = some (.cells cs 53 fr)
section
variable {w w' : World} {base : Nat} {v : Value} {l : List (Fr1 × Value)}
theorem FrmsR.keeps (h : FrmsR w base v l) (k : Keeps w w') : FrmsR w' base v l := ⟨h.row.keeps k, fun x hx => (h.pay x hx).keeps k, h.len, fun b off n cap hv hn => by
 obtain ⟨cs, fr, hh⟩ := h.ty b off n cap hv hn
 exact ⟨cs, fr, by rw [k.block (Array.getElem?_eq_some_iff.1 hh).1]; exact hh⟩⟩
theorem FrmsR.form (h : FrmsR w base v l) : ∃ p cap, v = .slice p l.length cap ∧ l.length ≤ cap ∧ cap ≤ 9223372036854775807 := h.row.form
theorem FrmsR.at_ (h : FrmsR w base v l) {j : Nat} (hj : j < l.length) : ∃ b off cap, v = .slice (some ⟨b, off, none⟩) l.length cap ∧ w.rangeAt b (off + j * 4) (frC l[j]) := by
 obtain ⟨b, off, cap, hv, -, -, hc⟩ := RowS.at_ h.row (by omega)
 refine ⟨b, off, cap, hv, fun i x hx => ?_⟩
 have hi : i < 4 := by
  have := (List.getElem?_eq_some_iff.1 hx).1
  simpa [frC] using this
 rw [Nat.add_assoc]
 refine hc.out (j * 4 + i) x ?_
 rw [flat_get frC_len l j i _ (List.getElem?_eq_getElem hj) hi]
 exact hx
theorem FrmsR.cut {p : Option Addr} {cap : Nat} (h : FrmsR w base (.slice p l.length cap) l) {lo hi : Nat} (h1 : lo ≤ hi) (h2 : hi ≤ l.length) : FrmsR w base (cutS 4 p lo hi cap) ((l.drop lo).take (hi - lo)) := by
 have hp := RowS.part frC_len h.row h1 h2
 refine ⟨?_, fun x hx => h.pay x (List.mem_of_mem_drop (List.mem_of_mem_take hx)), fun x hx => h.len x (List.mem_of_mem_drop (List.mem_of_mem_take hx)), fun b off n c hv hn => ?_⟩
 ·have e : ((l.drop lo).take (hi - lo)).length = hi - lo := by rw [List.length_take, List.length_drop]; omega
  rw [e]
  exact hp
 ·unfold cutS at hv
  simp only [Value.slice.injEq] at hv
  obtain ⟨h3, h4, -⟩ := hv
  have hl : 0 < l.length := by omega
  cases p with
  | none => split at h3 <;> simp at h3
  | some a =>
   obtain ⟨b0, o0, s0⟩ := a
   obtain ⟨b1, o1, c1, hv1, -⟩ := RowS.at_ h.row hl
   simp only [Value.slice.injEq, Option.some.injEq, Addr.mk.injEq] at hv1
   obtain ⟨⟨rfl, rfl, rfl⟩, -, -⟩ := hv1
   have hb : b0 = b := by
    split at h3
    ·simp only [Option.some.injEq, Addr.mk.injEq] at h3; exact h3.1
    ·simp only [Option.map_some, Option.some.injEq, Go.WideShapes.add_plain, Addr.mk.injEq] at h3; exact h3.1
   subst hb
   exact h.ty b0 o0 l.length cap rfl hl
theorem FrmsR.modsT {S : Nat → Prop} (h : FrmsR w base v l) (k : Mods S w w') (h1 : ∀ x, S x → ∀ cs fr, w.heap[x]? ≠ some (.cells cs 53 fr)) (h2 : ∀ x, S x → ∀ cs fr, w.heap[x]? ≠ some (.cells cs 5 fr)) : FrmsR w' base v l := by
 have hn : ∀ b off n cap, v = .slice (some ⟨b, off, none⟩) n cap → 0 < n → ¬ S b := fun b off n cap hv hp hs => by
  obtain ⟨cs, fr, hh⟩ := h.ty b off n cap hv hp
  exact h1 b hs cs fr hh
 refine ⟨⟨h.row.1, ?_⟩, fun x hx => (h.pay x hx).modsT k h2, h.len, fun b off n cap hv hp => ?_⟩
 ·rcases h.row.2 with h3 | ⟨b, off, cap, hv, g1, g2, g3⟩
  ·exact .inl h3
  ·by_cases hz : l.length = 0
   ·have : l = [] := List.eq_nil_of_length_eq_zero hz
    subst this
    exact .inr ⟨b, off, cap, hv, g1, g2, fun i x hx => by simp at hx⟩
   ·exact .inr ⟨b, off, cap, hv, g1, g2, fun i x hx => k.cell (g3 i x hx) (hn b off _ cap hv (by omega))⟩
 ·obtain ⟨cs, fr, hh⟩ := h.ty b off n cap hv hp
  exact ⟨cs, fr, k.heap hh (hn b off n cap hv hp)⟩
end
def itemB (f : Fr1) : Bool := decide (f.kind = 33) && decide (f.pay.length ≤ 4096)
/-- how many items the transaction n has that the frames begin with; none: they begin with none -/
def oneK (n : Nat) (fs : List Fr1) : Option Nat := match fs with
 | [] => none
 | f :: r => if beginB n f = true ∧ cntP f.pay < r.length ∧ commitB n (r.getD (cntP f.pay) ⟨0, 0, 0, []⟩) = true ∧ (r.take (cntP f.pay)).all itemB = true then some (cntP f.pay) else none
def txZero : Array Value := #[.int .i64 0, .slice none 0 0]
def OneDid (W : World) (n : Nat) (fs : List (Fr1 × Value)) (r : Option Nat) (e : Ending) (w' : World) : Prop := Keeps W w' ∧ match r with
 | none => e = .returned (.tuple #[.agg #[.int .i64 0, .slice none 0 0], .int .i64 0, .bool false])
 | some c => ∃ iv, e = .returned (.tuple #[.agg #[.int .i64 (n : Int), iv], .int .i64 ((c : Int) + 2), .bool true]) ∧ Own w' W.heap.size 22 iv (((fs.drop 1).take c).map (·.2))
end Txl
end Go.Proofs.Ytkbibhlfehamgaa

/- The transactions of frames, plain. -/
namespace Go.Proofs.Ytkbibhlfehamgaa
open Go.RowKit
namespace Txl
open Oct Frm
def lenS (fs : List Fr1) : Int := (fs.map (·.len)).sum
theorem lenS_cons (f : Fr1) (fs : List Fr1) : lenS (f :: fs) = f.len + lenS fs := by simp [lenS]
theorem lenS_nn {fs : List Fr1} (h : ∀ f ∈ fs, 0 ≤ f.len) : 0 ≤ lenS fs := by
 induction fs with
 | nil => simp [lenS]
 | cons f fs ih =>
  rw [lenS_cons]
  have h1 := h f (List.mem_cons_self ..)
  have h2 := ih (fun x hx => h x (List.mem_cons_of_mem _ hx))
  omega
/-- what a row of frames has -/
theorem rowN_all (l : List UInt8) : ∀ (k u : Nat), u ≤ l.length → (∀ f ∈ (rowN l k u).1, 0 ≤ f.len ∧ f.pay.length ≤ l.length) ∧ (u : Int) + lenS (rowN l k u).1 = ((rowN l k u).2.1 : Int) ∧ (rowN l k u).2.1 ≤ l.length ∧ (rowN l k u).1.length + u ≤ (rowN l k u).2.1
 | 0, u, h => by simp [rowN, lenS, h]
 | k + 1, u, h => by
  by_cases hu : u < l.length
  ·by_cases he : atE l u = 0
   ·obtain ⟨h1, h2, h3⟩ := atE_len he
    have hp := atE_pay he
    obtain ⟨m, hm⟩ := Int.eq_ofNat_of_zero_le h3
    rw [rowN_ok hu he]
    have hm2 : (atF l u).len.toNat = m := by omega
    rw [hm2]
    obtain ⟨i1, i2, i3, i4⟩ := rowN_all l k (u + m) (by omega)
    refine ⟨?_, ?_, i3, ?_⟩
    ·intro f hf
     rcases List.mem_cons.1 hf with rfl | hf
     ·exact ⟨h3, hp⟩
     ·exact i1 f hf
    ·rw [lenS_cons]
     simp only at i2 ⊢
     omega
    ·simp only [List.length_cons]
     omega
   ·rw [rowN_err hu he]
    simp [lenS, h]
  ·rw [rowN_end hu]
   simp [lenS, h]
theorem rowR_all (l : List UInt8) : (∀ f ∈ (rowR l).1, 0 ≤ f.len ∧ f.pay.length ≤ l.length) ∧ lenS (rowR l).1 ≤ (l.length : Int) ∧ (rowR l).1.length ≤ l.length := by
 obtain ⟨h1, h2, h3, h4⟩ := rowN_all l l.length 0 (Nat.zero_le _)
 refine ⟨h1, ?_, ?_⟩
 ·show lenS (rowN l l.length 0).1 ≤ _
  omega
 ·show (rowN l l.length 0).1.length ≤ _
  omega
/-- the transactions from number n on, and how many bytes they have -/
def replayN : Nat → Nat → List Fr1 → List (Nat × List Item) × Int
 | 0, _, _ => ([], 0)
 | k + 1, n, fs => match oneK n fs with
  | none => ([], 0)
  | some c => ((n, ((fs.drop 1).take c).map (·.pay)) :: (replayN k (n + 1) (fs.drop (c + 2))).1, lenS (fs.take (c + 2)) + (replayN k (n + 1) (fs.drop (c + 2))).2)
def replayF (fs : List Fr1) : List (Nat × List Item) × Int := replayN fs.length 1 fs
end Txl
end Go.Proofs.Ytkbibhlfehamgaa

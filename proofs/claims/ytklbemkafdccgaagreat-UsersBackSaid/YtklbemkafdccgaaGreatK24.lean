/- Several texts in one: FrameRow, FrameScan. -/
import Derived.Test.YtklbemkafdccgaaGreatFrameAt
import Derived.Test.YtklbemkafdccgaaGreatK23
/- Lists of frames in memory; frame.Row. -/
namespace Go.Proofs.YtklbemkafdccgaaGreat
open Go.RowKit
namespace Frm
open Oct

def frC (x : Fr1 × Value) : List Value := [.int .i64 x.1.at', .int .i64 x.1.len, .int .i64 x.1.kind, x.2]
theorem frC_len (x : Fr1 × Value) : (frC x).length = 4 := rfl
def isSl : Value → Prop
 | .slice _ _ _ => True
 | _ => False

/-- a slice of frames of the call's own, their payloads new -/
structure FramesAt (w : World) (base : Nat) (v : Value) (l : List (Fr1 × Value)) : Prop where
 own : w.ownsRow base 238 4 v l.length (l.flatMap frC)
 pay : ∀ x ∈ l, Piece w base 5 x.2 (x.1.pay.map u8v)

section
variable {w w' : World} {base : Nat} {v : Value} {l : List (Fr1 × Value)}
theorem FramesAt.nil (w : World) (base : Nat) : FramesAt w base (.slice none 0 0) [] := ⟨World.ownsRow_nil w base _ 4, by simp⟩
theorem ownsRow_keeps {e : TypeId} {C n : Nat} {xs : List Value} (h : w.ownsRow base e C v n xs) (k : Keeps w w') : w'.ownsRow base e C v n xs := by
 refine ⟨h.1, ?_⟩
 rcases h.2 with hn | ⟨g, cap, cur, rfl, hb, hgg, rest⟩
 ·exact .inl hn
 ·exact .inr ⟨g, cap, cur, rfl, hb, by rw [k.block (Array.getElem?_eq_some_iff.1 hgg).1]; exact hgg, rest⟩
theorem FramesAt.keeps (h : FramesAt w base v l) (k : Keeps w w') : FramesAt w' base v l := ⟨ownsRow_keeps h.own k, fun x hx => (h.pay x hx).keeps k⟩
theorem ownsRow_ty {e e' : TypeId} {C n : Nat} {xs : List Value} (h : w.ownsRow base e C v n xs) (hne : e ≠ e') : ∀ x, v.ownBlock = some x → ∀ cs fr, w.heap[x]? ≠ some (.cells cs e' fr) := by
 intro x hx cs fr hc
 rcases h.2 with ⟨rfl, _⟩ | ⟨g, cap, cur, rfl, hb, hgg, rest⟩
 ·simp [Value.ownBlock] at hx
 ·simp [Value.ownBlock] at hx
  subst hx
  rw [hgg] at hc
  simp only [Option.some.injEq, Obj.cells.injEq] at hc
  exact hne hc.2.1
theorem ownsRow_base {e : TypeId} {C n : Nat} {xs : List Value} (h : w.ownsRow base e C v n xs) : ∀ x, v.ownBlock = some x → base ≤ x := by
 intro x hx
 rcases h.2 with ⟨rfl, _⟩ | ⟨g, cap, cur, rfl, hb, hgg, rest⟩
 ·simp [Value.ownBlock] at hx
 ·simp [Value.ownBlock] at hx
  omega
theorem ownsRow_form {e : TypeId} {C n : Nat} {xs : List Value} (h : w.ownsRow base e C v n xs) : ∃ p cap, v = .slice p n cap ∧ n ≤ cap ∧ cap ≤ 9223372036854775807 := by
 rcases h.2 with ⟨rfl, rfl⟩ | ⟨g, cap, cur, rfl, hb, hgg, h1, h2, rest⟩
 ·exact ⟨none, 0, rfl, Nat.le_refl _, by omega⟩
 ·exact ⟨_, cap, rfl, h1, by simpa [maxLen] using h2⟩
/-- behind an append of one frame -/
theorem FramesAt.snoc {v' : Value} {f : Fr1} {pv : Value} (h : FramesAt w base v l) (hp : Piece w base 5 pv (f.pay.map u8v)) (ho : w'.ownsRow base 238 4 v' (l.length + 1) (l.flatMap frC ++ frC (f, pv))) (hg : w.grownBy w' v.ownBlock) : FramesAt w' base v' (l ++ [(f, pv)]) := by
 have hM : Mods (fun x => v.ownBlock = some x) w w' := (Mods.refl _ w).grown hg (fun k hk _ => hk)
 have hty := ownsRow_ty (e' := 5) h.own (by decide)
 refine ⟨by simpa using ho, ?_⟩
 intro x hx
 rcases List.mem_append.1 hx with hx | hx
 ·exact (h.pay x hx).modsT hM hty
 ·simp at hx
  subst hx
  exact hp.modsT hM hty
end

theorem rowS_lit {w : World} {b C : Nat} {cs : Array Value} {e : TypeId} {l : List Value} (hb : b = w.heap.size) (hl : cs.toList = l) (hC : l.length = C) : RowS (w.alloc (.cells cs e)) C (.slice (some ⟨b, 0, none⟩) 1 1) 1 l := by
 subst hb hl
 refine ⟨by simpa using hC, .inr ⟨w.heap.size, 0, 1, rfl, Nat.le_refl _, by simp [maxLen], fun i x hx => ?_⟩⟩
 rw [Nat.zero_add, cell_alloc_new]
 simpa using hx

/-- frames, a number and an error -/
def RowDid (W : World) (fs : List Fr1) (u : Nat) (n : Int) (e : Ending) (w' : World) : Prop :=
 ∃ v l, e = .returned (.tuple #[v, .int .i64 (u : Int), .int .i64 n]) ∧ FramesAt w' W.heap.size v l ∧ l.map (·.1) = fs ∧ Keeps W w'

end Frm
end Go.Proofs.YtklbemkafdccgaaGreat

/- frame.Scan. -/
namespace Go.Proofs.YtklbemkafdccgaaGreat
open Go.RowKit
namespace Frm
open Oct

def gapC (g : Gap1) : List Value := [.int .i64 g.fro, .int .i64 g.to]
def GapsAt (w : World) (base : Nat) (v : Value) (gl : List Gap1) : Prop := w.ownsRow base 269 2 v gl.length (gl.flatMap gapC)
section
variable {w w' : World} {base : Nat} {v : Value}
theorem ownsRow_mods {e : TypeId} {C n : Nat} {xs : List Value} {S : Nat → Prop} (h : w.ownsRow base e C v n xs) (k : Mods S w w') (hn : ∀ x, v.ownBlock = some x → ¬ S x) : w'.ownsRow base e C v n xs := by
 refine ⟨h.1, ?_⟩
 rcases h.2 with h0 | ⟨g, cap, cur, rfl, hb, hgg, rest⟩
 ·exact .inl h0
 ·exact .inr ⟨g, cap, cur, rfl, hb, k.heap hgg (hn g rfl), rest⟩
theorem FramesAt.mods {l : List (Fr1 × Value)} {S : Nat → Prop} (h : FramesAt w base v l) (k : Mods S w w') (hn : ∀ x, S x → ∀ cs fr, w.heap[x]? ≠ some (.cells cs 5 fr)) (hn' : ∀ x, S x → ∀ cs fr, w.heap[x]? ≠ some (.cells cs 238 fr)) : FramesAt w' base v l := by
 refine ⟨ownsRow_mods h.own k (fun x hx hs => ?_), fun x hx => (h.pay x hx).modsT k hn⟩
 rcases h.own.2 with ⟨rfl, _⟩ | ⟨g, cap, cur, rfl, hb, hgg, rest⟩
 ·simp [Value.ownBlock] at hx
 ·simp [Value.ownBlock] at hx
  subst hx
  exact hn' g hs _ _ hgg
theorem GapsAt.nil (w : World) (base : Nat) : GapsAt w base (.slice none 0 0) [] := World.ownsRow_nil w base _ 2
end

theorem alloc_size (w : World) (o : Obj) : (w.alloc o).heap.size = w.heap.size + 1 := by show (w.heap.push o).size = _; simp

theorem blk_tyne {w : World} {g g' : Nat} {t t' : TypeId} {cs cs' : Array Value} (h : Blk w g t cs) (h' : Blk w g' t' cs') (hn : t ≠ t') : g ≠ g' := fun he => by
 subst he
 unfold Blk at h h'
 rw [h] at h'
 simp only [Option.some.injEq, Obj.cells.injEq] at h'
 exact hn h'.2.1
theorem ownsRow_ne {w : World} {base C n g : Nat} {e t : TypeId} {xs : List Value} {v : Value} {cs : Array Value} (h : w.ownsRow base e C v n xs) (hb : Blk w g t cs) (hn : e ≠ t) : v.ownBlock ≠ some g := fun hx => ownsRow_ty h hn g hx _ _ hb

def ShutDid (F G base : Nat) (f : Int) (gl' : List Gap1) (W : World) (gv : Value) (e : Ending) (w' : World) : Prop :=
 e = .returned (.tuple #[]) ∧ ∃ gv', Blk w' F 3 #[.int .i64 f] ∧ Blk w' G 234 #[gv'] ∧ GapsAt w' base gv' gl' ∧ Mods (fun x => x = G ∨ gv.ownBlock = some x) W w'

/-- frames and gaps -/
def ScanDid (W : World) (x : List Fr1 × List Gap1) (e : Ending) (w' : World) : Prop :=
 ∃ v l gv, e = .returned (.tuple #[v, gv]) ∧ FramesAt w' W.heap.size v l ∧ l.map (·.1) = x.1 ∧ GapsAt w' W.heap.size gv x.2 ∧ Keeps W w'

def glen (gl : List Gap1) (g u : Nat) : List Gap1 := if g < u then gl ++ [⟨g, u⟩] else gl
end Frm
end Go.Proofs.YtklbemkafdccgaaGreat

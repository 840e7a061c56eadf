/- The reference's Row. -/
import Derived.Test.YtekkjhjaacjhnaaFrameRefAt
import Derived.Test.YtekkjhjaacjhnaaFrameScan
namespace Go.Proofs.Ytekkjhjaacjhnaa
open Go.RowKit
namespace Frm
open Oct

def RRowDid (W : World) (fs : List Fr1) (u : Nat) (n : Int) (e : Ending) (w' : World) : Prop :=
  ∃ v l, e = .returned (.agg #[v, .int .i64 (u : Int), .int .i64 n]) ∧ FramesAt w' W.heap.size v l ∧ l.map (·.1) = fs ∧ Keeps W w'

/-- a store into a block of another type leaves a list of frames -/
theorem FramesAt.store {w : World} {base g i : Nat} {t : TypeId} {cs : Array Value} {v : Value} {l : List (Fr1 × Value)} (h : FramesAt w base v l) (hb : Blk w g t cs) (h1 : t ≠ 5) (h2 : t ≠ 161) (u : Value) : FramesAt (w.setCell ⟨g, i, none⟩ u) base v l := by
  have hM : Mods (· = g) w (w.setCell ⟨g, i, none⟩ u) := Mods.setCell (p := ⟨g, i, none⟩) (Mods.refl (· = g) w) (fun _ => rfl) u
  refine h.mods hM ?_ ?_
  all_goals
    rintro x rfl cs' fr hx
    unfold Blk at hb
    rw [hb] at hx
    simp only [Option.some.injEq, Obj.cells.injEq] at hx
    first | exact h1 hx.2.1 | exact h2 hx.2.1

theorem rowLine0 {W : World} {g i : Nat} {w : World} (hk : Keeps W w) (h : W.heap.size ≤ g) (u : Value) : Keeps W (w.setCell ⟨g, i, none⟩ u) := hk.setCell (p := ⟨g, i, none⟩) h u

end Frm
end Go.Proofs.Ytekkjhjaacjhnaa

/- frame.Scan. -/
import Derived.Test.YtohchhgheeolpaaFrameRow
namespace Go.Proofs.Ytohchhgheeolpaa
open Go.RowKit
namespace Frm
open Oct

def gapC (g : Gap1) : List Value := [.int .i64 g.fro, .int .i64 g.to]
section
variable {w w' : World} {base : Nat} {v : Value}
theorem ownsRow_mods {e : TypeId} {C n : Nat} {xs : List Value} {S : Nat → Prop} (h : w.ownsRow base e C v n xs) (k : Mods S w w') (hn : ∀ x, v.ownBlock = some x → ¬ S x) : w'.ownsRow base e C v n xs := by
  refine ⟨h.1, ?_⟩
  rcases h.2 with h0 | ⟨g, cap, cur, rfl, hb, hgg, rest⟩
  · exact .inl h0
  · exact .inr ⟨g, cap, cur, rfl, hb, k.heap hgg (hn g rfl), rest⟩
theorem FramesAt.mods {l : List (Fr1 × Value)} {S : Nat → Prop} (h : FramesAt w base v l) (k : Mods S w w') (hn : ∀ x, S x → ∀ cs fr, w.heap[x]? ≠ some (.cells cs 5 fr)) (hn' : ∀ x, S x → ∀ cs fr, w.heap[x]? ≠ some (.cells cs 161 fr)) : FramesAt w' base v l := by
  refine ⟨ownsRow_mods h.own k (fun x hx hs => ?_), fun x hx => (h.pay x hx).modsT k hn⟩
  rcases h.own.2 with ⟨rfl, _⟩ | ⟨g, cap, cur, rfl, hb, hgg, rest⟩
  · simp [Value.ownBlock] at hx
  · simp [Value.ownBlock] at hx
    subst hx
    exact hn' g hs _ _ hgg
end

theorem alloc_size (w : World) (o : Obj) : (w.alloc o).heap.size = w.heap.size + 1 := by show (w.heap.push o).size = _; simp

theorem mods_set (w : World) (g : Nat) (u : Value) : Mods (fun x => x = g) w (w.setCell ⟨g, 0, none⟩ u) := (Mods.refl (fun x => x = g) w).setCell (p := ⟨g, 0, none⟩) (fun _ => rfl) u
theorem blk_tyne {w : World} {g g' : Nat} {t t' : TypeId} {cs cs' : Array Value} (h : Blk w g t cs) (h' : Blk w g' t' cs') (hn : t ≠ t') : g ≠ g' := fun he => by
  subst he
  unfold Blk at h h'
  rw [h] at h'
  simp only [Option.some.injEq, Obj.cells.injEq] at h'
  exact hn h'.2.1
theorem ownsRow_ne {w : World} {base C n g : Nat} {e t : TypeId} {xs : List Value} {v : Value} {cs : Array Value} (h : w.ownsRow base e C v n xs) (hb : Blk w g t cs) (hn : e ≠ t) : v.ownBlock ≠ some g := fun hx => ownsRow_ty h hn g hx _ _ hb

def glen (gl : List Gap1) (g u : Nat) : List Gap1 := if g < u then gl ++ [⟨g, u⟩] else gl
theorem glen_len (gl : List Gap1) (g u : Nat) : (glen gl g u).length ≤ gl.length + 1 := by unfold glen; split <;> simp
theorem glen_app (gl r : List Gap1) (g u : Nat) : gl ++ ((if g < u then [⟨g, u⟩] else []) ++ r) = glen gl g u ++ r := by unfold glen; split <;> simp
theorem glen_int (gl : List Gap1) (g u : Nat) : (if (g : Int) < (u : Int) then gl ++ [⟨g, u⟩] else gl) = glen gl g u := by
  unfold glen
  by_cases h : g < u
  · rw [if_pos h, if_pos (by omega)]
  · rw [if_neg h, if_neg (by omega)]

end Frm
end Go.Proofs.Ytohchhgheeolpaa

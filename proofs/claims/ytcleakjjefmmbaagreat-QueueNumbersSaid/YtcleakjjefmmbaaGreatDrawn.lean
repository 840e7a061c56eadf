/- Regions that draw their order, walked by hand: the condition on the world may be made stronger on the way. For every program. -/
import Derived.Test.YtcleakjjefmmbaaGreatK00
import Derived.Deep.RegionHeld3
namespace Go.Proofs.YtcleakjjefmmbaaGreat

theorem wpAnyH_more {P : Program} {md : Region.Mode} {ops : Array Oper} {Q : Exit → Act → World → Prop} {S S' : World → Prop} (hs : ∀ w, S' w → S w) :
  ∀ {n : Nat} {l : Array Bool} {a : Act} {w : World}, wpAnyH P md ops Q S' n l a w → wpAnyH P md ops Q S n l a w := by
 intro n
 induction n with
 |zero => exact fun h => h
 |succ n ih => exact fun h => ⟨h.1, fun i hi => wpOp_mono (fun a' w' h' => ⟨hs _ h'.1, ih h'.2⟩) (h.2 i hi)⟩

section
variable {P : Program} {ops : Array Oper} {Q : Exit → Act → World → Prop} {md : Region.Mode} {S : World → Prop}
/-- number i is taken; its value goes into slot d -/
theorem tq (i d : Nat) {oi : Oper} {v : Value} {fuel : Nat} {listed : Array Bool} {a a' : Act} {w : World} (h : wpAnyH P md ops Q S fuel (listed.setIfInBounds i true) a' w)
  (hi : ops[i]? = some oi := by rfl) (hs : Region.noSelect ops = true := by kernel_rfl) (hf : Region.free md ops listed i = true := by kernel_rfl)
  (hr : (Region.ready md ops listed).contains i = true := by kernel_rfl) (hd : oi.dst = some d := by rfl)
  (hQ : ∀ c a w, Q (.panic c) (a.put (some d) v) w → Q (.panic c) a w := by intro _ _ _ h; exact h)
  (hw : Region.wanted oi (yielded ops a.tmps) = true := by kernel_rfl)
  (hy : ∀ w', S w' → (execOp a.eval oi).run P w' = .ok (.value v) w' := by intro w' hSw; clear hSw; go_simp; try with_reducible rfl)
  (hS : S w := by assumption)
  (ha : a.put (some d) v = a' := by (try simp only [Act.put, List.setIfInBounds_toArray, List.set_cons_zero, List.set_cons_succ]); rfl) : wpAnyH P md ops Q S (fuel + 1) listed a w := by
 subst ha
 rw [← hd] at h hQ
 exact wpAnyH_take hi hs hf hr hQ (.inl ⟨hw, hy⟩) hS h
/-- number i alone comes up -/
theorem rd1 (i : Nat) {o : Oper} {fuel : Nat} {listed : Array Bool} {a : Act} {w : World}
  (h : ∀ K' : Act → World → Prop, Shut (∀ a w, S w → (S w → wpAnyH P md ops Q S fuel (listed.setIfInBounds i true) a w) → K' a w) → if Region.wanted o (yielded ops a.tmps) = true then Oper.wp P o a w K' Q else K' (a.put o.dst undef) w)
  (hr : Region.ready md ops listed = [i] := by kernel_rfl) (ho : ops[i]? = some o := by rfl) : wpAnyH P md ops Q S (fuel + 1) listed a w :=
 wpAnyH_ready hr (by simp) (AllReadyH.cons ho h AllReadyH.nil)
/-- back into the region -/
theorem bkm {K : Act → World → Prop} {n : Nat} {l : Array Bool} (hK : Shut (∀ a w, S w → (S w → wpAnyH P md ops Q S n l a w) → K a w)) {w : World} (hb : S w) {a a' : Act}
  (h : wpAnyH P md ops Q S n l a' w) (ha : a = a' := by (try simp only [Act.put, List.setIfInBounds_toArray, List.set_cons_zero, List.set_cons_succ]); rfl) : K a w := by
 subst ha
 exact hK.out _ _ hb (fun _ => h)
/-- back into the region, which goes on from this world -/
theorem bk1 {K : Act → World → Prop} {n : Nat} {l : Array Bool} {W w : World} (hK : Shut (∀ a w, Keeps W w → (Keeps W w → wpAnyH P md ops Q (fun w' => Keeps W w') n l a w) → K a w)) (hb : Keeps W w) {a a' : Act}
  (h : Keeps w w → wpAnyH P md ops Q (fun w' => Keeps w w') n l a' w) (ha : a = a' := by (try simp only [Act.put, List.setIfInBounds_toArray, List.set_cons_zero, List.set_cons_succ]); rfl) : K a w := by
 subst ha
 exact hK.out _ _ hb (fun _ => wpAnyH_more (fun _ h => hb.trans h) (h (Keeps.refl _)))
end

end Go.Proofs.YtcleakjjefmmbaaGreat

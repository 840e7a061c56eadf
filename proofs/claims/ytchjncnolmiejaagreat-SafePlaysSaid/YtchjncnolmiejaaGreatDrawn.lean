/- Regions that draw their order, walked by hand: the condition on the world may be made stronger on the way. For every program. -/
import Derived.Test.YtchjncnolmiejaaGreatK00
import Derived.Deep.RegionHeld3
namespace Go.Proofs.YtchjncnolmiejaaGreat

theorem wpAnyH_more {P : Program} {md : Region.Mode} {ops : Array Oper} {Q : Exit → Act → World → Prop} {S S' : World → Prop} (hs : ∀ w, S' w → S w) :
    ∀ {n : Nat} {l : Array Bool} {a : Act} {w : World}, wpAnyH P md ops Q S' n l a w → wpAnyH P md ops Q S n l a w := by
  intro n
  induction n with
  | zero => exact fun h => h
  | succ n ih => exact fun h => ⟨h.1, fun i hi => wpOp_mono (fun a' w' h' => ⟨hs _ h'.1, ih h'.2⟩) (h.2 i hi)⟩

end Go.Proofs.YtchjncnolmiejaaGreat

/- safe: Tidy. -/
import Derived.Test.YtchjncnolmiejaaGreatK06
import Derived.Test.YtchjncnolmiejaaGreatK38
import Derived.Test.YtchjncnolmiejaaGreatK42
namespace Go.Proofs.YtchjncnolmiejaaGreat
open Go.RowKit
namespace Sf
open Vd
open Rs (strV own_n rowAtV)
/-- what is left to be unlinked -/
def tidyF (p : Str) (l : List Str) : List Str := l.filter (tidyN p)
section
variable {S : Nat → Prop} {w1 w wb : World} {g : Nat} {d : Dsk} {k : Nat}
/-- a slice made since lies apart from the disk -/
theorem On.stays (h : On S w1 w g d k) {e : TypeId} {v : Value} {l : List Value} (ho : Own wb w.heap.size e v l) : Stays (More S w1 w) wb v l := fun w2 hm => by
 rcases ho.2 with ⟨hv, hl⟩ | ⟨b, cap, cur, hv, hb, hgg, rest⟩
 ·have hl0 : l = [] := List.eq_nil_of_length_eq_zero hl
  subst hl0
  subst hv
  exact row_nil w2
 ·subst hv
  refine row_modsB ho.row hm (fun hh => ?_)
  have hs := h.mods.size
  rcases hh with hh | hh
  ·have := h.lt b hh
   omega
  ·omega
end
end Sf
namespace Rf
open Vd
open Go.Maps
section
variable {L : List Nat} {W w w' : World} {g m : Nat} {d d' : Dsk} {r : RDsk} {k k' : Nat} {S M : Nat → Prop}
theorem Two.on (h : Two L W w g d m r k S M) : On S w w g d k := ⟨h.dsk.wide (fun y hy => .inl hy), Mods.refl _ _, h.few, fun y hy => (h.ls y hy).2.1⟩
theorem Two.rest (h : Two L W w g d m r k S M) (ho : On S w w' g d' k') (hk : k ≤ k') : TwoAt L W w' g d' m r k' ∧ Mods (fun y => W.heap.size ≤ y ∧ y ∉ L) w w' := h.disk ho.dsk (ho.mods.mono (fun y hy => .inl hy)) ho.few hk
theorem Two.says (h : Two L W w g d m r k S M) {q : Dsk × Int} {f : Nat} {args : Array Value} (hc : Calls Tryz.prog f args w (Sf.Says (Sf.Tells S w g q k'))) (hk : k ≤ k') : Calls Tryz.prog f args w (TwoDid L W w g q.1 m r k' (.int .i64 q.2)) :=
 hc.mono (fun _ _ ⟨c, h1, h2, h3⟩ => ⟨by rw [h1, h2], h.rest h3 hk⟩)
theorem Two.stays (h : Two L W w g d m r k S M) {v : Value} {l : List Value} (hs : Rs.Stay2 L W w v l) : Sf.Stays S w v l := fun w2 hm => hs S w2 (fun y hy => ⟨(h.ls y hy).1, (h.ls y hy).2.2⟩) hm
end
end Rf
end Go.Proofs.YtchjncnolmiejaaGreat

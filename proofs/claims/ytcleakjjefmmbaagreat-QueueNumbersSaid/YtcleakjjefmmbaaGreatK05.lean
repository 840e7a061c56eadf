/- Several texts in one: UsMem, UsTab. -/
import Derived.Test.YtcleakjjefmmbaaGreatMapList
import Derived.Test.YtcleakjjefmmbaaGreatK00
import Derived.Test.YtcleakjjefmmbaaGreatK02
import Derived.Test.YtcleakjjefmmbaaGreatMid
import Derived.Test.YtcleakjjefmmbaaGreatRows
/- users: a table in memory, its two maps. -/
namespace Go.Proofs.YtcleakjjefmmbaaGreat
open Go.RowKit
namespace Mp
/-- a slice's value: where it begins, how long, with which room -/
structure SlP where
 p : Option (Nat × Nat)
 n : Nat
 c : Nat
def SlP.v (s : SlP) : Value := .slice (s.p.map fun x => ⟨x.1, x.2, none⟩) s.n s.c
def litN (n : Nat) : DataW Unit := .lit (.int .i64 (n : Int))
end Mp
namespace Usr
open Adr (Str)
open Mp Go.Maps
end Usr
end Go.Proofs.YtcleakjjefmmbaaGreat

/- users: what is done with a table's maps, in memory. -/
namespace Go.Proofs.YtcleakjjefmmbaaGreat
open Go.RowKit
namespace Usr
open Adr (Str)
open Mp Go.Maps
theorem map_keepsS {w w' : World} {R : Value → Option (DataW Unit × List MemPlace)} {k : TypeId} {b n : Nat} {D : DataW Unit} (h : w.ownsMap Tryz.prog k R b n D) (hk : Keeps w w') : w'.ownsMap Tryz.prog k R b n D := by
 obtain ⟨es, clock, hb, r⟩ := h
 exact ⟨es, clock, by rw [hk.block (Array.getElem?_eq_some_iff.1 hb).1]; exact hb, r⟩
theorem map_modsS {w w' : World} {R : Value → Option (DataW Unit × List MemPlace)} {k : TypeId} {b n : Nat} {D : DataW Unit} {S : Nat → Prop} (h : w.ownsMap Tryz.prog k R b n D) (hk : Mods S w w') (hn : ¬ S b) : w'.ownsMap Tryz.prog k R b n D := by
 obtain ⟨es, clock, hb, r⟩ := h
 exact ⟨es, clock, hk.heap hb hn, r⟩
theorem map_obj {w : World} {R : Value → Option (DataW Unit × List MemPlace)} {k : TypeId} {b n : Nat} {D : DataW Unit} (h : w.ownsMap Tryz.prog k R b n D) : ∃ es clock, w.heap[b]? = some (.map es clock) := let ⟨es, clock, hb, _⟩ := h; ⟨es, clock, hb⟩
theorem turnedS {w w' : World} {b : Nat} (h : w.mapTurned w' b) : Mods (· = b) w w' := (Mods.refl (· = b) w).grown h.grown (fun k hk _ => by cases hk; rfl)
section
variable {w w' : World} {g b1 b2 n : Nat} {t : TabP}
end
end Usr
end Go.Proofs.YtcleakjjefmmbaaGreat

/- maps.Keys and slices.Sorted at int keys: their contracts, without a fence. -/
import Derived.Test.YtohchhgheeolpaaK21
import Derived.Test.YtohchhgheeolpaaMboxShelf
namespace Go.Proofs.Ytohchhgheeolpaa
open Go.RowKit Go.Sort Go.Shelf
namespace Mbx
open Rcd Go.Maps

theorem sortsInt (m : Nat) : AnyZI.SortsIn Try.prog Try.sortedInt_ren Fence.wide m :=
  ⟨fun blk off cap ss W hH hblk hsz => callsIn_wide.2 (AnyM.slices_Sort_int Try.sortInt blk off cap ss W hH hblk hsz),
   fun p cap W => callsIn_wide.2 (AnyM.slices_Sort_int_none Try.sortInt p cap W)⟩
theorem keysEnt_any (mb : Option Nat) (W : World) : Calls Try.prog 138 #[.map mb] W fun e w' => e = .returned (.func (.func 192) #[] #[.pointer (some ⟨W.heap.size, 0, none⟩)]) ∧ w' = W.alloc (.cells #[.map mb] 183) :=
  (callsIn_wide (n := 5)).1 (AnyZI.keys_in Try.keysEnt Fence.wide 5 trivial rfl mb W)
theorem sortedEnt_any (b nn : Nat) (D0 : DataW Unit) (R : Value → Option (DataW Unit × List MemPlace)) (w : World) (hown : w.ownsMap Try.prog 3 R b nn D0) (hn : nn ≤ 1000000) :
    Calls Try.prog 137 #[.func (.func 192) #[] #[.pointer (some ⟨w.heap.size, 0, none⟩)]] (w.alloc (.cells #[.map (some b)] 183)) fun e w' => ∃ (v : Value) (ss : List Int), e = .returned v ∧ ss.Perm (intKeys D0) ∧ Own w' w.heap.size 3 v ((ss.mergeSort leI).map encZ) ∧ Keeps w w' := by
  refine (callsIn_wide (n := 5)).1 ?_
  have hsz := hown.size_le
  have hbl := hown.lt
  have hseq : SeqGives Fence.wide 2 Try.prog 192 #[.pointer (some ⟨w.heap.size, 0, none⟩)] encZ (fun ss => ss.Perm (intKeys D0)) (Maps.size D0) (w.alloc (.cells #[.map (some b)] 183)) :=
    AnyZI.keys_gives (ρ := Try.keysEnt_ren) { Try.keysEnt with } Fence.wide _ trivial rfl (by omega) w.heap.size b nn D0 _ (by simp) (by simp) (by
      obtain ⟨es, clock, hb, Ft, hs, hD⟩ := hown
      exact ⟨es, clock, (Below.heap_alloc _ _ b hbl).trans hb, Ft, hs, hD⟩)
  have cS := AnyZI.sorted_in Try.sortedInt Fence.wide 5 trivial trivial trivial trivial rfl (by omega) (sortsInt _) (enters_of Try.func191 (by kernel_rfl) rfl) 192 #[.pointer (some ⟨w.heap.size, 0, none⟩)] trivial (enters_of Try.func192 (by kernel_rfl) rfl) _ _ (by unfold maxLen; omega) (by omega) _ hseq
  change CallsIn _ _ Try.prog 137 _ _ _ at cS
  refine cS.mono ?_
  rintro e w' ⟨v, ss, rfl, hS, hrow, hnil, hb⟩
  refine ⟨v, ss, rfl, hS, ?_, ((Below.refl _ w).alloc (Nat.le_refl _) _).trans (hb.mono (by simp))⟩
  unfold Own
  rw [show ((ss.mergeSort leI).map encZ).length = ss.length from by simp]
  exact ownsRow_base_a hrow (by simp)
end Mbx
end Go.Proofs.Ytohchhgheeolpaa

/- queue: slices.DeleteFunc at names; Open's closure. -/
import Derived.Test.YtcleakjjefmmbaaGreatK39
import Derived.Test.YtcleakjjefmmbaaGreatQuDelS
import Derived.Test.YtcleakjjefmmbaaGreatK02
import Derived.Test.YtcleakjjefmmbaaGreatK01
import Derived.Test.YtcleakjjefmmbaaGreatK47
namespace Go.Proofs.YtcleakjjefmmbaaGreat
open Go.RowKit Go.Shelf Go.Sort
namespace Que
theorem isQ_pre (x : Str) : isQ x = Sx.preB x [113] := by
 unfold isQ Sx.preB
 match x with
 | [] => rfl
 |c :: t =>
  have e : ∀ a b : Str, (a == b) = decide (a = b) := fun a b => by by_cases h : a = b <;> simp [h]
  rw [e]
  simp
theorem open1_any (x : Str) (hx : x.length ≤ 1000000000) (w : World) : Calls Tryz.prog 40 #[.string (bstr x)] w fun e w' => e = .returned (.bool (!isQ x)) ∧ w = w' := by
 have HC := Lib.hid (Sx.pre_any x [113] (by omega) (by decide) w)
 rw [← isQ_pre] at HC
 generalize isQ x = r at *
 go_enter Tryz.func40, Tryz.ntmps40
 go_wp2_with fail
 refine HC.out.mono ?_
 rintro e w2 ⟨rfl, rfl⟩
 go_wp2_with fail
 go_ret
 exact ⟨rfl, rfl⟩
def sV (x : Str) : Value := .string (bstr x)
/-- a name that is long is none of the queue's business: names of a bounded length -/
structure NmS where
 x : Str
 h : x.length ≤ 1000000000
instance : Inhabited NmS := ⟨⟨[], by simp⟩⟩
def nmV (x : NmS) : Value := .string (bstr x.x)
theorem mods_putRow {w : World} {blk off q : Nat} (d : Array NmS) : Mods (· = blk) w (putRow nmV (Sort.ahead w q) blk off d) :=
 ⟨rfl, rfl, rfl, by rw [size_putRow]; exact Nat.le_refl _, fun k hk hn => by
  simp only [putRow, mapBlock, Array.getElem?_modify]
  rw [if_neg (fun e => hn e.symm)]
  rfl⟩
theorem indexNil_any (p : Value) (w : World) : Calls Tryz.prog 84 #[.slice none 0 0, p] w fun e w' => e = .returned (.int .i64 (-1)) ∧ w = w' := by
 go_enter Tryz.func84, Tryz.ntmps84
 go_wp2_with fail
 go_loopw [8] (fun iv wr => iv = .int .i64 0 ∧ w = wr) (fun _ _ => 0)
 case atStart => exact ⟨rfl, rfl⟩
 case round =>
  obtain ⟨rfl, rfl⟩ := hrel
  go_wp2_with fail
  go_ret
  exact ⟨rfl, rfl⟩
/-- what DeleteFunc leaves -/
def DelDid (v : Value) (W : World) (l : List Str) (e : Ending) (w' : World) : Prop := ∃ v', e = .returned v' ∧ Row w' v' ((l.filter isQ).map sV) ∧ (∀ a n c, v' = .slice (some a) n c → v.ownBlock = some a.block) ∧ Mods (fun y => v.ownBlock = some y) W w'
set_option maxRecDepth 100000 in
theorem del_any (w : World) (base : Nat) (v : Value) (l : List Str) (ho : Own w base 9 v (l.map sV)) (hl : ∀ x ∈ l, x.length ≤ 1000000000) :
  Calls Tryz.prog 39 #[v, .func (.func 40) #[] #[]] w (DelDid v w l) := by
 rcases ho.2 with ⟨hv, hn⟩ | ⟨blk, cap, cur, hv, hb, hg, h1, h2, h3, h4⟩
 ·subst hv
  have hl0 : l = [] := by simpa using hn
  subst hl0
  have HI := Lib.hid (indexNil_any (.func (.func 40) #[] #[]) w)
  clear ho
  go_enter Tryz.func39, Tryz.ntmps39
  go_wp2_with fail
  refine HI.out.mono ?_
  rintro e w2 ⟨rfl, rfl⟩
  go_wp2_with fail
  go_ret
  exact ⟨_, rfl, row_nil w, fun a n c h => by simp at h, Mods.refl _ _⟩
 ·subst hv
  rw [List.length_map] at *
  obtain ⟨L, rfl⟩ : ∃ L : List NmS, l = L.map (·.x) := by
   refine ⟨l.attach.map fun x => ⟨x.1, hl x.1 x.2⟩, ?_⟩
   rw [List.map_map]
   simp [Function.comp_def]
  have hrow := ho.row
  have hcell : ∀ j (hj : j < L.length), w.cell? ⟨blk, 0 + j, none⟩ = some (nmV L[j]) := fun j hj => by
   have := Own.cellAt ho j (nmV L[j]) (by simp [List.getElem?_eq_getElem hj]; rfl)
   rw [Nat.zero_add]
   exact this
  have hH : Holds nmV w blk 0 L.toArray := fun j hj => by
   have hj' : j < L.length := by simpa using hj
   refine ⟨?_, ?_⟩
   ·rw [hcell j hj', getElem!_pos L.toArray j hj]
    rfl
   ·show w.frozen? ⟨blk, 0 + j, none⟩ = false
    exact (show Blk w blk 9 cur from hg).frozen _
  have hp : ∀ (W : World) (x : NmS), FnGives Tryz.prog 40 #[] #[nmV x] (.bool (!isQ x.x)) W := fun W x => (open1_any x.x x.h W).mono (fun e w' ⟨h1, h2⟩ => ⟨h1, 0, h2.symm⟩)
  have hcon := AnyE.slices_DeleteFunc Tryz.delStr nmV (fun _ => rfl) (fun x => !isQ x.x) 40 #[] (enters_of Tryz.func40 (by kernel_rfl) rfl) ⟨[], by simp⟩ (fun _ => by kernel_rfl) blk 0 cap L.toArray w (fun W x _ => hp W x) (fun n os dk x _ => hp _ x) hH (by simp at h1 ⊢; unfold maxLen at h2; omega) (by simpa using h1)
  change Calls Tryz.prog 39 _ _ _ at hcon
  have hfl : ((L.map (·.x)).filter isQ).map sV = (L.filter fun x => !!isQ x.x).map nmV := by
   rw [List.filter_map, List.map_map]
   simp only [Bool.not_not]
   rfl
  have hle : (L.filter fun x => !!isQ x.x).length ≤ L.length := List.length_filter_le _ _
  have h1' : L.length ≤ cap := by simpa using h1
  clear ho hrow h3 h4 hg hcell hp
  have hF : L.toArray.toList = L := by simp
  rw [hF] at hcon
  generalize (L.filter fun x => !!isQ x.x) = F at *
  have hz : L.toArray.size = L.length := by simp
  have hlm : (L.map (·.x)).length = L.length := by simp
  rw [hz] at hcon
  rw [hlm]
  refine hcon.mono ?_
  rintro e w' ⟨he, q, hw⟩
  subst he
  subst hw
  refine ⟨_, rfl, ?_, fun a n c h => ?_, (mods_putRow _).mono (fun y hy => by rw [hy]; rfl)⟩
  ·rw [hfl]
   refine .inr ⟨blk, 0, cap, by simp, by simp; omega, h2, fun i x hx => ?_⟩
   rw [List.getElem?_map] at hx
   cases hi : F[i]? with
   |none => rw [hi] at hx; cases hx
   |some y =>
    rw [hi] at hx
    simp only [Option.map_some, Option.some.injEq] at hx
    subst hx
    have hlt := (List.getElem?_eq_some_iff.1 hi).1
    have hs : (F ++ List.replicate (L.length - F.length) (⟨[], by simp⟩ : NmS)).toArray.size = L.toArray.size := by simp; omega
    have := (holds_putRow nmV (Sort.ahead w q) blk 0 L.toArray (F ++ List.replicate (L.length - F.length) (⟨[], by simp⟩ : NmS)).toArray (fun j hj => hH j hj) hs i (by simp; omega)).1
    rw [this, getElem!_pos _ _ (by simp; omega)]
    congr 2
    simp only [List.getElem_toArray]
    rw [List.getElem_append_left hlt]
    have := List.getElem?_eq_getElem hlt
    rw [hi] at this
    exact (Option.some.inj this).symm
  ·simp only [Value.slice.injEq, Option.some.injEq] at h
   rw [← h.1]
   rfl
end Que
end Go.Proofs.YtcleakjjefmmbaaGreat

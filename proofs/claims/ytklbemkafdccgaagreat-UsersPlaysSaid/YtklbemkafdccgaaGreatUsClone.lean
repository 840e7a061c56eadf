/- users: Clone. -/
import Derived.Test.YtklbemkafdccgaaGreatK25
import Derived.Test.YtklbemkafdccgaaGreatK17
import Derived.Test.YtklbemkafdccgaaGreatFrameSame
import Derived.Test.YtklbemkafdccgaaGreatUsShelf2
namespace Go.Proofs.YtklbemkafdccgaaGreat
open Go.RowKit Go.Sort Go.Shelf
namespace Usr
open Adr (Str)
open Mp Go.Maps
open Frm (ownsRow_keeps ownsRow_mods ownsRow_ty ownsRow_base ownsRow_form)
/-- an alias map with no entry -/
def EmpA (w : World) (b : Nat) : Prop := w.ownsMap Tryz.prog 9 alElem b 0 (.map [])
def UsA (w : World) (b n : Nat) (D : DataW Unit) : Prop := w.ownsMap Tryz.prog 9 usrElem b n D
theorem EmpA.keeps {w w' : World} {b : Nat} (h : EmpA w b) (k : Keeps w w') : EmpA w' b := map_keepsS h k
theorem UsA.keeps {w w' : World} {b n : Nat} {D : DataW Unit} (h : UsA w b n D) (k : Keeps w w') : UsA w' b n D := map_keepsS h k
theorem alC_len (x : AlP × Value) : (alC x).length = 2 := rfl
theorem al_at {l : List (AlP × Value)} {i : Nat} (h : i < l.length) {j : Nat} (hj : j < 2) : (l.flatMap alC)[i * 2 + j]? = (alC l[i])[j]? := flat_get alC_len l i j _ (List.getElem?_eq_getElem h) hj
theorem insA_end (x : AlP) : ∀ l : List AlP, (∀ a ∈ l, ltS a.name x.name = true) → insA x l = l ++ [x]
 | [], _ => rfl
 |y :: r, h => by
  unfold insA
  rw [if_pos (h y (List.mem_cons_self ..)), insA_end x r (fun a ha => h a (List.mem_cons_of_mem _ ha))]
  rfl
theorem put_take {l : List AlP} (h : l.Pairwise fun a b => ltS a.name b.name = true) {j : Nat} (hj : j < l.length) : insA l[j] ((l.take j).filter fun x => decide (x.name ≠ l[j].name)) = l.take (j + 1) := by
 have hall : ∀ a ∈ l.take j, ltS a.name l[j].name = true := by
  have h2 : (l.take j ++ l.drop j).Pairwise fun a b => ltS a.name b.name = true := by rw [List.take_append_drop]; exact h
  have h3 := (List.pairwise_append.1 h2).2.2
  intro a ha
  exact h3 a ha l[j] (by rw [List.drop_eq_getElem_cons hj]; exact List.mem_cons_self ..)
 have hf : (l.take j).filter (fun x => decide (x.name ≠ l[j].name)) = l.take j := by
  rw [List.filter_eq_self]
  intro a ha
  have := (ltS_lt _ _).1 (hall a ha)
  simp only [decide_eq_true_eq]
  intro e
  rw [e] at this
  exact List.lt_irrefl _ this
 rw [hf, insA_end _ _ hall, List.take_succ_eq_append_getElem hj]
theorem EmpA.new (w : World) : EmpA (w.alloc (.map #[] 0)) w.heap.size := World.ownsMap_made w Tryz.prog _ _
theorem EmpA.lt {w : World} {b : Nat} (h : EmpA w b) : b < w.heap.size := World.ownsMap.lt h
theorem UsA.lt {w : World} {b n : Nat} {D : DataW Unit} (h : UsA w b n D) : b < w.heap.size := World.ownsMap.lt h
end Usr
end Go.Proofs.YtklbemkafdccgaaGreat

/- A mailbox behind so many records, beside its list of entries. Plain. -/
import Derived.Test.YtohchhgheeolpaaMboxSumsPlain
namespace Go.Proofs.Ytohchhgheeolpaa.Mbx
open Rcd

structure St (m : Box) (L : List Ent) (n : Nat) : Prop where
  rel : Rel m L
  inv : Inv m n
  pos : ∀ e ∈ L, 1 ≤ e.uid
theorem st_new : St new [] 0 := ⟨rel_new, inv_new, by simp⟩
theorem mem_insL {L : List Ent} {x e : Ent} (h : e ∈ insL L x) : e = x ∨ e ∈ L := by
  unfold insL at h
  rcases List.mem_append.1 h with h | h
  · exact .inr ((List.takeWhile_sublist _).mem h)
  · rcases List.mem_cons.1 h with h | h
    · exact .inl h
    · exact .inr ((List.dropWhile_sublist _).mem h)
theorem mem_setL {L : List Ent} {u : Int} {x e : Ent} (h : e ∈ setL L u x) : e = x ∨ e ∈ L := by
  unfold setL at h
  obtain ⟨a, ha, rfl⟩ := List.mem_map.1 h
  split
  · exact .inl rfl
  · exact .inr ha
theorem filter_at {L : List Ent} {u : Int} {e : Ent} (h : (at_ L u).filter (fun e => !e.gone) = some e) : e ∈ L := by
  rw [Option.filter_eq_some_iff] at h
  exact List.mem_of_find?_eq_some h.1
theorem pos_take {L : List Ent} (h : ∀ e ∈ L, 1 ≤ e.uid) (r : Rec) : ∀ e ∈ (takeL L r).1, 1 ≤ e.uid := by
  intro e he
  unfold takeL at he
  by_cases hc : chk r ≠ 0
  · rw [if_pos hc] at he; exact h e he
  rw [if_neg hc] at he
  by_cases h2 : r.kind = 2
  · rw [if_pos h2] at he
    split at he
    · exact h e he
    · rcases mem_insL he with rfl | he
      · exact (chk_msg (Decidable.not_not.1 hc) h2).1
      · exact h e he
  rw [if_neg h2] at he
  by_cases h3 : r.kind = 3
  · rw [if_pos h3] at he
    cases hx : (at_ L r.uid).filter (fun e => !e.gone) with
    | none => rw [hx] at he; exact h e he
    | some a =>
      rw [hx] at he
      rcases mem_setL he with rfl | he
      · exact h a (filter_at hx)
      · exact h e he
  rw [if_neg h3] at he
  by_cases h4 : r.kind = 4
  · rw [if_pos h4] at he
    cases hx : (at_ L r.uid).filter (fun e => !e.gone) with
    | none => rw [hx] at he; exact h e he
    | some a =>
      rw [hx] at he
      rcases mem_setL he with rfl | he
      · exact h a (filter_at hx)
      · exact h e he
  · rw [if_neg h4] at he; exact h e he
theorem st_take {m : Box} {L : List Ent} {n : Nat} (h : St m L n) (hn : n ≤ 1000) (r : Rec) : St (take m r).1 (takeL L r).1 (n + 1) ∧ (take m r).2 = (takeL L r).2 ∧ Step L (takeL L r).1 := by
  obtain ⟨h1, h2, h3⟩ := rel_take h.rel h.inv hn r
  exact ⟨⟨h1, inv_take h.inv r, pos_take h.pos r⟩, h2, h3⟩
def allL (L : List Ent) : List Rec → List Ent
  | [] => L
  | r :: l => allL (takeL L r).1 l
theorem allL_snoc (l : List Rec) (r : Rec) : ∀ L, allL L (l ++ [r]) = (takeL (allL L l) r).1 := by
  induction l with
  | nil => intro L; rfl
  | cons x l ih => intro L; exact ih _
theorem st_all (l : List Rec) : ∀ (m : Box) (L : List Ent) (n : Nat), St m L n → n + l.length ≤ 1000 → St (all m l) (allL L l) (n + l.length) := by
  induction l with
  | nil => intro m L n h _; exact h
  | cons r l ih =>
    intro m L n h hn
    simp only [List.length_cons] at hn
    have := ih _ _ _ (st_take h (by omega) r).1 (by omega)
    rw [List.length_cons, show n + (l.length + 1) = n + 1 + l.length from by omega]
    exact this
theorem St.size {m : Box} {L : List Ent} {n : Nat} (h : St m L n) : ∀ e ∈ L, 0 ≤ e.size := fun e he => h.inv.sz e.uid e (by rw [h.rel.ent]; exact at_mem h.rel.asc e he)
theorem St.low {m : Box} {L : List Ent} {n : Nat} (h : St m L n) : ∀ e ∈ L, e.uid < m.next := fun e he => h.inv.low e.uid e (by rw [h.rel.ent]; exact at_mem h.rel.asc e he)
theorem St.uid {m : Box} {L : List Ent} {n : Nat} (h : St m L n) : ∀ e ∈ L, 1 ≤ e.uid ∧ e.uid ≤ 2147483648 := fun e he => by
  have := h.pos e he
  have := h.low e he
  have := h.inv.n2
  omega
end Go.Proofs.Ytohchhgheeolpaa.Mbx

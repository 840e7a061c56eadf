/- Mailboxes as lists of entries by rising numbers, plain. -/
import Derived.Test.YtohchhgheeolpaaPPlain
namespace Go.Proofs.Ytohchhgheeolpaa.Mbx
open Rcd

def sumS : List Ent → Int
  | [] => 0
  | e :: l => (if e.gone then 0 else e.size) + sumS l
def cntS : List Ent → Int
  | [] => 0
  | e :: l => (if e.gone then 0 else 1) + cntS l
theorem sumS_app (a b : List Ent) : sumS (a ++ b) = sumS a + sumS b := by
  induction a with
  | nil => simp [sumS]
  | cons x a ih => simp only [List.cons_append, sumS, ih]; omega
theorem cntS_app (a b : List Ent) : cntS (a ++ b) = cntS a + cntS b := by
  induction a with
  | nil => simp [cntS]
  | cons x a ih => simp only [List.cons_append, cntS, ih]; omega
def at_ (L : List Ent) (x : Int) : Option Ent := L.find? (fun e => decide (e.uid = x))
def orgOf (L : List Ent) (o : Int) : Option Int := (L.find? (fun e => decide (e.origin = o))).map (·.uid)
abbrev Asc (L : List Ent) : Prop := L.Pairwise (fun a b => a.uid < b.uid)
structure Rel (m : Box) (L : List Ent) : Prop where
  asc : Asc L
  ent : ∀ x, m.ent x = at_ L x
  org : ∀ o, m.org o = orgOf L o
  ub : m.ub = sumS L
  uc : m.uc = cntS L
theorem rel_new : Rel new [] := ⟨List.Pairwise.nil, fun _ => rfl, fun _ => rfl, rfl, rfl⟩
inductive Step : List Ent → List Ent → Prop
  | same (L : List Ent) : Step L L
  | ins (p s : List Ent) (e : Ent) (h1 : ∀ a ∈ p, a.uid < e.uid) (h2 : ∀ b ∈ s, e.uid < b.uid) : Step (p ++ s) (p ++ e :: s)
  | set (p s : List Ent) (e e' : Ent) (hg : e.gone = false) (h1 : e'.uid = e.uid) (h2 : e'.body = e.body) (h3 : e'.size = e.size) (h4 : e'.origin = e.origin) (h5 : ∀ a ∈ p, a.uid < e.uid) (h6 : ∀ b ∈ s, e.uid < b.uid) : Step (p ++ e :: s) (p ++ e' :: s)
def insL (L : List Ent) (e : Ent) : List Ent := L.takeWhile (fun a => decide (a.uid < e.uid)) ++ e :: L.dropWhile (fun a => decide (a.uid < e.uid))
def setL (L : List Ent) (u : Int) (e' : Ent) : List Ent := L.map fun a => if a.uid = u then e' else a
def takeL (L : List Ent) (r : Rec) : List Ent × Bool :=
  if chk r ≠ 0 then (L, false)
  else if r.kind = 2 then if (at_ L r.uid).isSome ∨ putB (sumS L) (cntS L) r.size = false then (L, false) else (insL L (entOf r), true)
  else if r.kind = 3 then match (at_ L r.uid).filter (fun e => !e.gone) with
    | none => (L, false)
    | some e => (setL L r.uid { e with gone := true, flags := 0 }, true)
  else if r.kind = 4 then match (at_ L r.uid).filter (fun e => !e.gone) with
    | none => (L, false)
    | some e => (setL L r.uid { e with flags := r.flags }, true)
  else (L, false)

theorem asc_drop {L : List Ent} (h : Asc L) (u : Int) (hn : ∀ a ∈ L, a.uid ≠ u) : ∀ b ∈ L.dropWhile (fun a => decide (a.uid < u)), u < b.uid := by
  induction L with
  | nil => simp
  | cons x L ih =>
    intro b hb
    rw [List.dropWhile_cons] at hb
    obtain ⟨h1, h2⟩ := List.pairwise_cons.1 h
    by_cases hx : x.uid < u
    · rw [if_pos (by simpa using hx)] at hb
      exact ih h2 (fun a ha => hn a (List.mem_cons_of_mem _ ha)) b hb
    · rw [if_neg (by simpa using hx)] at hb
      have := hn x (List.mem_cons_self ..)
      rcases List.mem_cons.1 hb with rfl | hb
      · omega
      · have := h1 b hb; omega
theorem takeWhile_lt {L : List Ent} {u : Int} : ∀ a ∈ L.takeWhile (fun a => decide (a.uid < u)), a.uid < u := by
  induction L with
  | nil => simp
  | cons x L ih =>
    intro a ha
    rw [List.takeWhile_cons] at ha
    split at ha
    · rename_i hx
      rcases List.mem_cons.1 ha with rfl | ha
      · simpa using hx
      · exact ih a ha
    · simp at ha
theorem at_none {L : List Ent} {u : Int} (h : at_ L u = none) : ∀ a ∈ L, a.uid ≠ u := by
  intro a ha
  have := List.find?_eq_none.1 h a ha
  simpa using this
theorem at_ins {p s : List Ent} {e : Ent} (h : at_ (p ++ s) e.uid = none) (x : Int) : at_ (p ++ e :: s) x = upd (at_ (p ++ s)) e.uid e x := by
  unfold at_ at *
  rw [List.find?_append] at h
  unfold upd
  rw [List.find?_append, List.find?_cons]
  by_cases hx : x = e.uid
  · subst hx
    have : p.find? (fun a => decide (a.uid = e.uid)) = none := by
      cases hp : p.find? (fun a => decide (a.uid = e.uid)) with
      | none => rfl
      | some b => rw [hp] at h; simp at h
    rw [this]
    simp
  · have : decide (e.uid = x) = false := by simp; omega
    rw [this, if_neg hx]
    show _ = List.find? _ (p ++ s)
    rw [List.find?_append]
theorem at_set {p s : List Ent} {e e' : Ent} (hu : e'.uid = e.uid) (hp : ∀ a ∈ p, a.uid < e.uid) (x : Int) : at_ (p ++ e' :: s) x = upd (at_ (p ++ e :: s)) e.uid e' x := by
  unfold at_ upd
  show List.find? _ (p ++ e' :: s) = if x = e.uid then some e' else List.find? (fun e => decide (e.uid = x)) (p ++ e :: s)
  rw [List.find?_append, List.find?_append, List.find?_cons, List.find?_cons, hu]
  by_cases hx : x = e.uid
  · subst hx
    have : p.find? (fun a => decide (a.uid = e.uid)) = none := List.find?_eq_none.2 (fun a ha => by have := hp a ha; simp; omega)
    rw [this]
    simp
  · have : decide (e.uid = x) = false := by simp; omega
    rw [this, if_neg hx]
theorem org_ins {p s : List Ent} {e : Ent} {m : Box} (ho : ∀ o, m.org o = orgOf (p ++ s) o) (h1 : ∀ a ∈ p, a.uid < e.uid) (h2 : ∀ b ∈ s, e.uid < b.uid) (o : Int) :
    (if first m e.origin e.uid then upd m.org e.origin e.uid else m.org) o = orgOf (p ++ e :: s) o := by
  have e0 := ho e.origin
  unfold orgOf at *
  rw [List.find?_append] at e0 ⊢
  rw [List.find?_cons]
  by_cases hx : o = e.origin
  · subst hx
    have hd : decide (e.origin = e.origin) = true := by simp
    rw [hd]
    unfold first
    cases hp : p.find? (fun a => decide (a.origin = e.origin)) with
    | some a =>
      have hl := h1 a (List.mem_of_find?_eq_some hp)
      rw [hp, Option.some_or] at e0
      simp only [Option.map_some] at e0
      rw [e0]
      simp only
      rw [if_neg (by simp; omega), e0]
      rfl
    | none =>
      rw [hp, Option.none_or] at e0
      cases hs : s.find? (fun a => decide (a.origin = e.origin)) with
      | none =>
        rw [hs] at e0
        simp only [Option.map_none] at e0
        rw [e0]
        simp [upd]
      | some b =>
        rw [hs] at e0
        have hl := h2 b (List.mem_of_find?_eq_some hs)
        simp only [Option.map_some] at e0
        rw [e0]
        simp [upd, hl]
  · have hd : decide (e.origin = o) = false := by simp; omega
    rw [hd]
    have : (if first m e.origin e.uid then upd m.org e.origin e.uid else m.org) o = m.org o := by
      split
      · exact upd_other _ _ hx
      · rfl
    rw [this, ho o, List.find?_append]
theorem org_set {p s : List Ent} {e e' : Ent} (hu : e'.uid = e.uid) (ho : e'.origin = e.origin) (o : Int) : orgOf (p ++ e' :: s) o = orgOf (p ++ e :: s) o := by
  unfold orgOf
  rw [List.find?_append, List.find?_append, List.find?_cons, List.find?_cons, ho]
  cases p.find? (fun a => decide (a.origin = o)) with
  | some a => rfl
  | none =>
    cases decide (e.origin = o) with
    | true => simp [hu]
    | false => rfl
theorem asc_split {p s : List Ent} {e : Ent} (h : Asc (p ++ e :: s)) : (∀ a ∈ p, a.uid < e.uid) ∧ ∀ b ∈ s, e.uid < b.uid := by
  obtain ⟨_, h2, h3⟩ := List.pairwise_append.1 h
  exact ⟨fun a ha => h3 a ha e (List.mem_cons_self ..), (List.pairwise_cons.1 h2).1⟩
theorem setL_split {p s : List Ent} {e e' : Ent} (h1 : ∀ a ∈ p, a.uid < e.uid) (h2 : ∀ b ∈ s, e.uid < b.uid) : setL (p ++ e :: s) e.uid e' = p ++ e' :: s := by
  unfold setL
  rw [List.map_append, List.map_cons, if_pos rfl]
  congr 1
  · rw [List.map_congr_left (g := id) (fun a ha => by have := h1 a ha; rw [if_neg (by omega)]; rfl), List.map_id]
  · congr 1
    rw [List.map_congr_left (g := id) (fun a ha => by have := h2 a ha; rw [if_neg (by omega)]; rfl), List.map_id]
theorem live_split {L : List Ent} {u : Int} {e : Ent} (hl : Asc L) (h : (at_ L u).filter (fun e => !e.gone) = some e) : ∃ p s, L = p ++ e :: s ∧ e.uid = u ∧ e.gone = false ∧ (∀ a ∈ p, a.uid < e.uid) ∧ ∀ b ∈ s, e.uid < b.uid := by
  rw [Option.filter_eq_some_iff] at h
  obtain ⟨h1, h2⟩ := h
  unfold at_ at h1
  obtain ⟨h3, p, s, rfl, _⟩ := List.find?_eq_some_iff_append.1 h1
  obtain ⟨h5, h6⟩ := asc_split hl
  exact ⟨p, s, rfl, by simpa using h3, by simpa using h2, h5, h6⟩
theorem asc_set {p s : List Ent} {e e' : Ent} (h : Asc (p ++ e :: s)) (hu : e'.uid = e.uid) : Asc (p ++ e' :: s) := by
  unfold Asc at *
  rw [List.pairwise_append, List.pairwise_cons] at h ⊢
  obtain ⟨h1, ⟨h2, h3⟩, h4⟩ := h
  refine ⟨h1, ⟨fun a ha => by rw [hu]; exact h2 a ha, h3⟩, fun a ha b hb => ?_⟩
  rcases List.mem_cons.1 hb with rfl | hb
  · rw [hu]; exact h4 a ha e (List.mem_cons_self ..)
  · exact h4 a ha b (List.mem_cons_of_mem _ hb)
theorem asc_ins {p s : List Ent} {e : Ent} (h : Asc (p ++ s)) (h1 : ∀ a ∈ p, a.uid < e.uid) (h2 : ∀ b ∈ s, e.uid < b.uid) : Asc (p ++ e :: s) := by
  unfold Asc at *
  rw [List.pairwise_append] at h
  rw [List.pairwise_append, List.pairwise_cons]
  refine ⟨h.1, ⟨h2, h.2.1⟩, fun a ha b hb => ?_⟩
  rcases List.mem_cons.1 hb with rfl | hb
  · exact h1 a ha
  · exact h.2.2 a ha b hb
theorem sumS_nonneg {L : List Ent} (h : ∀ e ∈ L, 0 ≤ e.size) : 0 ≤ sumS L := by
  induction L with
  | nil => exact Int.le_refl _
  | cons x L ih =>
    have := ih (fun e he => h e (List.mem_cons_of_mem _ he))
    have := h x (List.mem_cons_self ..)
    simp only [sumS]
    split <;> omega
theorem cntS_nonneg (L : List Ent) : 0 ≤ cntS L := by
  induction L with
  | nil => exact Int.le_refl _
  | cons x L ih => simp only [cntS]; split <;> omega
theorem at_mem {L : List Ent} (h : Asc L) : ∀ e ∈ L, at_ L e.uid = some e := by
  intro e he
  obtain ⟨p, s, rfl⟩ := List.append_of_mem he
  obtain ⟨h1, -⟩ := asc_split h
  unfold at_
  rw [List.find?_append, List.find?_eq_none.2 (fun a ha => by have := h1 a ha; simp; omega), Option.none_or, List.find?_cons]
  simp
theorem rel_take {m : Box} {L : List Ent} {n : Nat} (h : Rel m L) (hi : Inv m n) (hn : n ≤ 1000) (r : Rec) : Rel (take m r).1 (takeL L r).1 ∧ (take m r).2 = (takeL L r).2 ∧ Step L (takeL L r).1 := by
  unfold take takeL
  by_cases hc : chk r ≠ 0
  · rw [if_pos hc, if_pos hc]; exact ⟨h, rfl, .same _⟩
  rw [if_neg hc, if_neg hc]
  by_cases h2 : r.kind = 2
  · rw [if_pos h2, if_pos h2]
    unfold add
    rw [h.ent, h.ub, h.uc]
    by_cases hx : (at_ L r.uid).isSome = true ∨ putB (sumS L) (cntS L) r.size = false
    · rw [if_pos hx, if_pos hx]; exact ⟨h, rfl, .same _⟩
    rw [if_neg hx, if_neg hx]
    have hno : at_ L r.uid = none := by
      cases e : at_ L r.uid with
      | none => rfl
      | some x => rw [e] at hx; simp at hx
    have hL : L.takeWhile (fun a => decide (a.uid < r.uid)) ++ L.dropWhile (fun a => decide (a.uid < r.uid)) = L := List.takeWhile_append_dropWhile
    have h5 := asc_drop h.asc r.uid (at_none hno)
    have h4 := takeWhile_lt (L := L) (u := r.uid)
    have hins : insL L (entOf r) = L.takeWhile (fun a => decide (a.uid < r.uid)) ++ entOf r :: L.dropWhile (fun a => decide (a.uid < r.uid)) := rfl
    rw [hins]
    generalize L.takeWhile (fun a => decide (a.uid < r.uid)) = p at *
    generalize L.dropWhile (fun a => decide (a.uid < r.uid)) = s at *
    subst hL
    refine ⟨⟨asc_ins h.asc h4 h5, fun x => ?_, fun o => ?_, ?_, ?_⟩, rfl, .ins p s (entOf r) h4 h5⟩
    · rw [at_ins (e := entOf r) hno]
      show upd m.ent _ _ x = _
      rw [show m.ent = at_ (p ++ s) from funext h.ent]
      rfl
    · exact org_ins (e := entOf r) h.org h4 h5 o
    · show m.ub + r.size = _
      rw [h.ub, sumS_app, sumS_app]
      simp [sumS, entOf]
      omega
    · show m.uc + 1 = _
      rw [h.uc, cntS_app, cntS_app]
      simp [cntS, entOf]
      omega
  rw [if_neg h2, if_neg h2]
  by_cases h3 : r.kind = 3
  · rw [if_pos h3, if_pos h3]
    unfold gone live
    rw [h.ent]
    cases he : (at_ L r.uid).filter (fun e => !e.gone) with
    | none => exact ⟨h, rfl, .same _⟩
    | some e =>
      dsimp only
      obtain ⟨p, s, rfl, hu, hg, h5, h6⟩ := live_split h.asc he
      rw [← hu, setL_split h5 h6]
      have hge : ∀ x ∈ p ++ e :: s, 0 ≤ x.size := fun x hx => hi.sz x.uid x (by rw [h.ent]; exact at_mem h.asc x hx)
      have hp := sumS_nonneg (fun x hx => hge x (List.mem_append_left _ hx))
      have hs := sumS_nonneg (fun x hx => hge x (List.mem_append_right _ (List.mem_cons_of_mem _ hx)))
      have hez := hge e (by simp)
      have hcp := cntS_nonneg p
      have hcs := cntS_nonneg s
      have hub := h.ub
      have huc := h.uc
      rw [sumS_app] at hub
      rw [cntS_app] at huc
      simp only [sumS, cntS, hg] at hub huc
      have b1 := hi.b1
      have c1 := hi.c1
      have ht : takeB m.ub m.uc e.size = true := by
        simp [takeB, sumB] at hub huc ⊢
        omega
      refine ⟨⟨asc_set h.asc rfl, fun x => ?_, fun o => ?_, ?_, ?_⟩, rfl, .set p s e _ hg rfl rfl rfl rfl h5 h6⟩
      · rw [at_set (e := e) (e' := { e with gone := true, flags := 0 }) rfl h5]
        show upd m.ent _ _ x = _
        rw [show m.ent = at_ (p ++ e :: s) from funext h.ent]
      · rw [org_set (e := e) (e' := { e with gone := true, flags := 0 }) rfl rfl]
        exact h.org o
      · show (if takeB m.ub m.uc e.size = true then m.ub - e.size else 0) = _
        rw [if_pos ht, sumS_app]
        simp [sumS] at hub ⊢
        omega
      · show (if takeB m.ub m.uc e.size = true then m.uc - 1 else 0) = _
        rw [if_pos ht, cntS_app]
        simp [cntS] at huc ⊢
        omega
  rw [if_neg h3, if_neg h3]
  by_cases h4 : r.kind = 4
  · rw [if_pos h4, if_pos h4]
    unfold flag live
    rw [h.ent]
    cases he : (at_ L r.uid).filter (fun e => !e.gone) with
    | none => exact ⟨h, rfl, .same _⟩
    | some e =>
      dsimp only
      obtain ⟨p, s, rfl, hu, hg, h5, h6⟩ := live_split h.asc he
      rw [← hu, setL_split h5 h6]
      refine ⟨⟨asc_set h.asc rfl, fun x => ?_, fun o => ?_, ?_, ?_⟩, rfl, .set p s e _ hg rfl rfl rfl rfl h5 h6⟩
      · rw [at_set (e := e) (e' := { e with flags := r.flags }) rfl h5]
        show upd m.ent _ _ x = _
        rw [show m.ent = at_ (p ++ e :: s) from funext h.ent]
      · rw [org_set (e := e) (e' := { e with flags := r.flags }) rfl rfl]
        exact h.org o
      · show m.ub = _
        rw [h.ub, sumS_app, sumS_app]
        simp [sumS, hg]
      · show m.uc = _
        rw [h.uc, cntS_app, cntS_app]
        simp [cntS, hg]
  · rw [if_neg h4, if_neg h4]; exact ⟨h, rfl, .same _⟩
/-- the next number never falls -/
theorem take_next_ge (m : Box) (r : Rec) : m.next ≤ (take m r).1.next := by
  unfold take
  split
  · exact Int.le_refl _
  split
  · unfold add
    split
    · exact Int.le_refl _
    · show m.next ≤ (if m.next < r.uid + 1 then r.uid + 1 else m.next)
      split <;> omega
  split
  · unfold gone
    split
    · exact Int.le_refl _
    · exact Int.le_refl _
  split
  · unfold flag
    split
    · exact Int.le_refl _
    · exact Int.le_refl _
  · exact Int.le_refl _
end Go.Proofs.Ytohchhgheeolpaa.Mbx

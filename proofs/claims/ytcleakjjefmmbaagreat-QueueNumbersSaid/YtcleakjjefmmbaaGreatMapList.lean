/- Maps as lists of keys and values, in whatever order. For every program. -/
import Derived.Test.YtcleakjjefmmbaaGreatK02
import Derived.Maps.OwnSet
import Derived.Maps.OwnOps
import Derived.Sort.KeysCollected
import Derived.Lib.SlKeysI
namespace Go.Proofs.YtcleakjjefmmbaaGreat
open Go.RowKit
namespace Mp
open Go.Maps Go.WideShapes
section
variable {κ α : Type}
structure MapOf (kl : κ → Lit) (enc : α → DataW Unit) (D : DataW Unit) (l : List (κ × α)) : Prop where
 ex : ∃ es, D = .map es ∧ es.Perm (l.map fun p => (kl p.1, enc p.2))
 nd : (l.map (·.1)).Nodup
variable {kl : κ → Lit} {enc : α → DataW Unit} {D : DataW Unit} {l : List (κ × α)}
theorem MapOf.new : MapOf kl enc (.map []) ([] : List (κ × α)) := ⟨⟨[], rfl, by simp⟩, by simp⟩
theorem MapOf.perm (h : MapOf kl enc D l) {l' : List (κ × α)} (hp : l.Perm l') : MapOf kl enc D l' := by
 obtain ⟨⟨es, e, p⟩, nd⟩ := h
 exact ⟨⟨es, e, p.trans (hp.map _)⟩, (hp.map _).nodup_iff.1 nd⟩
theorem MapOf.size (h : MapOf kl enc D l) : Maps.size D = l.length := by
 obtain ⟨es, rfl, p⟩ := h.ex
 rw [size_eq, p.length_eq, List.length_map]
end
section
variable {κ α : Type} [DecidableEq κ]
def look (l : List (κ × α)) (k : κ) : Option α := (l.find? fun p => decide (p.1 = k)).map (·.2)
def del (l : List (κ × α)) (k : κ) : List (κ × α) := l.filter fun p => decide (p.1 ≠ k)
def putL (l : List (κ × α)) (k : κ) (v : α) : List (κ × α) := del l k ++ [(k, v)]
/-- a kind of key: how it reads -/
structure Kind (kl : κ → Lit) : Prop where
 key : ∀ k, WideAt.IsKeyLit (kl k)
 inj : ∀ a b, kl a = kl b → a = b
theorem strKind : Kind (fun s : List UInt8 => Lit.string s) := ⟨fun _ => trivial, fun a b h => by simpa using h⟩
theorem intKind : Kind (fun n : Int => Lit.int .i64 n) := ⟨fun _ => trivial, fun a b h => by simpa using h⟩
variable {kl : κ → Lit} {enc : α → DataW Unit} {D : DataW Unit} {l : List (κ × α)}
theorem same_iff (K : Kind kl) (a b : κ) : (kl a).sameKey (kl b) = decide (a = b) := by
 rw [Bool.eq_iff_iff, WideAt.sameKey_iff (K.key b), decide_eq_true_eq]
 exact ⟨K.inj a b, fun h => by rw [h]⟩
theorem any_perm {β : Type} {a b : List β} (h : a.Perm b) (f : β → Bool) : a.any f = b.any f := by
 rw [Bool.eq_iff_iff, List.any_eq_true, List.any_eq_true]
 exact ⟨fun ⟨x, hx, hf⟩ => ⟨x, h.mem_iff.1 hx, hf⟩, fun ⟨x, hx, hf⟩ => ⟨x, h.mem_iff.2 hx, hf⟩⟩
theorem look_some {k : κ} {v : α} (nd : (l.map (·.1)).Nodup) : look l k = some v ↔ (k, v) ∈ l := by
 induction l with
 |nil => simp [look]
 |cons p l ih =>
  obtain ⟨a, u⟩ := p
  simp only [List.map_cons, List.nodup_cons] at nd
  have ih := ih nd.2
  unfold look at ih ⊢
  rw [List.find?_cons]
  by_cases h : a = k
  ·subst h
   simp only [decide_true, Option.map_some, Option.some.injEq, List.mem_cons, Prod.mk.injEq, true_and]
   constructor
   ·intro h; exact .inl h.symm
   ·rintro (h | h)
    ·exact h.symm
    ·exact absurd (List.mem_map.2 ⟨(a, v), h, rfl⟩) nd.1
  ·simp only [decide_eq_false h, List.mem_cons, Prod.mk.injEq]
   rw [ih]
   exact ⟨fun h' => .inr h', fun h' => h'.resolve_left (fun e => h e.1.symm)⟩
theorem look_none {k : κ} : look l k = none ↔ k ∉ l.map (·.1) := by
 unfold look
 rw [Option.map_eq_none_iff, List.find?_eq_none]
 simp only [decide_eq_true_eq, List.mem_map, not_exists, not_and]
theorem look_isSome (l : List (κ × α)) (k : κ) : (look l k).isSome = decide (k ∈ l.map (·.1)) := by
 rw [Bool.eq_iff_iff, decide_eq_true_eq]
 cases h : look l k with
 |none => simpa using look_none.1 h
 |some v =>
  simp only [Option.isSome_some, true_iff]
  by_cases hm : k ∈ l.map (·.1)
  ·exact hm
  ·rw [look_none.2 hm] at h; cases h
theorem MapOf.has (h : MapOf kl enc D l) (K : Kind kl) (k : κ) : Maps.has D (kl k) = (look l k).isSome := by
 obtain ⟨es, rfl, p⟩ := h.ex
 rw [has_eq, any_perm p, List.any_map, look_isSome, Bool.eq_iff_iff, List.any_eq_true, decide_eq_true_eq]
 simp only [Function.comp, same_iff K, decide_eq_true_eq, List.mem_map]
theorem MapOf.at_ (h : MapOf kl enc D l) (K : Kind kl) (k : κ) (z : α) : D.atKey (kl k) (enc z) = enc ((look l k).getD z) := by
 obtain ⟨es, rfl, p⟩ := h.ex
 simp only [DataW.atKey]
 cases hf : es.find? (fun p => p.1.sameKey (kl k)) with
 |none =>
  have : look l k = none := by
   rw [look_none]
   intro hm
   obtain ⟨x, hx, rfl⟩ := List.mem_map.1 hm
   have := List.find?_eq_none.1 hf (kl x.1, enc x.2) (p.mem_iff.2 (List.mem_map.2 ⟨x, hx, rfl⟩))
   rw [same_iff K] at this
   simp at this
  rw [this]
  rfl
 |some q =>
  have h1 := List.mem_of_find?_eq_some hf
  have h2 := List.find?_some hf
  obtain ⟨x, hx, rfl⟩ := List.mem_map.1 (p.mem_iff.1 h1)
  simp only [same_iff K, decide_eq_true_eq] at h2
  subst h2
  rw [(look_some h.nd).2 hx]
  rfl
theorem filter_key (K : Kind kl) (k : κ) : (l.map fun p => (kl p.1, enc p.2)).filter (fun p => !p.1.sameKey (kl k)) = (del l k).map fun p => (kl p.1, enc p.2) := by
 unfold del
 rw [List.filter_map]
 congr 1
 apply List.filter_congr
 intro p _
 simp only [Function.comp, same_iff K]
 by_cases h : p.1 = k <;> simp [h]
theorem del_nodup (nd : (l.map (·.1)).Nodup) (k : κ) : ((del l k).map (·.1)).Nodup := by
 unfold del
 exact nd.sublist ((List.filter_sublist).map _)
theorem del_not (k : κ) : k ∉ (del l k).map (·.1) := by
 intro h
 obtain ⟨p, hp, rfl⟩ := List.mem_map.1 h
 have := (List.mem_filter.1 hp).2
 simp at this
theorem MapOf.del (h : MapOf kl enc D l) (K : Kind kl) (k : κ) : MapOf kl enc (D.del (kl k)) (Mp.del l k) := by
 obtain ⟨⟨es, rfl, p⟩, nd⟩ := h
 refine ⟨⟨es.filter fun p => !p.1.sameKey (kl k), rfl, ?_⟩, del_nodup nd k⟩
 rw [← filter_key K]
 exact p.filter _
theorem MapOf.put (h : MapOf kl enc D l) (K : Kind kl) (k : κ) (v : α) : MapOf kl enc (D.put (kl k) (enc v)) (putL l k v) := by
 obtain ⟨⟨es, rfl, p⟩, nd⟩ := h
 refine ⟨⟨DataW.insert (kl k, enc v) (es.filter fun p => !p.1.sameKey (kl k)), rfl, ?_⟩, ?_⟩
 ·refine (insert_perm _ _).trans ?_
  unfold putL
  rw [List.map_append, ← filter_key K]
  exact ((p.filter _).cons _).trans (List.perm_append_comm (l₁ := [(kl k, enc v)]))
 ·unfold putL
  rw [List.map_append, List.nodup_append]
  refine ⟨del_nodup nd k, by simp, ?_⟩
  intro a ha b hb e
  simp only [List.map_cons, List.map_nil, List.mem_singleton] at hb
  subst hb e
  exact del_not a ha
end
end Mp
end Go.Proofs.YtcleakjjefmmbaaGreat

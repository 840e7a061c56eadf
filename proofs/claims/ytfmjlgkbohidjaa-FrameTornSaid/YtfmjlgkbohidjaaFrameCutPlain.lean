/- Frames one behind the other, cut off: plain. No program. -/
import Derived.Test.YtfmjlgkbohidjaaFrameRefAtPlain
namespace Go.Proofs.Ytfmjlgkbohidjaa.Frm
open Oct

theorem take_of_prefix {α : Type} {a b : List α} {j : Nat} (h : a.length ≤ j) : (a ++ b).take j = a ++ b.take (j - a.length) := by
  rw [List.take_append, List.take_of_length_le h]

theorem rdN_cut (m : List UInt8) : ∀ (j : Nat), j < (veil m).length → (rdN m.length ((veil m).take j)).1 = 2 := by
  induction m with
  | nil => intro j h; simp [veil] at h
  | cons c m ih =>
    intro j h
    have e : veil (c :: m) = veilB c ++ veil m := by simp [veil]
    rw [e] at h ⊢
    rw [List.length_append] at h
    by_cases hj : (veilB c).length ≤ j
    · rw [take_of_prefix hj]
      have hp := rd_put c ((veil m).take (j - (veilB c).length))
      have hi := ih (j - (veilB c).length) (by omega)
      simp only [List.length_cons, rdN, hp, if_true]
      rw [List.drop_left]
      exact hi
    · have hle := (veilB_len c).2
      have h0 : j = 0 ∨ (j = 1 ∧ (c = 80 ∨ c = 81)) := by
        by_cases hc : c = 80 ∨ c = 81
        · have hj01 : j = 0 ∨ j = 1 := by omega
          rcases hj01 with h | h
          · exact .inl h
          · exact .inr ⟨h, hc⟩
        · have : (veilB c).length = 1 := by unfold veilB; rw [if_neg hc]; rfl
          omega
      rcases h0 with rfl | ⟨rfl, hc⟩
      · simp [rdN, rd]
      · have : (veilB c ++ veil m).take 1 = [81] := by unfold veilB; rw [if_pos hc]; rfl
        rw [this]
        simp [rdN, rd]

theorem inner_cut {k : Nat} {p : List UInt8} (hp : p.length ≤ 65536) {j : Nat} (hj : j < (veil (body k p)).length) : (inner ((veil (body k p)).take j)).1 = 2 := by
  have hB : body k p = front k p.length ++ (be 4 (sumN k p) ++ p) := rfl
  have hH : headN (front k p.length) = p.length := front_head k (by omega)
  have hcut := rdN_cut (body k p) j hj
  rw [body_len] at hcut
  by_cases hf : (veil (front k p.length)).length ≤ j
  · have hr : (veil (body k p)).take j = veil (front k p.length) ++ (veil (be 4 (sumN k p) ++ p)).take (j - (veil (front k p.length)).length) := by
      rw [hB, veil_append, take_of_prefix hf]
    have h5 : rdN 5 ((veil (body k p)).take j) = (0, front k p.length, (veil (front k p.length)).length) := by
      rw [hr]
      have := rdN_put (front k p.length) ((veil (be 4 (sumN k p) ++ p)).take (j - (veil (front k p.length)).length))
      rwa [front_len] at this
    unfold inner
    rw [h5]
    simp only [ne_eq, not_true_eq_false, if_false]
    rw [hH, if_neg (by omega), if_pos (by rw [hcut]; decide), hcut]
  · have hr : (veil (body k p)).take j = (veil (front k p.length)).take j := by
      rw [hB, veil_append, List.take_append_of_le_length (by omega)]
    have h5 := rdN_cut (front k p.length) j (by omega)
    rw [front_len, ← hr] at h5
    unfold inner
    rw [if_pos (by rw [h5]; decide), h5]

theorem at_cut {l : List UInt8} {a k j : Nat} {p : List UInt8} (hk : k ≤ 255) (hp : p.length ≤ 65536) (hj : j < (wrapL k p).length) (hd : l.drop a = (wrapL k p).take j) (ha : a ≤ l.length) : atE l a = 2 := by
  obtain ⟨-, hw⟩ := wrapL_ok hk hp
  unfold atE
  rw [if_neg (by omega), Int.toNat_natCast, hd, hw]
  rw [hw, List.length_cons] at hj
  cases j with
  | zero => rfl
  | succ j =>
    rw [List.take_succ_cons]
    simp only [ne_eq, not_true_eq_false, if_false]
    exact inner_cut hp (by omega)

/-- frames one behind the other -/
def cat (F : List (Nat × List UInt8)) : List UInt8 := F.flatMap fun x => wrapL x.1 x.2
def catOk (F : List (Nat × List UInt8)) : Prop := ∀ x ∈ F, x.1 ≤ 255 ∧ x.2.length ≤ 65536
/-- how many are whole within so many bytes -/
def whole : List (Nat × List UInt8) → Nat → Nat
  | [], _ => 0
  | x :: F, c => if (wrapL x.1 x.2).length ≤ c then whole F (c - (wrapL x.1 x.2).length) + 1 else 0
theorem whole_le (F : List (Nat × List UInt8)) : ∀ c, whole F c ≤ F.length := by
  induction F with
  | nil => intro c; simp [whole]
  | cons x F ih =>
    intro c
    unfold whole
    split
    · have := ih (c - (wrapL x.1 x.2).length); simp only [List.length_cons]; omega
    · simp
theorem cat_cons (x : Nat × List UInt8) (F : List (Nat × List UInt8)) : cat (x :: F) = wrapL x.1 x.2 ++ cat F := by simp [cat]
theorem wrapL_pos {k : Nat} {p : List UInt8} (hk : k ≤ 255) (hp : p.length ≤ 65536) : 1 ≤ (wrapL k p).length := by
  rw [(wrapL_ok hk hp).2]; simp

theorem row_cat (l : List UInt8) : ∀ (F : List (Nat × List UInt8)) (c k u : Nat), catOk F → c ≤ (cat F).length → u ≤ l.length → l.length ≤ u + k → l.drop u = (cat F).take c →
    (rowN l k u).1.map (fun f => (f.kind, f.pay)) = (F.take (whole F c)).map (fun x => ((x.1 : Int), x.2)) ∧ (rowN l k u).2.2 = if c = (cat (F.take (whole F c))).length then 0 else 2 := by
  intro F
  induction F with
  | nil =>
    intro c k u _ hc hu hk hd
    have hc0 : c = 0 := by simpa [cat] using hc
    subst hc0
    have hlen := congrArg List.length hd
    rw [List.length_drop] at hlen
    simp at hlen
    rw [rowN_end (by omega)]
    simp [whole, cat]
  | cons x F ih =>
    intro c k u hok hc hu hk hd
    obtain ⟨h1, h2⟩ := hok x (by simp)
    have hpos := wrapL_pos h1 h2
    have hlen := congrArg List.length hd
    rw [List.length_drop, List.length_take] at hlen
    by_cases hw : (wrapL x.1 x.2).length ≤ c
    · have hwh : whole (x :: F) c = whole F (c - (wrapL x.1 x.2).length) + 1 := by rw [whole, if_pos hw]
      rw [cat_cons] at hd hc hlen
      rw [List.length_append] at hc hlen
      rw [take_of_prefix hw] at hd
      obtain ⟨he, hf⟩ := at_put h1 h2 hd
      obtain ⟨k', rfl⟩ : ∃ k', k = k' + 1 := ⟨k - 1, by omega⟩
      have hlt : u < l.length := by omega
      rw [rowN_ok hlt he, hf, hwh]
      simp only [Int.toNat_natCast]
      have hd2 : l.drop (u + (wrapL x.1 x.2).length) = (cat F).take (c - (wrapL x.1 x.2).length) := by
        rw [← List.drop_drop, hd, List.drop_left]
      obtain ⟨i1, i2⟩ := ih (c - (wrapL x.1 x.2).length) k' (u + (wrapL x.1 x.2).length) (fun y hy => hok y (by simp [hy])) (by omega) (by omega) (by omega) hd2
      refine ⟨by simp [i1], ?_⟩
      rw [i2, List.take_succ_cons, cat_cons, List.length_append]
      by_cases h : c - (wrapL x.1 x.2).length = (cat (F.take (whole F (c - (wrapL x.1 x.2).length)))).length
      · rw [if_pos h, if_pos (by omega)]
      · rw [if_neg h, if_neg (by omega)]
    · have hwh : whole (x :: F) c = 0 := by rw [whole, if_neg hw]
      rw [hwh]
      rw [cat_cons, List.take_append_of_le_length (by omega)] at hd
      rw [cat_cons, List.length_append] at hlen
      by_cases hc0 : c = 0
      · subst hc0
        rw [rowN_end (by omega)]
        simp [cat]
      · obtain ⟨k', rfl⟩ : ∃ k', k = k' + 1 := ⟨k - 1, by omega⟩
        have he := at_cut h1 h2 (by omega) hd hu
        rw [rowN_err (by omega) (by rw [he]; decide), he]
        simp [cat, hc0]

/-- where each ends -/
def endAt (F : List (Nat × List UInt8)) (i : Nat) : Nat := (cat (F.take (i + 1))).length
theorem cat_append (A B : List (Nat × List UInt8)) : cat (A ++ B) = cat A ++ cat B := by simp [cat]
theorem whole_ends : ∀ (F : List (Nat × List UInt8)) (c i : Nat), i < F.length → (endAt F i ≤ c ↔ i < whole F c) := by
  intro F
  induction F with
  | nil => intro c i h; simp at h
  | cons x F ih =>
    intro c i h
    unfold endAt
    rw [List.take_succ_cons, cat_cons, List.length_append]
    by_cases hw : (wrapL x.1 x.2).length ≤ c
    · rw [whole, if_pos hw]
      cases i with
      | zero => simp [cat]; omega
      | succ i =>
        have := ih (c - (wrapL x.1 x.2).length) i (by simpa using h)
        unfold endAt at this
        omega
    · rw [whole, if_neg hw]
      omega
end Go.Proofs.Ytfmjlgkbohidjaa.Frm

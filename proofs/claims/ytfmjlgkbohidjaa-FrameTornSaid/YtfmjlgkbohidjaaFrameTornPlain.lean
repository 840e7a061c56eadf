/- Frames behind anything are found; behind a frame's part nothing else is: plain. No program. -/
import Derived.Test.YtfmjlgkbohidjaaFrameCutPlain
namespace Go.Proofs.Ytfmjlgkbohidjaa.Frm
open Oct

def kp (f : Fr1) : Int × List UInt8 := (f.kind, f.pay)
def kq (x : Nat × List UInt8) : Int × List UInt8 := ((x.1 : Int), x.2)

theorem scan_cat (l : List UInt8) : ∀ (F : List (Nat × List UInt8)) (k g u : Nat), catOk F → u ≤ l.length → l.length ≤ u + k → l.drop u = cat F → (scanN l k g u).1.map kp = F.map kq := by
  intro F
  induction F with
  | nil =>
    intro k g u _ hu hk hd
    have hlen := congrArg List.length hd
    rw [List.length_drop] at hlen
    simp [cat] at hlen
    rw [scanN_end (by omega)]
    rfl
  | cons x F ih =>
    intro k g u hok hu hk hd
    obtain ⟨h1, h2⟩ := hok x (by simp)
    have hpos := wrapL_pos h1 h2
    rw [cat_cons] at hd
    have hlen := congrArg List.length hd
    rw [List.length_drop, List.length_append] at hlen
    obtain ⟨he, hf⟩ := at_put h1 h2 hd
    obtain ⟨k', rfl⟩ : ∃ k', k = k' + 1 := ⟨k - 1, by omega⟩
    rw [scanN_ok (by omega) he, hf]
    simp only [Int.toNat_natCast, List.map_cons]
    have hd2 : l.drop (u + (wrapL x.1 x.2).length) = cat F := by rw [← List.drop_drop, hd, List.drop_left]
    rw [ih k' _ (u + (wrapL x.1 x.2).length) (fun y hy => hok y (by simp [hy])) (by omega) (by omega) hd2]
    rfl

theorem cat_head {F : List (Nat × List UInt8)} (hok : catOk F) : cat F = [] ∨ ∃ z, cat F = 80 :: z := by
  cases F with
  | nil => left; rfl
  | cons x F =>
    obtain ⟨h1, h2⟩ := hok x (by simp)
    right
    rw [cat_cons, (wrapL_ok h1 h2).2]
    exact ⟨_, rfl⟩

/-- no frame leads over the place where a mark stands -/
theorem at_within {a T : List UInt8} (hT : T = [] ∨ ∃ z, T = 80 :: z) {u : Nat} (hu : u < a.length) (he : atE (a ++ T) u = 0) : (u : Int) + (atF (a ++ T) u).len ≤ a.length := by
  have hlen := atE_len he
  obtain ⟨c, r, hd, -, hi, hlt, hF⟩ := atE_ok he
  obtain ⟨i1, i2, i3, i4⟩ := inner_used hi
  rcases hT with rfl | ⟨z, rfl⟩
  · rw [List.append_nil] at hlen
    simpa using hlen.2.1
  · rw [hF]
    simp only
    refine Classical.byContradiction fun hn => ?_
    have h1 : (a ++ 80 :: z)[a.length]? = some 80 := by simp
    have h2 : r[a.length - u - 1]? = some 80 := by
      have h3 : ((a ++ 80 :: z).drop u)[a.length - u]? = some 80 := by
        rw [List.getElem?_drop, show u + (a.length - u) = a.length from by omega]; exact h1
      rw [hd, show a.length - u = (a.length - u - 1) + 1 from by omega, List.getElem?_cons_succ] at h3
      exact h3
    have h4 : (r.take (inner r).2.2)[a.length - u - 1]? = some 80 := by
      rw [List.getElem?_take, if_pos (by omega)]; exact h2
    rw [i4] at h4
    exact veil_mark _ (List.mem_of_getElem? h4)

theorem cat_nil {F : List (Nat × List UInt8)} (hok : catOk F) (h : (cat F).length = 0) : F = [] := by
  cases F with
  | nil => rfl
  | cons x F =>
    obtain ⟨h1, h2⟩ := hok x (by simp)
    have := wrapL_pos h1 h2
    rw [cat_cons, List.length_append] at h
    omega

theorem scan_behind {a : List UInt8} {F : List (Nat × List UInt8)} (hok : catOk F) : ∀ (k g u : Nat), u ≤ a.length → (a ++ cat F).length ≤ u + k → ∃ pre, (scanN (a ++ cat F) k g u).1.map kp = pre ++ F.map kq := by
  intro k
  induction k with
  | zero =>
    intro g u hu hk
    rw [List.length_append] at hk
    have := cat_nil hok (by omega)
    subst this
    exact ⟨[], rfl⟩
  | succ k ih =>
    intro g u hu hk
    by_cases h : u = a.length
    · exact ⟨[], by rw [scan_cat _ F _ _ _ hok (by rw [List.length_append]; omega) hk (by rw [h, List.drop_left])]; rfl⟩
    · have hlt : u < (a ++ cat F).length := by rw [List.length_append]; omega
      by_cases he : atE (a ++ cat F) u = 0
      · have hw := at_within (cat_head hok) (show u < a.length by omega) he
        have hl := atE_len he
        rw [scanN_ok hlt he]
        obtain ⟨pre, hp⟩ := ih (u + (atF (a ++ cat F) u).len.toNat) (u + (atF (a ++ cat F) u).len.toNat) (by omega) (by omega)
        exact ⟨kp (atF (a ++ cat F) u) :: pre, by simp only [List.map_cons, hp]; rfl⟩
      · rw [scanN_err hlt he]
        exact ih g (u + 1) (by omega) (by omega)

theorem scan_none {a : List UInt8} {F : List (Nat × List UInt8)} (hok : catOk F) (hn : ∀ u : Nat, u < a.length → atE (a ++ cat F) u ≠ 0) : ∀ (k g u : Nat), u ≤ a.length → (a ++ cat F).length ≤ u + k → (scanN (a ++ cat F) k g u).1.map kp = F.map kq := by
  intro k
  induction k with
  | zero =>
    intro g u hu hk
    rw [List.length_append] at hk
    have := cat_nil hok (by omega)
    subst this
    rfl
  | succ k ih =>
    intro g u hu hk
    by_cases h : u = a.length
    · exact scan_cat _ F _ _ _ hok (by rw [List.length_append]; omega) hk (by rw [h, List.drop_left])
    · have hlt : u < (a ++ cat F).length := by rw [List.length_append]; omega
      rw [scanN_err hlt (hn u (by omega))]
      exact ih g (u + 1) (by omega) (by omega)

theorem rdN_torn {T : List UInt8} (hT : T = [] ∨ ∃ z, T = 80 :: z) (m : List UInt8) : ∀ (j : Nat), j < (veil m).length → (rdN m.length ((veil m).take j ++ T)).1 ≠ 0 := by
  induction m with
  | nil => intro j h; simp [veil] at h
  | cons c m ih =>
    intro j h
    have e : veil (c :: m) = veilB c ++ veil m := by simp [veil]
    rw [e] at h ⊢
    rw [List.length_append] at h
    by_cases hj : (veilB c).length ≤ j
    · rw [take_of_prefix hj, List.append_assoc]
      have hp := rd_put c ((veil m).take (j - (veilB c).length) ++ T)
      have hi := ih (j - (veilB c).length) (by omega)
      simp only [List.length_cons, rdN, hp, if_true]
      rw [List.drop_left]
      exact hi
    · have hle := (veilB_len c).2
      have h0 : j = 0 ∨ (j = 1 ∧ (c = 80 ∨ c = 81)) := by
        by_cases hc : c = 80 ∨ c = 81
        · have hj01 : j = 0 ∨ j = 1 := by omega
          rcases hj01 with h | h
          · exact .inl h
          · exact .inr ⟨h, hc⟩
        · have : (veilB c).length = 1 := by unfold veilB; rw [if_neg hc]; rfl
          omega
      rcases h0 with rfl | ⟨rfl, hc⟩
      · rcases hT with rfl | ⟨z, rfl⟩ <;> simp [rdN, rd]
      · have : (veilB c ++ veil m).take 1 = [81] := by unfold veilB; rw [if_pos hc]; rfl
        rw [this]
        rcases hT with rfl | ⟨z, rfl⟩ <;> simp [rdN, rd]

theorem inner_torn {T : List UInt8} (hT : T = [] ∨ ∃ z, T = 80 :: z) {k : Nat} {p : List UInt8} (hp : p.length ≤ 65536) {j : Nat} (hj : j < (veil (body k p)).length) : (inner ((veil (body k p)).take j ++ T)).1 ≠ 0 := by
  have hB : body k p = front k p.length ++ (be 4 (sumN k p) ++ p) := rfl
  have hH : headN (front k p.length) = p.length := front_head k (by omega)
  have hcut := rdN_torn hT (body k p) j hj
  rw [body_len] at hcut
  by_cases hf : (veil (front k p.length)).length ≤ j
  · have hr : (veil (body k p)).take j ++ T = veil (front k p.length) ++ ((veil (be 4 (sumN k p) ++ p)).take (j - (veil (front k p.length)).length) ++ T) := by
      rw [hB, veil_append, take_of_prefix hf, List.append_assoc]
    have h5 : rdN 5 ((veil (body k p)).take j ++ T) = (0, front k p.length, (veil (front k p.length)).length) := by
      rw [hr]
      have := rdN_put (front k p.length) ((veil (be 4 (sumN k p) ++ p)).take (j - (veil (front k p.length)).length) ++ T)
      rwa [front_len] at this
    unfold inner
    rw [h5]
    simp only [ne_eq, not_true_eq_false, if_false]
    rw [hH, if_neg (by omega), if_pos hcut]
    exact hcut
  · have hr : (veil (body k p)).take j = (veil (front k p.length)).take j := by
      rw [hB, veil_append, List.take_append_of_le_length (by omega)]
    have h5 := rdN_torn hT (front k p.length) j (by omega)
    rw [front_len, ← hr] at h5
    unfold inner
    rw [if_pos h5]
    exact h5

theorem torn_none {F : List (Nat × List UInt8)} (hok : catOk F) {k j : Nat} {p : List UInt8} (hk : k ≤ 255) (hp : p.length ≤ 65536) (hj : j < (wrapL k p).length) : ∀ u : Nat, u < ((wrapL k p).take j).length → atE ((wrapL k p).take j ++ cat F) u ≠ 0 := by
  intro u hu
  obtain ⟨-, hw⟩ := wrapL_ok hk hp
  rw [List.length_take] at hu
  rw [hw, List.length_cons] at hj
  obtain ⟨i, rfl⟩ : ∃ i, j = i + 1 := ⟨j - 1, by omega⟩
  rw [hw, List.take_succ_cons]
  unfold atE
  rw [if_neg (by simp only [List.length_append, List.length_cons, List.length_take]; omega), Int.toNat_natCast]
  cases u with
  | zero =>
    rw [List.drop_zero, List.cons_append]
    simp only [ne_eq, not_true_eq_false, if_false]
    exact inner_torn (cat_head hok) hp (by omega)
  | succ u =>
    rw [List.cons_append, List.drop_succ_cons]
    have hul : u < ((veil (body k p)).take i).length := by rw [List.length_take]; omega
    have hd : ((veil (body k p)).take i ++ cat F).drop u = ((veil (body k p)).take i)[u] :: ((veil (body k p)).take i ++ cat F).drop (u + 1) := by
      rw [List.drop_eq_getElem_cons (by rw [List.length_append]; omega), List.getElem_append_left hul]
    rw [hd]
    simp only
    rw [if_pos]
    · decide
    · intro h
      have hm : (80 : UInt8) ∈ (veil (body k p)).take i := h ▸ List.getElem_mem hul
      exact veil_mark _ (List.mem_of_mem_take hm)

theorem torn_found {F : List (Nat × List UInt8)} (hok : catOk F) {k j : Nat} {p : List UInt8} (hk : k ≤ 255) (hp : p.length ≤ 65536) (hj : j < (wrapL k p).length) : (scanR ((wrapL k p).take j ++ cat F)).1.map kp = F.map kq :=
  scan_none hok (torn_none hok hk hp hj) _ 0 0 (Nat.zero_le _) (by omega)
theorem behind_found {F : List (Nat × List UInt8)} (hok : catOk F) (a : List UInt8) : ∃ pre, (scanR (a ++ cat F)).1.map kp = pre ++ F.map kq :=
  scan_behind hok _ 0 0 (Nat.zero_le _) (by omega)
end Go.Proofs.Ytfmjlgkbohidjaa.Frm

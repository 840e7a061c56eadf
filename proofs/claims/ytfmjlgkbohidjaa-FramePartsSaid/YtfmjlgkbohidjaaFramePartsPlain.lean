/- Frames and gaps share out the bytes: plain. No program. -/
import Derived.Test.YtfmjlgkbohidjaaFrameRefAtPlain
namespace Go.Proofs.Ytfmjlgkbohidjaa.Frm
open Oct

theorem inner_shape {r : List UInt8} (h : (inner r).1 = 0) : (inner r).2.1.length = 9 + headN (inner r).2.1 ∧ headN (inner r).2.1 ≤ 65536 ∧ Crc.more 0 ((inner r).2.1.take 5 ++ (inner r).2.1.drop 9) = getV (inner r).2.1 5 4 := by
  unfold inner at h ⊢
  split at h
  · rename_i h5; exact absurd h h5
  · rename_i h5
    rw [if_neg h5]
    split at h
    · simp at h
    · rename_i hb
      rw [if_neg hb]
      split at h
      · rename_i h9; exact absurd h h9
      · rename_i h9
        rw [if_neg h9]
        split at h
        · simp at h
        · rename_i hs
          rw [if_neg hs]
          have hl := rdN_len h
          have hr : rdN (rdN (9 + headN (rdN 5 r).2.1) r).2.1.length r = (0, (rdN (9 + headN (rdN 5 r).2.1) r).2.1, (rdN (9 + headN (rdN 5 r).2.1) r).2.2) := by
            conv => lhs; rw [hl]
            rw [← h]
          obtain ⟨-, hh⟩ := rdN_pre hr (by omega)
          refine ⟨by rw [← hh]; exact hl, by rw [← hh]; omega, ?_⟩
          have := Classical.not_not.1 hs
          omega

/-- what was found, wrapped again, is the very bytes there -/
theorem frame_wraps {l : List UInt8} {u : Nat} (h : atE l u = 0) : ∃ (k m : Nat), k ≤ 255 ∧ (atF l u).kind = (k : Int) ∧ (atF l u).at' = (u : Int) ∧ (atF l u).len = (m : Int) ∧ (atF l u).pay.length ≤ 65536 ∧ u + m ≤ l.length ∧ wrapE (k : Int) (atF l u).pay.length = 0 ∧ wrapL (k : Int) (atF l u).pay = (l.drop u).take m ∧ (wrapL (k : Int) (atF l u).pay).length = m ∧ 10 ≤ m := by
  obtain ⟨c, r, hd, hc, hi, hlt, hF⟩ := atE_ok h
  obtain ⟨i1, i2, i3, i4⟩ := inner_used hi
  obtain ⟨s1, s2, s3⟩ := inner_shape hi
  have hlen := congrArg List.length hd
  rw [List.length_drop, List.length_cons] at hlen
  rw [hF]
  simp only
  generalize (inner r).2.1 = O at *
  generalize (inner r).2.2 = us at *
  obtain ⟨x, hx⟩ : ∃ x, O[0]? = some x := ⟨O[0]'(by omega), List.getElem?_eq_getElem (by omega)⟩
  have hhd : O.headD 0 = x := by
    cases O with
    | nil => simp at hx
    | cons y O => simp at hx; simp [hx]
  have hw := (wrap_same s1 s2 hx).2 s3
  have hxl := x.toNat_lt
  have hpl : (O.drop 9).length ≤ 65536 := by rw [List.length_drop]; omega
  refine ⟨x.toNat, 1 + us, by omega, by rw [hhd], trivial, by omega, hpl, by omega, (wrapL_ok (by omega) hpl).1, ?_, ?_, by omega⟩
  · rw [hw, hd, hc, Nat.add_comm 1 us, List.take_succ_cons, i4]
  · rw [hw, ← i4, List.length_cons, List.length_take]; omega

def ind (a b : Int) (j : Nat) : Nat := if a ≤ (j : Int) ∧ (j : Int) < b then 1 else 0
theorem ind_add {a b c : Int} (h1 : a ≤ b) (h2 : b ≤ c) (j : Nat) : ind a b j + ind b c j = ind a c j := by
  simp only [ind]
  split <;> split <;> split <;> omega
def cntF : List Fr1 → Nat → Nat
  | [], _ => 0
  | f :: fs, j => ind f.at' (f.at' + f.len) j + cntF fs j
def cntG : List Gap1 → Nat → Nat
  | [], _ => 0
  | g :: gs, j => ind g.fro g.to j + cntG gs j
theorem cntF_app (a b : List Fr1) (j : Nat) : cntF (a ++ b) j = cntF a j + cntF b j := by
  induction a with
  | nil => simp [cntF]
  | cons f a ih => simp only [List.cons_append, cntF, ih]; omega
theorem cntG_app (a b : List Gap1) (j : Nat) : cntG (a ++ b) j = cntG a j + cntG b j := by
  induction a with
  | nil => simp [cntG]
  | cons f a ih => simp only [List.cons_append, cntG, ih]; omega

theorem scan_cnt (l : List UInt8) (j : Nat) : ∀ k g u, g ≤ u → u ≤ l.length → l.length ≤ u + k → cntF (scanN l k g u).1 j + cntG (scanN l k g u).2 j = ind g l.length j := by
  intro k
  induction k with
  | zero =>
    intro g u hg hu hk
    rw [scanN_end (by omega)]
    have : u = l.length := by omega
    subst this
    by_cases h : g < l.length
    · rw [if_pos h]; simp [cntF, cntG]
    · rw [if_neg h]; simp [cntF, cntG, ind]; omega
  | succ k ih =>
    intro g u hg hu hk
    by_cases hlt : u < l.length
    · by_cases he : atE l u = 0
      · obtain ⟨kk, m, -, -, h3, h4, -, h6, -, -, -, h10⟩ := frame_wraps he
        rw [scanN_ok hlt he, h4]
        simp only [Int.toNat_natCast, cntF]
        have hi := ih (u + m) (u + m) (Nat.le_refl _) (by omega) (by omega)
        rw [h3, h4]
        have a1 := ind_add (a := (u : Int)) (b := (u : Int) + m) (c := l.length) (by omega) (by omega) j
        have a2 := ind_add (a := (g : Int)) (b := (u : Int)) (c := l.length) (by omega) (by omega) j
        rw [show ((u + m : Nat) : Int) = (u : Int) + m from by omega] at hi
        by_cases hgu : g < u
        · rw [if_pos hgu, cntG_app]
          simp only [cntG]
          omega
        · rw [if_neg hgu, List.nil_append]
          have : g = u := by omega
          subst this
          omega
      · rw [scanN_err hlt he]
        exact ih g (u + 1) (by omega) (by omega) (by omega)
    · rw [scanN_end hlt]
      have : u = l.length := by omega
      subst this
      by_cases h : g < l.length
      · rw [if_pos h]; simp [cntF, cntG]
      · rw [if_neg h]; simp [cntF, cntG, ind]; omega

theorem scan_frames (l : List UInt8) : ∀ k g u, ∀ f ∈ (scanN l k g u).1, ∃ v : Nat, atE l v = 0 ∧ f = atF l v := by
  intro k
  induction k with
  | zero => intro g u f hf; unfold scanN at hf; split at hf <;> simp at hf
  | succ k ih =>
    intro g u f hf
    unfold scanN at hf
    split at hf
    · split at hf
      · rename_i h1 h2
        rcases List.mem_cons.1 hf with rfl | hf
        · exact ⟨u, h2, rfl⟩
        · exact ih _ _ f hf
      · exact ih _ _ f hf
    · simp at hf

def gapsOk (n : Int) : Int → List Gap1 → Prop
  | _, [] => True
  | lo, x :: gs => lo ≤ x.fro ∧ x.fro < x.to ∧ x.to ≤ n ∧ gapsOk n (x.to + 1) gs
theorem gapsOk_lower {n : Int} : ∀ {gs : List Gap1} {lo lo' : Int}, gapsOk n lo gs → lo' ≤ lo → gapsOk n lo' gs
  | [], _, _, _, _ => trivial
  | _ :: _, _, _, ⟨h1, h2, h3, h4⟩, h => ⟨by omega, h2, h3, h4⟩
theorem scan_gaps (l : List UInt8) : ∀ k (g u : Nat), g ≤ u → u ≤ l.length → gapsOk l.length g (scanN l k g u).2 := by
  intro k
  induction k with
  | zero =>
    intro g u hg hu
    unfold scanN
    split
    · exact ⟨by simp, by simp only; omega, by simp only; omega, trivial⟩
    · trivial
  | succ k ih =>
    intro g u hg hu
    by_cases hlt : u < l.length
    · by_cases he : atE l u = 0
      · obtain ⟨kk, m, -, -, h3, h4, -, h6, -, -, -, h10⟩ := frame_wraps he
        rw [scanN_ok hlt he, h4]
        simp only [Int.toNat_natCast]
        have hi := ih (u + m) (u + m) (Nat.le_refl _) (by omega)
        by_cases hgu : g < u
        · rw [if_pos hgu]
          exact ⟨by simp, by simp only; omega, by simp only; omega, gapsOk_lower hi (by simp only; omega)⟩
        · rw [if_neg hgu, List.nil_append]
          exact gapsOk_lower hi (by omega)
      · rw [scanN_err hlt he]
        exact ih g (u + 1) (by omega) (by omega)
    · rw [scanN_end hlt]
      split
      · exact ⟨by simp, by simp only; omega, by simp only; omega, trivial⟩
      · trivial
theorem gapsOk_at {n : Int} : ∀ {gs : List Gap1} {lo : Int}, gapsOk n lo gs → ∀ (i : Nat) (x : Gap1), gs[i]? = some x → lo ≤ x.fro ∧ x.fro < x.to ∧ x.to ≤ n ∧ ∀ y, 0 < i → gs[i - 1]? = some y → y.to < x.fro
  | [], _, _, i, x, h => by simp at h
  | y :: gs, lo, ⟨h1, h2, h3, h4⟩, 0, x, h => by
    simp at h
    subst h
    exact ⟨h1, h2, h3, fun _ h => by omega⟩
  | y :: gs, lo, ⟨h1, h2, h3, h4⟩, i + 1, x, h => by
    simp at h
    obtain ⟨a1, a2, a3, a4⟩ := gapsOk_at h4 i x h
    refine ⟨by omega, a2, a3, fun z _ hz => ?_⟩
    rw [Nat.add_sub_cancel] at hz
    cases i with
    | zero => simp at hz; subst hz; omega
    | succ i => simp at hz; exact a4 z (by omega) (by rw [Nat.add_sub_cancel]; exact hz)

theorem parts_all (l : List UInt8) {j : Nat} (hj : j < l.length) : cntF (scanR l).1 j + cntG (scanR l).2 j = 1 := by
  have h := scan_cnt l j l.length 0 0 (Nat.le_refl _) (Nat.zero_le _) (by omega)
  unfold scanR
  rw [h]
  unfold ind
  rw [if_pos]
  constructor <;> omega
end Go.Proofs.Ytfmjlgkbohidjaa.Frm

/- The reference's At: plain. No program. -/
import Derived.Test.YtekkjhjaacjhnaaFrameBackPlain
namespace Go.Proofs.Ytekkjhjaacjhnaa.Frm
open Oct

theorem rdN_snoc {j u s : Nat} {r o : List UInt8} {c : UInt8} (h : rdN j r = (0, o, u)) (h1 : rd (r.drop u) = (0, c, s)) : rdN (j + 1) r = (0, o ++ [c], u + s) := by
  rw [rdN_add, h]
  simp [rdN, h1]
theorem rdN_stop {j m u : Nat} {e : Int} {r o : List UInt8} (h : rdN j r = (0, o, u)) (h1 : (rd (r.drop u)).1 = e) (he : e ≠ 0) (hj : j < m) : (rdN m r).1 = e := by
  obtain ⟨d, rfl⟩ : ∃ d, m = j + (d + 1) := ⟨m - j - 1, by omega⟩
  rw [rdN_add, h]
  simp only [if_true]
  simp [rdN, h1, he]

theorem veil_inj {a b : List UInt8} (h : veil a = veil b) (hl : a.length = b.length) : a = b := by
  have h1 := rdN_put a []
  have h2 := rdN_put b []
  rw [h, hl] at h1
  rw [h1] at h2
  simp only [Prod.mk.injEq] at h2
  exact h2.2.1

theorem headN_take {o : List UInt8} (h : 5 ≤ o.length) : headN (o.take 5) = headN o := by
  unfold headN
  have hb : getB (o.take 5) (1 : Nat) (4 : Nat) = true := by simp [getB, okk]; omega
  have hb2 : getB o (1 : Nat) (4 : Nat) = true := by simp [getB, okk]; omega
  have h1 := getV_nat hb
  have h2 := getV_nat hb2
  rw [List.drop_take, List.take_take] at h1
  rw [show (((1 : Nat) : Int)) = 1 from rfl, show (((4 : Nat) : Int)) = 4 from rfl] at h1 h2
  rw [h1, h2]
  rfl

theorem wrap_same {o : List UInt8} {c : UInt8} (hl : o.length = 9 + headN o) (hN : headN o ≤ 65536) (h0 : o[0]? = some c) :
    wrapL (c.toNat : Int) (o.drop 9) = 80 :: veil o ↔ Crc.more 0 (o.take 5 ++ o.drop 9) = getV o 5 4 := by
  have hc := c.toNat_lt
  obtain ⟨-, hw⟩ := wrapL_ok (k := c.toNat) (p := o.drop 9) (by omega) (by rw [List.length_drop]; omega)
  have hdl : (o.drop 9).length = headN o := by rw [List.length_drop]; omega
  have hfront : front c.toNat (o.drop 9).length = o.take 5 := by
    have hb2 : getB o (1 : Nat) (4 : Nat) = true := by simp [getB, okk]; omega
    have h2 := getV_nat hb2
    rw [show (((1 : Nat) : Int)) = 1 from rfl, show (((4 : Nat) : Int)) = 4 from rfl] at h2
    have h3 := be_valOf ((o.drop 1).take 4)
    rw [← h2, show ((o.drop 1).take 4).length = 4 from by rw [List.length_take, List.length_drop]; omega] at h3
    unfold front
    rw [hdl]
    unfold headN
    rw [h3, be_one]
    cases o with
    | nil => simp at h0
    | cons x o =>
      simp at h0
      subst h0
      simp
  have hsum : sumN c.toNat (o.drop 9) = Crc.more 0 (o.take 5 ++ o.drop 9) := by unfold sumN; rw [hfront]
  have hsplit : o = o.take 5 ++ ((o.drop 5).take 4 ++ o.drop 9) := by
    conv => lhs; rw [← List.take_append_drop 5 o, ← List.take_append_drop 4 (o.drop 5), List.drop_drop]
  have hg : getV o 5 4 = Oct.valOf ((o.drop 5).take 4) := by
    have := getV_mid (l := o) (a := o.take 5) (b := (o.drop 5).take 4) (c := o.drop 9) (n := 5) (k := 4) hsplit (by rw [List.length_take]; omega) (by rw [List.length_take, List.length_drop]; omega) (by omega) (by omega)
    exact this
  have h4 : ((o.drop 5).take 4).length = 4 := by rw [List.length_take, List.length_drop]; omega
  rw [hw]
  constructor
  · intro h
    have hv := veil_inj (List.cons.inj h).2 (by rw [body_len, hdl, hl])
    have hb : body c.toNat (o.drop 9) = o.take 5 ++ (be 4 (sumN c.toNat (o.drop 9)) ++ o.drop 9) := by unfold body; rw [hfront]
    rw [hb] at hv
    have h5 : be 4 (sumN c.toNat (o.drop 9)) ++ o.drop 9 = (o.drop 5).take 4 ++ o.drop 9 := List.append_cancel_left (hv.trans hsplit)
    have h6 : be 4 (sumN c.toNat (o.drop 9)) = (o.drop 5).take 4 := List.append_cancel_right h5
    rw [hg, ← h6, Oct.valOf_be, ← hsum]
    exact (Nat.mod_eq_of_lt (sumN_lt _ _)).symm
  · intro h
    have h3 := be_valOf ((o.drop 5).take 4)
    rw [h4, ← hg, ← h, ← hsum] at h3
    have hb : body c.toNat (o.drop 9) = o := by unfold body; rw [hfront, h3, ← hsplit]
    rw [hb]

/-- the answer of the reference's read -/
def rpC (x : Int × UInt8 × Nat) : Int := if x.1 = 0 then x.2.1.toNat else 0
def rpN (a : Nat) (x : Int × UInt8 × Nat) : Int := if x.1 = 0 then (a : Int) + x.2.2 else 0
theorem rd_le {l : List UInt8} (h : (rd l).1 = 0) : (rd l).2.2 ≤ l.length ∧ 1 ≤ (rd l).2.2 := by
  obtain ⟨h1, h2⟩ := rd_veil h
  have h3 := veilB_len (rd l).2.1
  have := congrArg List.length h1
  rw [List.length_append, List.length_drop] at this
  omega
theorem rd_err {l : List UInt8} : (rd l).1 = 0 ∨ (rd l).1 = 2 ∨ (rd l).1 = 3 := by
  unfold rd
  cases l with
  | nil => simp
  | cons c r =>
    simp only
    split
    · simp
    · split
      · cases r with
        | nil => simp
        | cons d r => simp only; split <;> simp
      · simp
end Go.Proofs.Ytekkjhjaacjhnaa.Frm
namespace Go.Proofs.Ytekkjhjaacjhnaa.Frm
open Oct
theorem headN_snoc {o : List UInt8} {c : UInt8} (h : 5 ≤ o.length) : headN (o ++ [c]) = headN o := by
  rw [← headN_take h, ← headN_take (o := o ++ [c]) (by simp; omega), List.take_append_of_le_length h]
theorem rdN_pre {o r : List UInt8} {u : Nat} (h : rdN o.length r = (0, o, u)) (h5 : 5 ≤ o.length) : (rdN 5 r).1 = 0 ∧ headN (rdN 5 r).2.1 = headN o := by
  have h0 := h
  obtain ⟨d, hd⟩ : ∃ d, o.length = 5 + d := ⟨o.length - 5, by omega⟩
  rw [hd, rdN_add] at h
  by_cases h1 : (rdN 5 r).1 = 0
  · rw [if_pos h1] at h
    simp only [Prod.mk.injEq] at h
    refine ⟨h1, ?_⟩
    have hl := (rdN_veil 5 h1).1
    rw [← headN_take h5, ← h.2.1, List.take_left' hl]
  · rw [if_neg h1] at h
    rw [h] at h1
    exact absurd rfl h1
theorem inner_err {o r : List UInt8} {u : Nat} {e : Int} (h : rdN o.length r = (0, o, u)) (h1 : (rd (r.drop u)).1 = e) (he : e ≠ 0) (h6 : 5 ≤ o.length → headN o ≤ 65536 ∧ o.length < 9 + headN o) : (inner r).1 = e := by
  by_cases h5 : 5 ≤ o.length
  · obtain ⟨h2, h3⟩ := rdN_pre h h5
    have h4 := rdN_stop (m := 9 + headN o) h h1 he (h6 h5).2
    unfold inner
    rw [if_neg (by simp [h2]), h3, if_neg (by have := (h6 h5).1; omega), if_pos (by rw [h4]; exact he), h4]
  · have h4 := rdN_stop (m := 5) h h1 he (by omega)
    unfold inner
    rw [if_pos (by rw [h4]; exact he), h4]
theorem inner_big {o r : List UInt8} {u : Nat} (h : rdN o.length r = (0, o, u)) (h5 : o.length = 5) (hb : 65536 < headN o) : (inner r).1 = 4 := by
  obtain ⟨h2, h3⟩ := rdN_pre h (by omega)
  unfold inner
  rw [if_neg (by simp [h2]), h3, if_pos hb]
theorem inner_ok {o r : List UInt8} {u : Nat} (h : rdN o.length r = (0, o, u)) (hl : o.length = 9 + headN o) (hb : headN o ≤ 65536) : inner r = if Crc.more 0 (o.take 5 ++ o.drop 9) = getV o 5 4 then (0, o, u) else (5, [], 0) := by
  obtain ⟨h2, h3⟩ := rdN_pre h (by omega)
  rw [hl] at h
  unfold inner
  rw [if_neg (by simp [h2]), h3, if_neg (by omega), h, if_neg (by simp)]
  by_cases hs : Crc.more 0 (o.take 5 ++ o.drop 9) = getV o 5 4
  · rw [if_neg (by simp [hs]), if_pos hs]
  · rw [if_pos (by simp only [ne_eq]; omega), if_neg hs]
/-- what is to be read, as the reference counts it -/
def ndI (o : List UInt8) : Nat := if o.length ≤ 5 then 9 else 9 + headN o
theorem ndI_snoc {o : List UInt8} {c : UInt8} (h : o.length ≠ 5) : ndI (o ++ [c]) = ndI o := by
  unfold ndI
  rw [List.length_append, List.length_singleton]
  by_cases h5 : o.length ≤ 5
  · rw [if_pos (by omega), if_pos h5]
  · rw [if_neg (by omega), if_neg h5, headN_snoc (by omega)]
theorem ndI_five {o : List UInt8} {c : UInt8} (h : o.length = 5) : ndI (o ++ [c]) = 9 + headN o := by
  unfold ndI
  rw [List.length_append, List.length_singleton, if_neg (by omega), headN_snoc (by omega)]
theorem rowN_count (l : List UInt8) : ∀ k u, (rowN l k u).1.length ≤ k := by
  intro k
  induction k with
  | zero => intro u; simp [rowN]
  | succ k ih =>
    intro u
    unfold rowN
    split
    · split
      · have := ih (u + (atF l u).len.toNat)
        simp only [List.length_cons]; omega
      · simp
    · simp
theorem scanN_count (l : List UInt8) : ∀ k g u, (scanN l k g u).1.length ≤ k ∧ (scanN l k g u).2.length ≤ k + 1 := by
  intro k
  induction k with
  | zero => intro g u; unfold scanN; split <;> simp
  | succ k ih =>
    intro g u
    unfold scanN
    split
    · split
      · have := ih (u + (atF l u).len.toNat) (u + (atF l u).len.toNat)
        simp only [List.length_cons, List.length_append]
        split <;> simp <;> omega
      · have := ih g (u + 1)
        omega
    · split <;> simp
end Go.Proofs.Ytekkjhjaacjhnaa.Frm

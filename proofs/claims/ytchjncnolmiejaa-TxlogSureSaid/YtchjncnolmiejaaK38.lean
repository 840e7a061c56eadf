/- Several texts in one: FrameBackPlain, TxPlain, FrameRefAtPlain, FrameCutPlain. -/
import Derived.Test.YtchjncnolmiejaaFrameRowPlain
import Derived.Test.YtchjncnolmiejaaK08
import Derived.Test.YtchjncnolmiejaaK00
/- What was wrapped is read: plain. No program. -/
namespace Go.Proofs.Ytchjncnolmiejaa.Frm
open Oct

theorem getV_mid {l a b c : List UInt8} {n k : Nat} (h : l = a ++ (b ++ c)) (hn : n = a.length) (hk : k = b.length) (h1 : 1 ≤ k) (h8 : k ≤ 8) : getV l n k = Oct.valOf b := by
  subst hn hk h
  have hb : getB (a ++ (b ++ c)) a.length b.length = true := by simp [getB, okk]; omega
  rw [getV_nat hb, List.drop_left, List.take_left]
theorem front_head (k : Nat) {n : Nat} (hn : n < 4294967296) : headN (front k n) = n := by
  unfold headN front
  have := getV_mid (l := be 1 k ++ be 4 n) (a := be 1 k) (b := be 4 n) (c := []) (n := 1) (k := 4) (by simp) (by rw [be_length]) (by rw [be_length]) (by omega) (by omega)
  rw [show (((1 : Nat) : Int)) = 1 from rfl, show (((4 : Nat) : Int)) = 4 from rfl] at this
  rw [this, valOf_be]
  omega
theorem sumN_lt (k : Nat) (p : List UInt8) : sumN k p < 4294967296 := by
  exact Crc.more_lt _ _
theorem inner_put {k : Nat} {p : List UInt8} (hp : p.length ≤ 65536) (r : List UInt8) : inner (veil (body k p) ++ r) = (0, body k p, (veil (body k p)).length) := by
  have hB : body k p = front k p.length ++ (be 4 (sumN k p) ++ p) := rfl
  have h5 : rdN 5 (veil (body k p) ++ r) = (0, front k p.length, (veil (front k p.length)).length) := by
    have := rdN_put (front k p.length) (veil (be 4 (sumN k p) ++ p) ++ r)
    rw [front_len, ← List.append_assoc, ← veil_append, ← hB] at this
    exact this
  have hH : headN (front k p.length) = p.length := front_head k (by omega)
  have h9 : rdN (9 + p.length) (veil (body k p) ++ r) = (0, body k p, (veil (body k p)).length) := by
    have := rdN_put (body k p) r
    rwa [body_len] at this
  have ht : (body k p).take 5 = front k p.length := by
    rw [hB]; exact List.take_left' (front_len _ _)
  have hd : (body k p).drop 9 = p := by
    rw [hB, ← List.append_assoc]; exact List.drop_left' (by rw [List.length_append, front_len, be_length])
  have hg : getV (body k p) 5 4 = sumN k p := by
    have := getV_mid (l := body k p) (a := front k p.length) (b := be 4 (sumN k p)) (c := p) (n := 5) (k := 4) hB (by rw [front_len]) (by rw [be_length]) (by omega) (by omega)
    rw [show (((5 : Nat) : Int)) = 5 from rfl, show (((4 : Nat) : Int)) = 4 from rfl] at this
    rw [this, valOf_be]
    exact Nat.mod_eq_of_lt (sumN_lt k p)
  unfold inner
  rw [h5]
  simp only [ne_eq, not_true_eq_false, if_false]
  rw [hH, if_neg (by omega), h9]
  simp only [not_true_eq_false, if_false]
  rw [ht, hd, hg, if_neg]
  simp [sumN]
theorem be_one (k : Nat) : be 1 k = [UInt8.ofNat k] := by
  show [UInt8.ofNat (k % 256)] = _
  congr 1
  exact UInt8.toNat_inj.1 (by rw [UInt8.toNat_ofNat', UInt8.toNat_ofNat']; omega)
theorem wrapL_ok {k : Nat} {p : List UInt8} (hk : k ≤ 255) (hp : p.length ≤ 65536) : wrapE k p.length = 0 ∧ wrapL k p = 80 :: veil (body k p) := by
  have h : wrapE k p.length = 0 := by unfold wrapE; rw [if_neg (by omega), if_neg (by omega)]
  exact ⟨h, by unfold wrapL; rw [if_pos h, Int.toNat_natCast]⟩
theorem at_put {l r : List UInt8} {a k : Nat} {p : List UInt8} (hk : k ≤ 255) (hp : p.length ≤ 65536) (hd : l.drop a = wrapL k p ++ r) : atE l a = 0 ∧ atF l a = ⟨a, (wrapL k p).length, k, p⟩ := by
  obtain ⟨-, hw⟩ := wrapL_ok hk hp
  rw [hw, List.cons_append] at hd
  have hlt : a < l.length := by
    rcases Nat.lt_or_ge a l.length with h' | h'
    · exact h'
    · rw [List.drop_of_length_le h'] at hd; cases hd
  have hi := inner_put (k := k) hp r
  have hE : atE l a = 0 := by
    unfold atE
    rw [if_neg (by omega), Int.toNat_natCast, hd]
    simp [hi]
  refine ⟨hE, ?_⟩
  unfold atF
  rw [if_pos hE, Int.toNat_natCast, hd]
  simp only [hi]
  rw [hw]
  have hh : ((body k p).headD 0).toNat = k := by
    have : body k p = UInt8.ofNat k :: (be 4 p.length ++ (be 4 (sumN k p) ++ p)) := by
      simp [body, front, be_one]
    rw [this]
    simp only [List.headD_cons]
    rw [UInt8.toNat_ofNat']; omega
  have hdp : (body k p).drop 9 = p := by
    show (front k p.length ++ (be 4 (sumN k p) ++ p)).drop 9 = p
    rw [← List.append_assoc]; exact List.drop_left' (by rw [List.length_append, front_len, be_length])
  rw [hh, hdp]
  simp; omega
end Go.Proofs.Ytchjncnolmiejaa.Frm

/- A transaction's bytes, plain. -/
namespace Go.Proofs.Ytchjncnolmiejaa
open Go.RowKit
namespace Txl
open Oct Frm
def numL (n : Nat) (c : Int) : List UInt8 := be 8 n ++ (if 0 ≤ c then be 2 c.toNat else [])
theorem numL_len (n : Nat) (c : Int) : (numL n c).length ≤ 10 := by
  unfold numL
  split <;> simp [be_length]
theorem putL8 {n : Nat} (h : n < 18446744073709551616) : putL n 8 = be 8 n := by
  have : putB n 8 = true := by simp [putB, okk]; omega
  simp [putL, this]
theorem putL2 {n : Nat} (h : n < 65536) : putL n 2 = be 2 n := by
  have : putB n 2 = true := by simp [putB, okk]; omega
  simp [putL, this]
abbrev Item := List UInt8
def bigB (x : Item) : Bool := decide (4096 < x.length)
def txE (n : Int) (items : List Item) : Int := if n < 1 then 1 else if 1000 < items.length then 4 else if items.any bigB then 4 else 0
def itemsL (items : List Item) : List UInt8 := items.flatMap (wrapL 33)
def headL (n c : Nat) : List UInt8 := wrapL 32 (numL n (c : Int))
def endL (n : Nat) : List UInt8 := wrapL 34 (numL n (-1))
def txL (n : Int) (items : List Item) : List UInt8 := if txE n items = 0 then headL n.toNat items.length ++ itemsL items ++ endL n.toNat else []
theorem veil_le (l : List UInt8) : (veil l).length ≤ 2 * l.length := by
  unfold veil
  induction l with
  | nil => simp
  | cons c l ih =>
    rw [List.flatMap_cons, List.length_append, List.length_cons]
    have : (veilB c).length ≤ 2 := by unfold veilB; split <;> simp
    omega
theorem wrapL_le (k : Int) (p : List UInt8) : (wrapL k p).length ≤ 2 * p.length + 19 := by
  unfold wrapL
  split
  · rw [List.length_cons]
    have h1 := veil_le (body k.toNat p)
    have h2 := body_len k.toNat p
    omega
  · simp
theorem itemsL_le {items : List Item} (h : ∀ x ∈ items, x.length ≤ 4096) : (itemsL items).length ≤ items.length * 8211 := by
  unfold itemsL
  induction items with
  | nil => simp
  | cons x l ih =>
    rw [List.flatMap_cons, List.length_append, List.length_cons]
    have h1 := wrapL_le 33 x
    have h2 := h x (List.mem_cons_self ..)
    have h3 := ih (fun y hy => h y (List.mem_cons_of_mem _ hy))
    omega
theorem itemsL_take {items : List Item} {j : Nat} (h : j < items.length) : itemsL (items.take (j + 1)) = itemsL (items.take j) ++ wrapL 33 items[j] := by
  unfold itemsL
  rw [List.take_succ_eq_append_getElem h, List.flatMap_append]
  simp
theorem headL_le (n c : Nat) : (headL n c).length ≤ 39 := by
  have h1 := wrapL_le 32 (numL n (c : Int))
  have h2 := numL_len n (c : Int)
  unfold headL
  omega
theorem endL_le (n : Nat) : (endL n).length ≤ 39 := by
  have h1 := wrapL_le 34 (numL n (-1))
  have h2 := numL_len n (-1)
  unfold endL
  omega
end Txl
end Go.Proofs.Ytchjncnolmiejaa

/- The reference's At: plain. No program. -/
namespace Go.Proofs.Ytchjncnolmiejaa.Frm
open Oct

theorem rdN_snoc {j u s : Nat} {r o : List UInt8} {c : UInt8} (h : rdN j r = (0, o, u)) (h1 : rd (r.drop u) = (0, c, s)) : rdN (j + 1) r = (0, o ++ [c], u + s) := by
  rw [rdN_add, h]
  simp [rdN, h1]
theorem rdN_stop {j m u : Nat} {e : Int} {r o : List UInt8} (h : rdN j r = (0, o, u)) (h1 : (rd (r.drop u)).1 = e) (he : e ≠ 0) (hj : j < m) : (rdN m r).1 = e := by
  obtain ⟨d, rfl⟩ : ∃ d, m = j + (d + 1) := ⟨m - j - 1, by omega⟩
  rw [rdN_add, h]
  simp only [if_true]
  simp [rdN, h1, he]

theorem veil_inj {a b : List UInt8} (h : veil a = veil b) (hl : a.length = b.length) : a = b := by
  have h1 := rdN_put a []
  have h2 := rdN_put b []
  rw [h, hl] at h1
  rw [h1] at h2
  simp only [Prod.mk.injEq] at h2
  exact h2.2.1

theorem headN_take {o : List UInt8} (h : 5 ≤ o.length) : headN (o.take 5) = headN o := by
  unfold headN
  have hb : getB (o.take 5) (1 : Nat) (4 : Nat) = true := by simp [getB, okk]; omega
  have hb2 : getB o (1 : Nat) (4 : Nat) = true := by simp [getB, okk]; omega
  have h1 := getV_nat hb
  have h2 := getV_nat hb2
  rw [List.drop_take, List.take_take] at h1
  rw [show (((1 : Nat) : Int)) = 1 from rfl, show (((4 : Nat) : Int)) = 4 from rfl] at h1 h2
  rw [h1, h2]
  rfl

theorem wrap_same {o : List UInt8} {c : UInt8} (hl : o.length = 9 + headN o) (hN : headN o ≤ 65536) (h0 : o[0]? = some c) :
    wrapL (c.toNat : Int) (o.drop 9) = 80 :: veil o ↔ Crc.more 0 (o.take 5 ++ o.drop 9) = getV o 5 4 := by
  have hc := c.toNat_lt
  obtain ⟨-, hw⟩ := wrapL_ok (k := c.toNat) (p := o.drop 9) (by omega) (by rw [List.length_drop]; omega)
  have hdl : (o.drop 9).length = headN o := by rw [List.length_drop]; omega
  have hfront : front c.toNat (o.drop 9).length = o.take 5 := by
    have hb2 : getB o (1 : Nat) (4 : Nat) = true := by simp [getB, okk]; omega
    have h2 := getV_nat hb2
    rw [show (((1 : Nat) : Int)) = 1 from rfl, show (((4 : Nat) : Int)) = 4 from rfl] at h2
    have h3 := be_valOf ((o.drop 1).take 4)
    rw [← h2, show ((o.drop 1).take 4).length = 4 from by rw [List.length_take, List.length_drop]; omega] at h3
    unfold front
    rw [hdl]
    unfold headN
    rw [h3, be_one]
    cases o with
    | nil => simp at h0
    | cons x o =>
      simp at h0
      subst h0
      simp
  have hsum : sumN c.toNat (o.drop 9) = Crc.more 0 (o.take 5 ++ o.drop 9) := by unfold sumN; rw [hfront]
  have hsplit : o = o.take 5 ++ ((o.drop 5).take 4 ++ o.drop 9) := by
    conv => lhs; rw [← List.take_append_drop 5 o, ← List.take_append_drop 4 (o.drop 5), List.drop_drop]
  have hg : getV o 5 4 = Oct.valOf ((o.drop 5).take 4) := by
    have := getV_mid (l := o) (a := o.take 5) (b := (o.drop 5).take 4) (c := o.drop 9) (n := 5) (k := 4) hsplit (by rw [List.length_take]; omega) (by rw [List.length_take, List.length_drop]; omega) (by omega) (by omega)
    exact this
  have h4 : ((o.drop 5).take 4).length = 4 := by rw [List.length_take, List.length_drop]; omega
  rw [hw]
  constructor
  · intro h
    have hv := veil_inj (List.cons.inj h).2 (by rw [body_len, hdl, hl])
    have hb : body c.toNat (o.drop 9) = o.take 5 ++ (be 4 (sumN c.toNat (o.drop 9)) ++ o.drop 9) := by unfold body; rw [hfront]
    rw [hb] at hv
    have h5 : be 4 (sumN c.toNat (o.drop 9)) ++ o.drop 9 = (o.drop 5).take 4 ++ o.drop 9 := List.append_cancel_left (hv.trans hsplit)
    have h6 : be 4 (sumN c.toNat (o.drop 9)) = (o.drop 5).take 4 := List.append_cancel_right h5
    rw [hg, ← h6, Oct.valOf_be, ← hsum]
    exact (Nat.mod_eq_of_lt (sumN_lt _ _)).symm
  · intro h
    have h3 := be_valOf ((o.drop 5).take 4)
    rw [h4, ← hg, ← h, ← hsum] at h3
    have hb : body c.toNat (o.drop 9) = o := by unfold body; rw [hfront, h3, ← hsplit]
    rw [hb]

/-- the answer of the reference's read -/
def rpC (x : Int × UInt8 × Nat) : Int := if x.1 = 0 then x.2.1.toNat else 0
def rpN (a : Nat) (x : Int × UInt8 × Nat) : Int := if x.1 = 0 then (a : Int) + x.2.2 else 0
theorem rd_le {l : List UInt8} (h : (rd l).1 = 0) : (rd l).2.2 ≤ l.length ∧ 1 ≤ (rd l).2.2 := by
  obtain ⟨h1, h2⟩ := rd_veil h
  have h3 := veilB_len (rd l).2.1
  have := congrArg List.length h1
  rw [List.length_append, List.length_drop] at this
  omega
theorem rd_err {l : List UInt8} : (rd l).1 = 0 ∨ (rd l).1 = 2 ∨ (rd l).1 = 3 := by
  unfold rd
  cases l with
  | nil => simp
  | cons c r =>
    simp only
    split
    · simp
    · split
      · cases r with
        | nil => simp
        | cons d r => simp only; split <;> simp
      · simp
end Go.Proofs.Ytchjncnolmiejaa.Frm
namespace Go.Proofs.Ytchjncnolmiejaa.Frm
open Oct
theorem headN_snoc {o : List UInt8} {c : UInt8} (h : 5 ≤ o.length) : headN (o ++ [c]) = headN o := by
  rw [← headN_take h, ← headN_take (o := o ++ [c]) (by simp; omega), List.take_append_of_le_length h]
theorem rdN_pre {o r : List UInt8} {u : Nat} (h : rdN o.length r = (0, o, u)) (h5 : 5 ≤ o.length) : (rdN 5 r).1 = 0 ∧ headN (rdN 5 r).2.1 = headN o := by
  have h0 := h
  obtain ⟨d, hd⟩ : ∃ d, o.length = 5 + d := ⟨o.length - 5, by omega⟩
  rw [hd, rdN_add] at h
  by_cases h1 : (rdN 5 r).1 = 0
  · rw [if_pos h1] at h
    simp only [Prod.mk.injEq] at h
    refine ⟨h1, ?_⟩
    have hl := (rdN_veil 5 h1).1
    rw [← headN_take h5, ← h.2.1, List.take_left' hl]
  · rw [if_neg h1] at h
    rw [h] at h1
    exact absurd rfl h1
theorem inner_err {o r : List UInt8} {u : Nat} {e : Int} (h : rdN o.length r = (0, o, u)) (h1 : (rd (r.drop u)).1 = e) (he : e ≠ 0) (h6 : 5 ≤ o.length → headN o ≤ 65536 ∧ o.length < 9 + headN o) : (inner r).1 = e := by
  by_cases h5 : 5 ≤ o.length
  · obtain ⟨h2, h3⟩ := rdN_pre h h5
    have h4 := rdN_stop (m := 9 + headN o) h h1 he (h6 h5).2
    unfold inner
    rw [if_neg (by simp [h2]), h3, if_neg (by have := (h6 h5).1; omega), if_pos (by rw [h4]; exact he), h4]
  · have h4 := rdN_stop (m := 5) h h1 he (by omega)
    unfold inner
    rw [if_pos (by rw [h4]; exact he), h4]
theorem inner_big {o r : List UInt8} {u : Nat} (h : rdN o.length r = (0, o, u)) (h5 : o.length = 5) (hb : 65536 < headN o) : (inner r).1 = 4 := by
  obtain ⟨h2, h3⟩ := rdN_pre h (by omega)
  unfold inner
  rw [if_neg (by simp [h2]), h3, if_pos hb]
theorem inner_ok {o r : List UInt8} {u : Nat} (h : rdN o.length r = (0, o, u)) (hl : o.length = 9 + headN o) (hb : headN o ≤ 65536) : inner r = if Crc.more 0 (o.take 5 ++ o.drop 9) = getV o 5 4 then (0, o, u) else (5, [], 0) := by
  obtain ⟨h2, h3⟩ := rdN_pre h (by omega)
  rw [hl] at h
  unfold inner
  rw [if_neg (by simp [h2]), h3, if_neg (by omega), h, if_neg (by simp)]
  by_cases hs : Crc.more 0 (o.take 5 ++ o.drop 9) = getV o 5 4
  · rw [if_neg (by simp [hs]), if_pos hs]
  · rw [if_pos (by simp only [ne_eq]; omega), if_neg hs]
/-- what is to be read, as the reference counts it -/
def ndI (o : List UInt8) : Nat := if o.length ≤ 5 then 9 else 9 + headN o
theorem ndI_snoc {o : List UInt8} {c : UInt8} (h : o.length ≠ 5) : ndI (o ++ [c]) = ndI o := by
  unfold ndI
  rw [List.length_append, List.length_singleton]
  by_cases h5 : o.length ≤ 5
  · rw [if_pos (by omega), if_pos h5]
  · rw [if_neg (by omega), if_neg h5, headN_snoc (by omega)]
theorem ndI_five {o : List UInt8} {c : UInt8} (h : o.length = 5) : ndI (o ++ [c]) = 9 + headN o := by
  unfold ndI
  rw [List.length_append, List.length_singleton, if_neg (by omega), headN_snoc (by omega)]
theorem rowN_count (l : List UInt8) : ∀ k u, (rowN l k u).1.length ≤ k := by
  intro k
  induction k with
  | zero => intro u; simp [rowN]
  | succ k ih =>
    intro u
    unfold rowN
    split
    · split
      · have := ih (u + (atF l u).len.toNat)
        simp only [List.length_cons]; omega
      · simp
    · simp
theorem scanN_count (l : List UInt8) : ∀ k g u, (scanN l k g u).1.length ≤ k ∧ (scanN l k g u).2.length ≤ k + 1 := by
  intro k
  induction k with
  | zero => intro g u; unfold scanN; split <;> simp
  | succ k ih =>
    intro g u
    unfold scanN
    split
    · split
      · have := ih (u + (atF l u).len.toNat) (u + (atF l u).len.toNat)
        simp only [List.length_cons, List.length_append]
        split <;> simp <;> omega
      · have := ih g (u + 1)
        omega
    · split <;> simp
end Go.Proofs.Ytchjncnolmiejaa.Frm

/- Frames one behind the other, cut off: plain. No program. -/
namespace Go.Proofs.Ytchjncnolmiejaa.Frm
open Oct

theorem take_of_prefix {α : Type} {a b : List α} {j : Nat} (h : a.length ≤ j) : (a ++ b).take j = a ++ b.take (j - a.length) := by
  rw [List.take_append, List.take_of_length_le h]

theorem rdN_cut (m : List UInt8) : ∀ (j : Nat), j < (veil m).length → (rdN m.length ((veil m).take j)).1 = 2 := by
  induction m with
  | nil => intro j h; simp [veil] at h
  | cons c m ih =>
    intro j h
    have e : veil (c :: m) = veilB c ++ veil m := by simp [veil]
    rw [e] at h ⊢
    rw [List.length_append] at h
    by_cases hj : (veilB c).length ≤ j
    · rw [take_of_prefix hj]
      have hp := rd_put c ((veil m).take (j - (veilB c).length))
      have hi := ih (j - (veilB c).length) (by omega)
      simp only [List.length_cons, rdN, hp, if_true]
      rw [List.drop_left]
      exact hi
    · have hle := (veilB_len c).2
      have h0 : j = 0 ∨ (j = 1 ∧ (c = 80 ∨ c = 81)) := by
        by_cases hc : c = 80 ∨ c = 81
        · have hj01 : j = 0 ∨ j = 1 := by omega
          rcases hj01 with h | h
          · exact .inl h
          · exact .inr ⟨h, hc⟩
        · have : (veilB c).length = 1 := by unfold veilB; rw [if_neg hc]; rfl
          omega
      rcases h0 with rfl | ⟨rfl, hc⟩
      · simp [rdN, rd]
      · have : (veilB c ++ veil m).take 1 = [81] := by unfold veilB; rw [if_pos hc]; rfl
        rw [this]
        simp [rdN, rd]

theorem inner_cut {k : Nat} {p : List UInt8} (hp : p.length ≤ 65536) {j : Nat} (hj : j < (veil (body k p)).length) : (inner ((veil (body k p)).take j)).1 = 2 := by
  have hB : body k p = front k p.length ++ (be 4 (sumN k p) ++ p) := rfl
  have hH : headN (front k p.length) = p.length := front_head k (by omega)
  have hcut := rdN_cut (body k p) j hj
  rw [body_len] at hcut
  by_cases hf : (veil (front k p.length)).length ≤ j
  · have hr : (veil (body k p)).take j = veil (front k p.length) ++ (veil (be 4 (sumN k p) ++ p)).take (j - (veil (front k p.length)).length) := by
      rw [hB, veil_append, take_of_prefix hf]
    have h5 : rdN 5 ((veil (body k p)).take j) = (0, front k p.length, (veil (front k p.length)).length) := by
      rw [hr]
      have := rdN_put (front k p.length) ((veil (be 4 (sumN k p) ++ p)).take (j - (veil (front k p.length)).length))
      rwa [front_len] at this
    unfold inner
    rw [h5]
    simp only [ne_eq, not_true_eq_false, if_false]
    rw [hH, if_neg (by omega), if_pos (by rw [hcut]; decide), hcut]
  · have hr : (veil (body k p)).take j = (veil (front k p.length)).take j := by
      rw [hB, veil_append, List.take_append_of_le_length (by omega)]
    have h5 := rdN_cut (front k p.length) j (by omega)
    rw [front_len, ← hr] at h5
    unfold inner
    rw [if_pos (by rw [h5]; decide), h5]

theorem at_cut {l : List UInt8} {a k j : Nat} {p : List UInt8} (hk : k ≤ 255) (hp : p.length ≤ 65536) (hj : j < (wrapL k p).length) (hd : l.drop a = (wrapL k p).take j) (ha : a ≤ l.length) : atE l a = 2 := by
  obtain ⟨-, hw⟩ := wrapL_ok hk hp
  unfold atE
  rw [if_neg (by omega), Int.toNat_natCast, hd, hw]
  rw [hw, List.length_cons] at hj
  cases j with
  | zero => rfl
  | succ j =>
    rw [List.take_succ_cons]
    simp only [ne_eq, not_true_eq_false, if_false]
    exact inner_cut hp (by omega)

/-- frames one behind the other -/
def cat (F : List (Nat × List UInt8)) : List UInt8 := F.flatMap fun x => wrapL x.1 x.2
def catOk (F : List (Nat × List UInt8)) : Prop := ∀ x ∈ F, x.1 ≤ 255 ∧ x.2.length ≤ 65536
/-- how many are whole within so many bytes -/
def whole : List (Nat × List UInt8) → Nat → Nat
  | [], _ => 0
  | x :: F, c => if (wrapL x.1 x.2).length ≤ c then whole F (c - (wrapL x.1 x.2).length) + 1 else 0
theorem whole_le (F : List (Nat × List UInt8)) : ∀ c, whole F c ≤ F.length := by
  induction F with
  | nil => intro c; simp [whole]
  | cons x F ih =>
    intro c
    unfold whole
    split
    · have := ih (c - (wrapL x.1 x.2).length); simp only [List.length_cons]; omega
    · simp
theorem cat_cons (x : Nat × List UInt8) (F : List (Nat × List UInt8)) : cat (x :: F) = wrapL x.1 x.2 ++ cat F := by simp [cat]
theorem wrapL_pos {k : Nat} {p : List UInt8} (hk : k ≤ 255) (hp : p.length ≤ 65536) : 1 ≤ (wrapL k p).length := by
  rw [(wrapL_ok hk hp).2]; simp

theorem row_cat (l : List UInt8) : ∀ (F : List (Nat × List UInt8)) (c k u : Nat), catOk F → c ≤ (cat F).length → u ≤ l.length → l.length ≤ u + k → l.drop u = (cat F).take c →
    (rowN l k u).1.map (fun f => (f.kind, f.pay)) = (F.take (whole F c)).map (fun x => ((x.1 : Int), x.2)) ∧ (rowN l k u).2.2 = if c = (cat (F.take (whole F c))).length then 0 else 2 := by
  intro F
  induction F with
  | nil =>
    intro c k u _ hc hu hk hd
    have hc0 : c = 0 := by simpa [cat] using hc
    subst hc0
    have hlen := congrArg List.length hd
    rw [List.length_drop] at hlen
    simp at hlen
    rw [rowN_end (by omega)]
    simp [whole, cat]
  | cons x F ih =>
    intro c k u hok hc hu hk hd
    obtain ⟨h1, h2⟩ := hok x (by simp)
    have hpos := wrapL_pos h1 h2
    have hlen := congrArg List.length hd
    rw [List.length_drop, List.length_take] at hlen
    by_cases hw : (wrapL x.1 x.2).length ≤ c
    · have hwh : whole (x :: F) c = whole F (c - (wrapL x.1 x.2).length) + 1 := by rw [whole, if_pos hw]
      rw [cat_cons] at hd hc hlen
      rw [List.length_append] at hc hlen
      rw [take_of_prefix hw] at hd
      obtain ⟨he, hf⟩ := at_put h1 h2 hd
      obtain ⟨k', rfl⟩ : ∃ k', k = k' + 1 := ⟨k - 1, by omega⟩
      have hlt : u < l.length := by omega
      rw [rowN_ok hlt he, hf, hwh]
      simp only [Int.toNat_natCast]
      have hd2 : l.drop (u + (wrapL x.1 x.2).length) = (cat F).take (c - (wrapL x.1 x.2).length) := by
        rw [← List.drop_drop, hd, List.drop_left]
      obtain ⟨i1, i2⟩ := ih (c - (wrapL x.1 x.2).length) k' (u + (wrapL x.1 x.2).length) (fun y hy => hok y (by simp [hy])) (by omega) (by omega) (by omega) hd2
      refine ⟨by simp [i1], ?_⟩
      rw [i2, List.take_succ_cons, cat_cons, List.length_append]
      by_cases h : c - (wrapL x.1 x.2).length = (cat (F.take (whole F (c - (wrapL x.1 x.2).length)))).length
      · rw [if_pos h, if_pos (by omega)]
      · rw [if_neg h, if_neg (by omega)]
    · have hwh : whole (x :: F) c = 0 := by rw [whole, if_neg hw]
      rw [hwh]
      rw [cat_cons, List.take_append_of_le_length (by omega)] at hd
      rw [cat_cons, List.length_append] at hlen
      by_cases hc0 : c = 0
      · subst hc0
        rw [rowN_end (by omega)]
        simp [cat]
      · obtain ⟨k', rfl⟩ : ∃ k', k = k' + 1 := ⟨k - 1, by omega⟩
        have he := at_cut h1 h2 (by omega) hd hu
        rw [rowN_err (by omega) (by rw [he]; decide), he]
        simp [cat, hc0]

/-- where each ends -/
def endAt (F : List (Nat × List UInt8)) (i : Nat) : Nat := (cat (F.take (i + 1))).length
theorem cat_append (A B : List (Nat × List UInt8)) : cat (A ++ B) = cat A ++ cat B := by simp [cat]
theorem whole_ends : ∀ (F : List (Nat × List UInt8)) (c i : Nat), i < F.length → (endAt F i ≤ c ↔ i < whole F c) := by
  intro F
  induction F with
  | nil => intro c i h; simp at h
  | cons x F ih =>
    intro c i h
    unfold endAt
    rw [List.take_succ_cons, cat_cons, List.length_append]
    by_cases hw : (wrapL x.1 x.2).length ≤ c
    · rw [whole, if_pos hw]
      cases i with
      | zero => simp [cat]; omega
      | succ i =>
        have := ih (c - (wrapL x.1 x.2).length) i (by simpa using h)
        unfold endAt at this
        omega
    · rw [whole, if_neg hw]
      omega
end Go.Proofs.Ytchjncnolmiejaa.Frm

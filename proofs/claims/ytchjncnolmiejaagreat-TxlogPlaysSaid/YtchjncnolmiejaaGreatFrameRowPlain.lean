/- Row and Scan: plain. No program. -/
import Derived.Test.YtchjncnolmiejaaGreatFrameAtPlain
namespace Go.Proofs.YtchjncnolmiejaaGreat.Frm
open Oct

theorem take_pre {r v d : List UInt8} (h : r = v ++ d) : r.take v.length = v := by rw [h, List.take_left]
theorem inner_used {r : List UInt8} (h : (inner r).1 = 0) : (inner r).2.2 ≤ r.length ∧ (inner r).2.1.length ≤ (inner r).2.2 ∧ 9 ≤ (inner r).2.1.length ∧ r.take (inner r).2.2 = veil (inner r).2.1 := by
 unfold inner at h ⊢
 split at h
 ·rename_i h5; exact absurd h h5
 ·rename_i h5
  rw [if_neg h5]
  split at h
  ·simp at h
  ·rename_i hb
   rw [if_neg hb]
   split at h
   ·rename_i h9; exact absurd h h9
   ·rename_i h9
    rw [if_neg h9]
    split at h
    ·simp at h
    ·rename_i hs
     rw [if_neg hs]
     obtain ⟨h1, h2, h3⟩ := rdN_veil _ h
     have := rdN_used h
     have hv := (veil_len (rdN (9 + headN (rdN 5 r).2.1) r).2.1).1
     refine ⟨this, by omega, by omega, ?_⟩
     rw [h3]
     exact take_pre h2

theorem atE_ok {l : List UInt8} {a : Nat} (h : atE l a = 0) : ∃ c r, l.drop a = c :: r ∧ c = 80 ∧ (inner r).1 = 0 ∧ a < l.length ∧ atF l a = ⟨a, 1 + (inner r).2.2, ((inner r).2.1.headD 0).toNat, (inner r).2.1.drop 9⟩ := by
 have hF : atF l a = match l.drop a with | [] => ⟨0, 0, 0, []⟩ | _ :: r => ⟨a, 1 + (inner r).2.2, ((inner r).2.1.headD 0).toNat, (inner r).2.1.drop 9⟩ := by
  unfold atF; rw [if_pos h, Int.toNat_natCast]; cases l.drop a <;> rfl
 unfold atE at h
 split at h
 ·simp at h
 ·rename_i h1
  rw [Int.toNat_natCast] at h
  cases hd : l.drop a with
  | nil => rw [hd] at h; simp at h
  | cons c r =>
   rw [hd] at h hF
   simp only at h hF
   split at h
   ·simp at h
   ·rename_i hc
    have hlt : a < l.length := by
     rcases Nat.lt_or_ge a l.length with h' | h'
     ·exact h'
     ·rw [List.drop_of_length_le h'] at hd; cases hd
    exact ⟨c, r, rfl, Classical.not_not.1 hc, h, hlt, hF⟩
theorem atE_len {l : List UInt8} {a : Nat} (h : atE l a = 0) : 10 ≤ (atF l a).len ∧ (a : Int) + (atF l a).len ≤ l.length ∧ 0 ≤ (atF l a).len := by
 obtain ⟨c, r, hd, -, hi, hlt, hF⟩ := atE_ok h
 obtain ⟨h1, h2, h3, -⟩ := inner_used hi
 have := congrArg List.length hd
 rw [List.length_drop, List.length_cons] at this
 rw [hF]
 simp only
 omega
theorem atE_pay {l : List UInt8} {a : Nat} (h : atE l a = 0) : (atF l a).pay.length ≤ l.length := by
 obtain ⟨c, r, hd, -, hi, hlt, hF⟩ := atE_ok h
 obtain ⟨h1, h2, h3, -⟩ := inner_used hi
 have := congrArg List.length hd
 rw [List.length_drop, List.length_cons] at this
 rw [hF]
 simp only [List.length_drop]
 omega

def rowN (l : List UInt8) : Nat → Nat → List Fr1 × Nat × Int
 | 0, u => ([], u, 0)
 | k + 1, u => if u < l.length then (if atE l u = 0 then (atF l u :: (rowN l k (u + (atF l u).len.toNat)).1, (rowN l k (u + (atF l u).len.toNat)).2) else ([], u, atE l u)) else ([], u, 0)
def rowR (l : List UInt8) : List Fr1 × Nat × Int := rowN l l.length 0
theorem rowN_end {l : List UInt8} {k u : Nat} (h : ¬ u < l.length) : rowN l k u = ([], u, 0) := by
 cases k <;> simp [rowN, h]
theorem rowN_err {l : List UInt8} {k u : Nat} (h : u < l.length) (he : atE l u ≠ 0) : rowN l (k + 1) u = ([], u, atE l u) := by simp [rowN, h, he]
theorem rowN_ok {l : List UInt8} {k u : Nat} (h : u < l.length) (he : atE l u = 0) : rowN l (k + 1) u = (atF l u :: (rowN l k (u + (atF l u).len.toNat)).1, (rowN l k (u + (atF l u).len.toNat)).2) := by simp [rowN, h, he]

structure Gap1 where
 fro : Int
 to : Int
/-- the frames and the gaps from a place on; the open gap began at g -/
def scanN (l : List UInt8) : Nat → Nat → Nat → List Fr1 × List Gap1
 | 0, g, u => ([], if g < u then [⟨g, u⟩] else [])
 | k + 1, g, u => if u < l.length then
   (if atE l u = 0 then (atF l u :: (scanN l k (u + (atF l u).len.toNat) (u + (atF l u).len.toNat)).1, (if g < u then [⟨g, u⟩] else []) ++ (scanN l k (u + (atF l u).len.toNat) (u + (atF l u).len.toNat)).2) else scanN l k g (u + 1))
  else ([], if g < u then [⟨g, u⟩] else [])
def scanR (l : List UInt8) : List Fr1 × List Gap1 := scanN l l.length 0 0
end Go.Proofs.YtchjncnolmiejaaGreat.Frm

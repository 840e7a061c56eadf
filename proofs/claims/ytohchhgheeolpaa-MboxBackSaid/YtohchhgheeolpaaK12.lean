/- Several texts in one: FrameRowPlain, RecPayPlain, MboxStPlain, MboxFindPlain, MboxTkPlain. -/
import Derived.Test.YtohchhgheeolpaaFrameAtPlain
import Derived.Test.YtohchhgheeolpaaK00
/- Row and Scan: plain. No program. -/
namespace Go.Proofs.Ytohchhgheeolpaa.Frm
open Oct

theorem take_pre {r v d : List UInt8} (h : r = v ++ d) : r.take v.length = v := by rw [h, List.take_left]
theorem inner_used {r : List UInt8} (h : (inner r).1 = 0) : (inner r).2.2 ≤ r.length ∧ (inner r).2.1.length ≤ (inner r).2.2 ∧ 9 ≤ (inner r).2.1.length ∧ r.take (inner r).2.2 = veil (inner r).2.1 := by
  unfold inner at h ⊢
  split at h
  · rename_i h5; exact absurd h h5
  · rename_i h5
    rw [if_neg h5]
    split at h
    · simp at h
    · rename_i hb
      rw [if_neg hb]
      split at h
      · rename_i h9; exact absurd h h9
      · rename_i h9
        rw [if_neg h9]
        split at h
        · simp at h
        · rename_i hs
          rw [if_neg hs]
          obtain ⟨h1, h2, h3⟩ := rdN_veil _ h
          have := rdN_used h
          have hv := (veil_len (rdN (9 + headN (rdN 5 r).2.1) r).2.1).1
          refine ⟨this, by omega, by omega, ?_⟩
          rw [h3]
          exact take_pre h2

theorem atE_ok {l : List UInt8} {a : Nat} (h : atE l a = 0) : ∃ c r, l.drop a = c :: r ∧ c = 80 ∧ (inner r).1 = 0 ∧ a < l.length ∧ atF l a = ⟨a, 1 + (inner r).2.2, ((inner r).2.1.headD 0).toNat, (inner r).2.1.drop 9⟩ := by
  have hF : atF l a = match l.drop a with | [] => ⟨0, 0, 0, []⟩ | _ :: r => ⟨a, 1 + (inner r).2.2, ((inner r).2.1.headD 0).toNat, (inner r).2.1.drop 9⟩ := by
    unfold atF; rw [if_pos h, Int.toNat_natCast]; cases l.drop a <;> rfl
  unfold atE at h
  split at h
  · simp at h
  · rename_i h1
    rw [Int.toNat_natCast] at h
    cases hd : l.drop a with
    | nil => rw [hd] at h; simp at h
    | cons c r =>
      rw [hd] at h hF
      simp only at h hF
      split at h
      · simp at h
      · rename_i hc
        have hlt : a < l.length := by
          rcases Nat.lt_or_ge a l.length with h' | h'
          · exact h'
          · rw [List.drop_of_length_le h'] at hd; cases hd
        exact ⟨c, r, rfl, Classical.not_not.1 hc, h, hlt, hF⟩
theorem atE_len {l : List UInt8} {a : Nat} (h : atE l a = 0) : 10 ≤ (atF l a).len ∧ (a : Int) + (atF l a).len ≤ l.length ∧ 0 ≤ (atF l a).len := by
  obtain ⟨c, r, hd, -, hi, hlt, hF⟩ := atE_ok h
  obtain ⟨h1, h2, h3, -⟩ := inner_used hi
  have := congrArg List.length hd
  rw [List.length_drop, List.length_cons] at this
  rw [hF]
  simp only
  omega
theorem atE_pay {l : List UInt8} {a : Nat} (h : atE l a = 0) : (atF l a).pay.length ≤ l.length := by
  obtain ⟨c, r, hd, -, hi, hlt, hF⟩ := atE_ok h
  obtain ⟨h1, h2, h3, -⟩ := inner_used hi
  have := congrArg List.length hd
  rw [List.length_drop, List.length_cons] at this
  rw [hF]
  simp only [List.length_drop]
  omega

def rowN (l : List UInt8) : Nat → Nat → List Fr1 × Nat × Int
  | 0, u => ([], u, 0)
  | k + 1, u => if u < l.length then (if atE l u = 0 then (atF l u :: (rowN l k (u + (atF l u).len.toNat)).1, (rowN l k (u + (atF l u).len.toNat)).2) else ([], u, atE l u)) else ([], u, 0)
def rowR (l : List UInt8) : List Fr1 × Nat × Int := rowN l l.length 0
theorem rowN_end {l : List UInt8} {k u : Nat} (h : ¬ u < l.length) : rowN l k u = ([], u, 0) := by
  cases k <;> simp [rowN, h]
theorem rowN_err {l : List UInt8} {k u : Nat} (h : u < l.length) (he : atE l u ≠ 0) : rowN l (k + 1) u = ([], u, atE l u) := by simp [rowN, h, he]
theorem rowN_ok {l : List UInt8} {k u : Nat} (h : u < l.length) (he : atE l u = 0) : rowN l (k + 1) u = (atF l u :: (rowN l k (u + (atF l u).len.toNat)).1, (rowN l k (u + (atF l u).len.toNat)).2) := by simp [rowN, h, he]

structure Gap1 where
  fro : Int
  to : Int
/-- the frames and the gaps from a place on; the open gap began at g -/
def scanN (l : List UInt8) : Nat → Nat → Nat → List Fr1 × List Gap1
  | 0, g, u => ([], if g < u then [⟨g, u⟩] else [])
  | k + 1, g, u => if u < l.length then
      (if atE l u = 0 then (atF l u :: (scanN l k (u + (atF l u).len.toNat) (u + (atF l u).len.toNat)).1, (if g < u then [⟨g, u⟩] else []) ++ (scanN l k (u + (atF l u).len.toNat) (u + (atF l u).len.toNat)).2) else scanN l k g (u + 1))
    else ([], if g < u then [⟨g, u⟩] else [])
def scanR (l : List UInt8) : List Fr1 × List Gap1 := scanN l l.length 0 0
theorem scanN_end {l : List UInt8} {k g u : Nat} (h : ¬ u < l.length) : scanN l k g u = ([], if g < u then [⟨g, u⟩] else []) := by
  cases k <;> simp [scanN, h]
theorem scanN_err {l : List UInt8} {k g u : Nat} (h : u < l.length) (he : atE l u ≠ 0) : scanN l (k + 1) g u = scanN l k g (u + 1) := by simp [scanN, h, he]
theorem scanN_ok {l : List UInt8} {k g u : Nat} (h : u < l.length) (he : atE l u = 0) : scanN l (k + 1) g u = (atF l u :: (scanN l k (u + (atF l u).len.toNat) (u + (atF l u).len.toNat)).1, (if g < u then [⟨g, u⟩] else []) ++ (scanN l k (u + (atF l u).len.toNat) (u + (atF l u).len.toNat)).2) := by simp [scanN, h, he]
end Go.Proofs.Ytohchhgheeolpaa.Frm

/- Records, plain: their payloads and frames, and what is read of bytes. No program. -/
namespace Go.Proofs.Ytohchhgheeolpaa.Rcd
open Oct Frm

def numsL (r : Rec) (ps : List Part) : List UInt8 := ps.flatMap fun p => be p.width.toNat (fld r p.off).toNat
def payL (r : Rec) : List UInt8 := numsL r (partsL r.kind) ++ r.data
def payO (r : Rec) : List UInt8 := if chk r = 0 then payL r else []
def frmL (r : Rec) : List UInt8 := if chk r = 0 then wrapL r.kind (payL r) else []

theorem bare_data {r : Rec} (h : r.kind ≠ 6) (h1 : 1 ≤ r.kind ∧ r.kind ≤ 6 := by assumption) : (bare r).data = [] := by
  unfold bare
  repeat' split
  all_goals first | rfl | omega
theorem bare_six {r : Rec} (h : r.kind = 6) : (bare r).data = r.data := by
  unfold bare
  repeat' split
  all_goals first | rfl | omega
theorem part_ok {k : Int} : ∀ p ∈ partsL k, 1 ≤ p.width ∧ p.width ≤ 8 ∧ 0 ≤ p.low ∧ p.high < ((256 ^ p.width.toNat : Nat) : Int) ∧ p.high ≤ 9007199254740992 := by
  unfold partsL
  repeat' split
  all_goals decide
theorem part_pos {k : Int} : ∀ p ∈ partsL k, 0 ≤ p.high := by
  unfold partsL
  repeat' split
  all_goals decide
theorem chk_zero {r : Rec} (h : chk r = 0) : (1 ≤ r.kind ∧ r.kind ≤ 6) ∧ (∀ p ∈ partsL r.kind, okP r p = true) ∧ r = bare r ∧ r.data.length ≤ 32768 ∧ (r.kind ≠ 6 → r.data = []) := by
  unfold chk at h
  by_cases h1 : r.kind < 1 ∨ 6 < r.kind
  · rw [if_pos h1] at h; omega
  rw [if_neg h1] at h
  by_cases h2 : within r = false
  · rw [if_pos h2] at h; omega
  rw [if_neg h2] at h
  by_cases h3 : r.kind = 6 ∧ 32768 < r.data.length
  · rw [if_pos h3] at h; omega
  rw [if_neg h3] at h
  by_cases h4 : r = bare r
  · have hk : 1 ≤ r.kind ∧ r.kind ≤ 6 := by omega
    have hd : r.kind ≠ 6 → r.data = [] := fun h6 => by rw [h4]; exact bare_data h6 hk
    refine ⟨hk, ?_, h4, ?_, hd⟩
    · have : within r = true := by simpa using h2
      unfold within at this
      rw [List.all_eq_true] at this
      exact this
    · by_cases h6 : r.kind = 6
      · omega
      · rw [hd h6]; simp
  · rw [if_neg h4] at h; omega
theorem numsL_next (r : Rec) {l : List Part} {j : Nat} (h : j < l.length) : numsL r (l.take (j + 1)) = numsL r (l.take j) ++ be l[j].width.toNat (fld r l[j].off).toNat := by
  rw [List.take_succ_eq_append_getElem h]
  simp only [numsL, List.flatMap_append, List.flatMap_cons, List.flatMap_nil, List.append_nil]
theorem numsL_len (r : Rec) (l : List Part) (h : ∀ p ∈ l, p.width ≤ 8) : (numsL r l).length ≤ 8 * l.length := by
  induction l with
  | nil => simp [numsL]
  | cons p l ih =>
    have := ih (fun q hq => h q (by simp [hq]))
    have := h p (by simp)
    simp only [numsL, List.flatMap_cons, List.length_append, be_length, List.length_cons] at *
    omega
theorem putL_fld {x : Int} {w : Int} (h0 : 0 ≤ x) (hw : 1 ≤ w ∧ w ≤ 8) (hx : x < ((256 ^ w.toNat : Nat) : Int)) : putL x.toNat w = be w.toNat x.toNat := by
  have hx' : x.toNat < 256 ^ w.toNat := by omega
  unfold putL putB okk
  rw [decide_eq_true hw, decide_eq_true hx']
  rfl
end Go.Proofs.Ytohchhgheeolpaa.Rcd

/- A mailbox behind so many records, beside its list of entries. Plain. -/
namespace Go.Proofs.Ytohchhgheeolpaa.Mbx
open Rcd

structure St (m : Box) (L : List Ent) (n : Nat) : Prop where
  rel : Rel m L
  inv : Inv m n
  pos : ∀ e ∈ L, 1 ≤ e.uid
theorem st_new : St new [] 0 := ⟨rel_new, inv_new, by simp⟩
theorem mem_insL {L : List Ent} {x e : Ent} (h : e ∈ insL L x) : e = x ∨ e ∈ L := by
  unfold insL at h
  rcases List.mem_append.1 h with h | h
  · exact .inr ((List.takeWhile_sublist _).mem h)
  · rcases List.mem_cons.1 h with h | h
    · exact .inl h
    · exact .inr ((List.dropWhile_sublist _).mem h)
theorem mem_setL {L : List Ent} {u : Int} {x e : Ent} (h : e ∈ setL L u x) : e = x ∨ e ∈ L := by
  unfold setL at h
  obtain ⟨a, ha, rfl⟩ := List.mem_map.1 h
  split
  · exact .inl rfl
  · exact .inr ha
theorem filter_at {L : List Ent} {u : Int} {e : Ent} (h : (at_ L u).filter (fun e => !e.gone) = some e) : e ∈ L := by
  rw [Option.filter_eq_some_iff] at h
  exact List.mem_of_find?_eq_some h.1
theorem pos_take {L : List Ent} (h : ∀ e ∈ L, 1 ≤ e.uid) (r : Rec) : ∀ e ∈ (takeL L r).1, 1 ≤ e.uid := by
  intro e he
  unfold takeL at he
  by_cases hc : chk r ≠ 0
  · rw [if_pos hc] at he; exact h e he
  rw [if_neg hc] at he
  by_cases h2 : r.kind = 2
  · rw [if_pos h2] at he
    split at he
    · exact h e he
    · rcases mem_insL he with rfl | he
      · exact (chk_msg (Decidable.not_not.1 hc) h2).1
      · exact h e he
  rw [if_neg h2] at he
  by_cases h3 : r.kind = 3
  · rw [if_pos h3] at he
    cases hx : (at_ L r.uid).filter (fun e => !e.gone) with
    | none => rw [hx] at he; exact h e he
    | some a =>
      rw [hx] at he
      rcases mem_setL he with rfl | he
      · exact h a (filter_at hx)
      · exact h e he
  rw [if_neg h3] at he
  by_cases h4 : r.kind = 4
  · rw [if_pos h4] at he
    cases hx : (at_ L r.uid).filter (fun e => !e.gone) with
    | none => rw [hx] at he; exact h e he
    | some a =>
      rw [hx] at he
      rcases mem_setL he with rfl | he
      · exact h a (filter_at hx)
      · exact h e he
  · rw [if_neg h4] at he; exact h e he
theorem st_take {m : Box} {L : List Ent} {n : Nat} (h : St m L n) (hn : n ≤ 1000) (r : Rec) : St (take m r).1 (takeL L r).1 (n + 1) ∧ (take m r).2 = (takeL L r).2 ∧ Step L (takeL L r).1 := by
  obtain ⟨h1, h2, h3⟩ := rel_take h.rel h.inv hn r
  exact ⟨⟨h1, inv_take h.inv r, pos_take h.pos r⟩, h2, h3⟩
def allL (L : List Ent) : List Rec → List Ent
  | [] => L
  | r :: l => allL (takeL L r).1 l
theorem allL_snoc (l : List Rec) (r : Rec) : ∀ L, allL L (l ++ [r]) = (takeL (allL L l) r).1 := by
  induction l with
  | nil => intro L; rfl
  | cons x l ih => intro L; exact ih _
theorem st_all (l : List Rec) : ∀ (m : Box) (L : List Ent) (n : Nat), St m L n → n + l.length ≤ 1000 → St (all m l) (allL L l) (n + l.length) := by
  induction l with
  | nil => intro m L n h _; exact h
  | cons r l ih =>
    intro m L n h hn
    simp only [List.length_cons] at hn
    have := ih _ _ _ (st_take h (by omega) r).1 (by omega)
    rw [List.length_cons, show n + (l.length + 1) = n + 1 + l.length from by omega]
    exact this
theorem St.size {m : Box} {L : List Ent} {n : Nat} (h : St m L n) : ∀ e ∈ L, 0 ≤ e.size := fun e he => h.inv.sz e.uid e (by rw [h.rel.ent]; exact at_mem h.rel.asc e he)
theorem St.low {m : Box} {L : List Ent} {n : Nat} (h : St m L n) : ∀ e ∈ L, e.uid < m.next := fun e he => h.inv.low e.uid e (by rw [h.rel.ent]; exact at_mem h.rel.asc e he)
theorem St.uid {m : Box} {L : List Ent} {n : Nat} (h : St m L n) : ∀ e ∈ L, 1 ≤ e.uid ∧ e.uid ≤ 2147483648 := fun e he => by
  have := h.pos e he
  have := h.low e he
  have := h.inv.n2
  omega
end Go.Proofs.Ytohchhgheeolpaa.Mbx

/- Places of entries in a list. Plain. -/
namespace Go.Proofs.Ytohchhgheeolpaa.Mbx
open Rcd

def findN (u : Int) : List Ent → Nat → Int
  | [], _ => -1
  | e :: l, j => if e.uid = u then (j : Int) else findN u l (j + 1)
def findL (L : List Ent) (u : Int) : Int := findN u L 0
theorem findN_spec (u : Int) : ∀ (L : List Ent) (j : Nat), (findN u L j = -1 ∧ at_ L u = none) ∨ ∃ (i : Nat) (h : i < L.length), findN u L j = (j + i : Nat) ∧ at_ L u = some L[i] ∧ L[i].uid = u
  | [], j => .inl ⟨rfl, rfl⟩
  | e :: l, j => by
    by_cases he : e.uid = u
    · exact .inr ⟨0, by simp, by simp [findN, he], by simp [at_, he], he⟩
    · rcases findN_spec u l (j + 1) with ⟨h1, h2⟩ | ⟨i, hi, h1, h2, h3⟩
      · exact .inl ⟨by simp [findN, he, h1], by unfold at_ at h2 ⊢; rw [List.find?_cons]; simp [he]; exact by simpa using h2⟩
      · refine .inr ⟨i + 1, by simp; omega, by simp only [findN, if_neg he, h1]; omega, ?_, h3⟩
        unfold at_ at h2 ⊢
        rw [List.find?_cons]
        simp only [decide_eq_true_eq, he, decide_false]
        simpa using h2
theorem findL_spec (L : List Ent) (u : Int) : (findL L u = -1 ∧ at_ L u = none) ∨ ∃ (i : Nat) (h : i < L.length), findL L u = (i : Int) ∧ at_ L u = some L[i] ∧ L[i].uid = u := by
  rcases findN_spec u L 0 with h | ⟨i, hi, h1, h2, h3⟩
  · exact .inl h
  · exact .inr ⟨i, hi, by unfold findL; rw [h1]; simp, h2, h3⟩
theorem setL_at {L : List Ent} (h : Asc L) {i : Nat} (hi : i < L.length) (e' : Ent) : setL L L[i].uid e' = L.take i ++ e' :: L.drop (i + 1) := by
  have hs : L = L.take i ++ L[i] :: L.drop (i + 1) := by
    rw [← List.drop_eq_getElem_cons hi, List.take_append_drop]
  have ha := h
  rw [hs] at ha
  obtain ⟨h1, h2⟩ := asc_split ha
  have := setL_split (e' := e') h1 h2
  rw [← hs] at this
  exact this
theorem tw_eq {L : List Ent} {u : Int} {j : Nat} (hj : j ≤ L.length) (h1 : ∀ i (_ : i < j) (h : i < L.length), L[i].uid < u) (h2 : ∀ h : j < L.length, ¬ L[j].uid < u) : L.takeWhile (fun a => decide (a.uid < u)) = L.take j ∧ L.dropWhile (fun a => decide (a.uid < u)) = L.drop j := by
  induction L generalizing j with
  | nil => simp at hj; subst hj; simp
  | cons x L ih =>
    cases j with
    | zero =>
      have h3 : ¬ x.uid < u := h2 (by simp)
      rw [List.takeWhile_cons, List.dropWhile_cons, if_neg (by simpa using h3), if_neg (by simpa using h3)]
      exact ⟨rfl, rfl⟩
    | succ j =>
      have hx := h1 0 (by omega) (by simp)
      simp at hx
      have := ih (j := j) (by simp at hj; exact hj) (fun i hi h => h1 (i + 1) (by omega) (by simp; omega)) (fun h => h2 (by simp; omega))
      rw [List.takeWhile_cons, List.dropWhile_cons, if_pos (by simpa using hx), if_pos (by simpa using hx), List.take_succ_cons, List.drop_succ_cons, this.1, this.2]
      exact ⟨rfl, rfl⟩
/-- what a record makes: not taken -/
theorem takeL_no {L : List Ent} {r : Rec} (h : chk r ≠ 0 ∨ r.kind < 2 ∨ 4 < r.kind ∨ (r.kind = 2 ∧ ((at_ L r.uid).isSome = true ∨ putB (sumS L) (cntS L) r.size = false)) ∨ (r.kind ≠ 2 ∧ ((at_ L r.uid).filter (fun e => !e.gone)) = none)) : takeL L r = (L, false) := by
  unfold takeL
  by_cases hc : chk r ≠ 0
  · rw [if_pos hc]
  rw [if_neg hc]
  rcases h with h | h | h | ⟨h1, h2⟩ | ⟨h1, h2⟩
  · exact absurd h hc
  · rw [if_neg (by omega), if_neg (by omega), if_neg (by omega)]
  · rw [if_neg (by omega), if_neg (by omega), if_neg (by omega)]
  · rw [if_pos h1, if_pos h2]
  · rw [if_neg h1]
    split
    · rw [h2]
    · split
      · rw [h2]
      · rfl
theorem take_no {m : Box} {r : Rec} {L : List Ent} {n : Nat} (h : St m L n) (hn : n ≤ 1000) (ht : takeL L r = (L, false)) : (take m r).1.next = m.next := by
  have h2 := (st_take h hn r).2.1
  rw [ht] at h2
  unfold take at h2 ⊢
  split
  · rfl
  rename_i hc
  rw [if_neg hc] at h2
  split
  · rename_i hk
    rw [if_pos hk] at h2
    unfold add at h2 ⊢
    split
    · rfl
    · rename_i h3
      rw [if_neg h3] at h2
      cases h2
  · split
    · unfold gone
      split <;> rfl
    · split
      · unfold flag
        split <;> rfl
      · rfl
theorem take_ins {m : Box} {r : Rec} {L : List Ent} (h : Rel m L) (hc : chk r = 0) (hk : r.kind = 2) (hp : ¬ ((at_ L r.uid).isSome = true ∨ putB (sumS L) (cntS L) r.size = false)) : takeL L r = (insL L (entOf r), true) ∧ (take m r).1.next = if m.next < r.uid + 1 then r.uid + 1 else m.next := by
  refine ⟨by unfold takeL; rw [if_neg (by rw [hc]; exact fun h => h rfl), if_pos hk, if_neg hp], ?_⟩
  unfold take add
  rw [if_neg (by rw [hc]; exact fun h => h rfl), if_pos hk, if_neg (by rw [h.ent, h.ub, h.uc]; exact hp)]
  rfl
theorem take_set {m : Box} {r : Rec} {L : List Ent} (h : Rel m L) (hc : chk r = 0) (hk : r.kind = 3 ∨ r.kind = 4) {i : Nat} (hi : i < L.length) (ha : at_ L r.uid = some L[i]) (hu : L[i].uid = r.uid) (hg : L[i].gone = false) : takeL L r = (L.take i ++ (if r.kind = 3 then { L[i] with gone := true, flags := 0 } else { L[i] with flags := r.flags }) :: L.drop (i + 1), true) ∧ (take m r).1.next = m.next := by
  have hf : (at_ L r.uid).filter (fun e => !e.gone) = some L[i] := by rw [ha, Option.filter_some, hg]; rfl
  have hnext : (take m r).1.next = m.next := by
    unfold take
    rw [if_neg (by rw [hc]; exact fun h => h rfl), if_neg (by omega)]
    split
    · unfold gone
      split <;> rfl
    · split
      · unfold flag
        split <;> rfl
      · rfl
  refine ⟨?_, hnext⟩
  unfold takeL
  rw [if_neg (by rw [hc]; exact fun h => h rfl), if_neg (by omega)]
  by_cases h3 : r.kind = 3
  · rw [if_pos h3, hf, if_pos h3, ← setL_at h.asc hi, hu]
  · rw [if_neg h3, if_pos (by omega), hf, if_neg h3, ← setL_at h.asc hi, hu]
end Go.Proofs.Ytohchhgheeolpaa.Mbx

/- Entries' bounds; bodies; records that make a mailbox again. Plain. -/
namespace Go.Proofs.Ytohchhgheeolpaa.Mbx
open Rcd

structure Good (e : Ent) : Prop where
  u1 : 1 ≤ e.uid
  u2 : e.uid ≤ 2147483648
  t1 : 0 ≤ e.time
  t2 : e.time ≤ 4503599627370496
  f1 : 0 ≤ e.flags
  f2 : e.flags ≤ 31
  b1 : 1 ≤ e.body
  b2 : e.body ≤ 2147483648
  s1 : 0 ≤ e.size
  s2 : e.size ≤ 32768
  o1 : 0 ≤ e.origin
  o2 : e.origin ≤ 9007199254740992
  g : e.gone = true → e.flags = 0
theorem within_msg {r : Rec} (h : chk r = 0) (hk : r.kind = 2) : Good (entOf r) := by
  have hw := (chk_ok h).1
  unfold within partsL at hw
  rw [if_neg (by omega), if_pos hk] at hw
  simp [okP, pUid, pFlags, pBody, fld] at hw
  obtain ⟨h1, h2, h3, h4, h5, h6⟩ := hw
  exact ⟨h1.1, h1.2, h2.1, h2.2, h3.1, h3.2, h4.1, h4.2, h5.1, h5.2, h6.1, h6.2, fun h => by cases h⟩
theorem within_flag {r : Rec} (h : chk r = 0) (hk : r.kind = 4) : 0 ≤ r.flags ∧ r.flags ≤ 31 := by
  have hw := (chk_ok h).1
  unfold within partsL at hw
  rw [if_neg (by omega), if_neg (by omega), if_neg (by omega), if_pos hk] at hw
  simp [okP, pUid, pFlags, fld] at hw
  exact hw.2
theorem good_take {L : List Ent} (h : ∀ e ∈ L, Good e) (r : Rec) : ∀ e ∈ (takeL L r).1, Good e := by
  intro e he
  unfold takeL at he
  by_cases hc : chk r ≠ 0
  · rw [if_pos hc] at he; exact h e he
  rw [if_neg hc] at he
  have hc0 := Decidable.not_not.1 hc
  by_cases h2 : r.kind = 2
  · rw [if_pos h2] at he
    split at he
    · exact h e he
    · rcases mem_insL he with rfl | he
      · exact within_msg hc0 h2
      · exact h e he
  rw [if_neg h2] at he
  by_cases h3 : r.kind = 3
  · rw [if_pos h3] at he
    cases hx : (at_ L r.uid).filter (fun e => !e.gone) with
    | none => rw [hx] at he; exact h e he
    | some a =>
      rw [hx] at he
      rcases mem_setL he with rfl | he
      · have := h a (filter_at hx)
        exact ⟨this.u1, this.u2, this.t1, this.t2, Int.le_refl _, (by show (0 : Int) ≤ 31; decide), this.b1, this.b2, this.s1, this.s2, this.o1, this.o2, fun _ => rfl⟩
      · exact h e he
  rw [if_neg h3] at he
  by_cases h4 : r.kind = 4
  · rw [if_pos h4] at he
    cases hx : (at_ L r.uid).filter (fun e => !e.gone) with
    | none => rw [hx] at he; exact h e he
    | some a =>
      rw [hx] at he
      rcases mem_setL he with rfl | he
      · have := h a (filter_at hx)
        have hf := within_flag hc0 h4
        have hg : a.gone = false := by
          rw [Option.filter_eq_some_iff] at hx
          simpa using hx.2
        exact ⟨this.u1, this.u2, this.t1, this.t2, hf.1, hf.2, this.b1, this.b2, this.s1, this.s2, this.o1, this.o2, fun h => by simp [hg] at h⟩
      · exact h e he
  · rw [if_neg h4] at he; exact h e he
theorem good_all (l : List Rec) : ∀ L, (∀ e ∈ L, Good e) → ∀ e ∈ allL L l, Good e := by
  induction l with
  | nil => intro L h; exact h
  | cons r l ih => intro L h; exact ih _ (good_take h r)
/-- the bodies from 1 to n that are on a list -/
def bodL (B : List Int) (n : Nat) : List Int := ((List.range n).map fun (i : Nat) => ((i : Int) + 1)).filter fun x => decide (x ∈ B)
theorem bodL_next (B : List Int) (n : Nat) : bodL B (n + 1) = bodL B n ++ if ((n : Int) + 1) ∈ B then [(n : Int) + 1] else [] := by
  unfold bodL
  rw [List.range_succ, List.map_append, List.filter_append]
  congr 1
  simp only [List.map_cons, List.map_nil, List.filter_cons, List.filter_nil]
  by_cases h : ((n : Int) + 1) ∈ B <;> simp [h]
theorem bodL_len (B : List Int) (n : Nat) : (bodL B n).length ≤ n := by
  refine Nat.le_trans (List.length_filter_le _ _) ?_
  simp
theorem asc_ext {a b : List Int} (ha : a.Pairwise (· < ·)) (hb : b.Pairwise (· < ·)) (h : ∀ x, x ∈ a ↔ x ∈ b) : a = b := by
  have na : a.Nodup := ha.imp (fun h => by show _ ≠ _; omega)
  have nb : b.Nodup := hb.imp (fun h => by show _ ≠ _; omega)
  exact List.Perm.eq_of_pairwise (le := (· < ·)) (fun x y _ _ h1 h2 => by omega) ha hb ((List.perm_ext_iff_of_nodup na nb).2 h)
theorem bodL_asc (B : List Int) (n : Nat) : (bodL B n).Pairwise (· < ·) := by
  unfold bodL
  refine List.Pairwise.filter _ (List.pairwise_map.2 ?_)
  exact List.pairwise_lt_range.imp (fun h => by omega)
theorem bodL_mem (B : List Int) (n : Nat) (x : Int) : x ∈ bodL B n ↔ 1 ≤ x ∧ x ≤ n ∧ x ∈ B := by
  unfold bodL
  rw [List.mem_filter, List.mem_map]
  constructor
  · rintro ⟨⟨i, hi, rfl⟩, h⟩
    have := List.mem_range.1 hi
    exact ⟨by omega, by omega, by simpa using h⟩
  · rintro ⟨h1, h2, h3⟩
    exact ⟨⟨(x - 1).toNat, List.mem_range.2 (by omega), by omega⟩, by simpa using h3⟩
theorem bodL_prefix {bl B : List Int} (ha : bl.Pairwise (· < ·)) (hm : ∀ x, x ∈ bl ↔ x ∈ B) (h1 : ∀ x ∈ B, 1 ≤ x) (n : Nat) : ∃ t, bl = bodL B n ++ t := by
  refine ⟨bl.filter (fun x => decide ((n : Int) < x)), ?_⟩
  refine asc_ext ha ?_ (fun x => ?_)
  · refine List.pairwise_append.2 ⟨bodL_asc B n, ha.filter _, fun a h b hb => ?_⟩
    have h2 := ((bodL_mem B n a).1 h).2.1
    have h3 := (List.mem_filter.1 hb).2
    simp at h3
    omega
  · rw [List.mem_append, bodL_mem, List.mem_filter, hm]
    constructor
    · intro h
      by_cases hx : x ≤ n
      · exact .inl ⟨h1 x h, hx, h⟩
      · exact .inr ⟨h, by simp; omega⟩
    · rintro (h | h)
      · exact h.2.2
      · exact h.1
end Go.Proofs.Ytohchhgheeolpaa.Mbx

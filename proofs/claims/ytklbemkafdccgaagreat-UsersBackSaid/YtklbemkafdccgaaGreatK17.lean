/- Several texts in one: UsKeys, UsRight, UsDoPl. -/
import Derived.Test.YtklbemkafdccgaaGreatUsNew
import Derived.Test.YtklbemkafdccgaaGreatUsShelf
/- users: maps.Keys of the aliases, slices.Sorted: the names, rising. -/
namespace Go.Proofs.YtklbemkafdccgaaGreat
open Go.RowKit Go.Sort Go.Shelf
namespace Usr
open Adr (Str)
open Mp Go.Maps
theorem sortsS (m : Nat) : AnyZ.SortsIn Tryz.prog Tryz.sortedStr2_ren Fence.wide m :=
 ⟨fun blk off cap ss W hH hblk hsz => callsIn_wide.2 (AnyM.slices_Sort_string Tryz.sortStr2 blk off cap ss W hH hblk hsz),
  fun p cap W => callsIn_wide.2 (AnyM.slices_Sort_string_none Tryz.sortStr2 p cap W)⟩
theorem keysAl_any (mb : Option Nat) (W : World) : Calls Tryz.prog 104 #[.map mb] W fun e w' => e = .returned (.func (.func 161) #[] #[.pointer (some ⟨W.heap.size, 0, none⟩)]) ∧ w' = W.alloc (.cells #[.map mb] 82) :=
 (callsIn_wide (n := 5)).1 (AnyZ.keys_in Tryz.keysAl Fence.wide 5 trivial rfl mb W)
theorem sortedAl_any (b nn : Nat) (D0 : DataW Unit) (R : Value → Option (DataW Unit × List MemPlace)) (w : World) (hown : w.ownsMap Tryz.prog 9 R b nn D0) (hn : nn ≤ 1000000) :
  Calls Tryz.prog 103 #[.func (.func 161) #[] #[.pointer (some ⟨w.heap.size, 0, none⟩)]] (w.alloc (.cells #[.map (some b)] 82)) fun e w' => ∃ (v : Value) (ss : List (List UInt8)), e = .returned v ∧ ss.Perm (strKeys D0) ∧ Own w' w.heap.size 9 v ((ss.mergeSort (fun x y => decide (x ≤ y))).map encStr) ∧ Keeps w w' := by
 refine (callsIn_wide (n := 5)).1 ?_
 have hsz := hown.size_le
 have hbl := hown.lt
 have hseq : SeqGives Fence.wide 2 Tryz.prog 161 #[.pointer (some ⟨w.heap.size, 0, none⟩)] encStr (fun ss => ss.Perm (strKeys D0)) (Maps.size D0) (w.alloc (.cells #[.map (some b)] 82)) :=
  AnyZ.keys_gives (ρ := Tryz.keysAl_ren) { Tryz.keysAl with } Fence.wide _ trivial rfl (by omega) w.heap.size b nn D0 _ (by simp) (by simp) (by
   obtain ⟨es, clock, hb, Ft, hs, hD⟩ := hown
   exact ⟨es, clock, (Below.heap_alloc _ _ b hbl).trans hb, Ft, hs, hD⟩)
 have cS := AnyZ.sorted_in Tryz.sortedStr2 Fence.wide 5 trivial trivial trivial trivial rfl (by omega) (sortsS _) (enters_of Tryz.func160 (by kernel_rfl) rfl) 161 #[.pointer (some ⟨w.heap.size, 0, none⟩)] trivial (enters_of Tryz.func161 (by kernel_rfl) rfl) _ _ (by unfold maxLen; omega) (by omega) _ hseq
 change CallsIn _ _ Tryz.prog 103 _ _ _ at cS
 refine cS.mono ?_
 rintro e w' ⟨v, ss, rfl, hS, hrow, hnil, hb⟩
 refine ⟨v, ss, rfl, hS, ?_, ((Below.refl _ w).alloc (Nat.le_refl _) _).trans (hb.mono (by simp))⟩
 unfold Own
 rw [show ((ss.mergeSort (fun x y => decide (x ≤ y))).map encStr).length = ss.length from by simp]
 exact ownsRow_base_a hrow (by simp)
theorem ltS_lt (a b : Str) : ltS a b = true ↔ a < b := by
 induction a generalizing b with
 |nil =>
  cases b with
  |nil => simp [ltS]
  |cons y b => simp [ltS]
 |cons x a ih =>
  cases b with
  |nil => simp [ltS]
  |cons y b =>
   rw [List.cons_lt_cons_iff, ← ih b]
   simp only [ltS, Bool.or_eq_true, Bool.and_eq_true, decide_eq_true_eq]
   exact Iff.rfl
theorem ltS_le {a b : Str} (h : ltS a b = true) : decide (a ≤ b) = true := decide_eq_true (List.le_of_lt ((ltS_lt a b).1 h))
/-- the aliases' names, sorted, are the table's -/
theorem sorted_al {D : DataW Unit} {av : List AlX} {t : TabP} (h : MapOf strL alD D (av.map alE)) (h1 : av.map (·.1) = t.al) (ho : t.al.Pairwise fun a b => ltS a.name b.name = true) {ss : List (List UInt8)} (hs : ss.Perm (strKeys D)) : (ss.mergeSort (fun x y => decide (x ≤ y))).map encStr = (namesA t).map strV := by
 have hp := h.keys
 have e : (av.map alE).map (·.1) = namesA t := by
  unfold namesA
  rw [← h1, List.map_map, List.map_map]
  rfl
 rw [e] at hp
 have e2 : ss.mergeSort (fun x y => decide (x ≤ y)) = namesA t := by
  show ss.mergeSort leB = _
  rw [mergeSort_of_perm (hs.trans hp)]
  refine List.mergeSort_of_pairwise ?_
  unfold namesA
  exact List.pairwise_map.2 (ho.imp fun {a b} hab => ltS_le hab)
 rw [e2]
 rfl
end Usr
end Go.Proofs.YtklbemkafdccgaaGreat

/- users, plain: each act leaves a right table. -/
namespace Go.Proofs.YtklbemkafdccgaaGreat
namespace Usr
open Adr (Str)
theorem right_new (dom : Str) : Right { dom := dom, next := 1, us := [], al := [] } :=
 ⟨by simp [namesU], by simp [namesA], by simp [namesU], by simp, by simp, by simp, by simp, by simp, by simp, by simp, by simp⟩
theorem right_addU {t : TabP} (h : Right t) (name : Str) (b c : Int) : Right (addU t name b c).1 := by
 unfold addU
 split
 ·exact h
 split
 ·exact h
 split
 ·exact h
 split
 ·exact h
 rename_i h1 h2 h3 h4
 simp only [not_or] at h3 h4
 have hnx := h.nx
 have hul := h.ul
 refine ⟨?_, h.na, ?_, ?_, ?_, ?_, ?_, h.an, h.ao, ?_, h.all⟩
 ·show ((t.us ++ [(⟨t.next, name, b, c⟩ : UsrP)]).map (fun u => u.name)).Nodup
  rw [List.map_append]
  exact nodup_snoc h.nu h3.1
 ·intro x hx
  rcases List.mem_append.1 (show x ∈ t.us.map (·.name) ++ [name] from by have := hx; unfold namesU at this; rwa [List.map_append] at this) with hx | hx
  ·exact h.dis x hx
  ·simp only [List.mem_singleton] at hx; subst hx; exact h3.2
 ·rw [List.pairwise_append]
  refine ⟨h.num, by simp, fun a ha b hb => ?_⟩
  simp only [List.mem_singleton] at hb; subst hb
  exact (h.lo a ha).2
 ·intro u hu
  rcases List.mem_append.1 hu with hu | hu
  ·have := h.lo u hu; exact ⟨this.1, by show u.n < t.next + 1; omega⟩
  ·simp only [List.mem_singleton] at hu; subst hu
   exact ⟨hnx.1, by show t.next < t.next + 1; omega⟩
 ·show 1 ≤ t.next + 1 ∧ t.next + 1 ≤ 1000
  omega
 ·intro u hu
  rcases List.mem_append.1 hu with hu | hu
  ·exact h.un u hu
  ·simp only [List.mem_singleton] at hu; subst hu
   exact ⟨by simpa using h1, by simpa using h2⟩
 ·show (t.us ++ [(⟨t.next, name, b, c⟩ : UsrP)]).length ≤ 16
  simp only [List.length_append, List.length_singleton]
  omega
theorem right_setL {t : TabP} (h : Right t) (name : Str) (b c : Int) : Right (setL t name b c).1 := by
 unfold setL
 split
 ·exact h
 split
 ·exact h
 rename_i h1 h2
 have en : ∀ u : UsrP, (if u.name = name then { u with lb := b, lc := c } else u).name = u.name := fun u => by split <;> rfl
 have em : ∀ u : UsrP, (if u.name = name then { u with lb := b, lc := c } else u).n = u.n := fun u => by split <;> rfl
 have e : namesU { t with us := t.us.map fun u => if u.name = name then { u with lb := b, lc := c } else u } = namesU t := by
  unfold namesU
  rw [List.map_map]
  exact List.map_congr_left fun u _ => en u
 refine ⟨by rw [e]; exact h.nu, h.na, fun x hx => h.dis x (by rw [e] at hx; exact hx), ?_, ?_, h.nx, ?_, h.an, h.ao, by rw [List.length_map]; exact h.ul, h.all⟩
 ·refine List.pairwise_map.2 (h.num.imp fun {a b} hab => ?_)
  rw [em, em]; exact hab
 ·intro u hu
  obtain ⟨x, hx, rfl⟩ := List.mem_map.1 hu
  rw [em]; exact h.lo x hx
 ·intro u hu
  obtain ⟨x, hx, rfl⟩ := List.mem_map.1 hu
  have := h.un x hx
  split
  ·exact ⟨this.1, by simpa using h2⟩
  ·exact this
theorem right_dropU {t : TabP} (h : Right t) (name : Str) : Right (dropU t name).1 := by
 unfold dropU
 split
 ·exact h
 ·have hs : (t.us.filter fun u => decide (u.name ≠ name)).Sublist t.us := List.filter_sublist
  refine ⟨(hs.map _).nodup h.nu, h.na, fun x hx => h.dis x ((hs.map _).subset hx), h.num.filter _, fun u hu => h.lo u (hs.subset hu), h.nx, fun u hu => h.un u (hs.subset hu), h.an, h.ao, Nat.le_trans hs.length_le h.ul, h.all⟩
theorem right_dropA {t : TabP} (h : Right t) (name : Str) : Right (dropA t name).1 := by
 unfold dropA
 split
 ·exact h
 ·have hs : (t.al.filter fun u => decide (u.name ≠ name)).Sublist t.al := List.filter_sublist
  exact ⟨h.nu, (hs.map _).nodup h.na, fun x hx hm => h.dis x hx ((hs.map _).subset hm), h.num, h.lo, h.nx, h.un, fun a ha => h.an a (hs.subset ha), h.ao.filter _, h.ul, Nat.le_trans hs.length_le h.all⟩
theorem insA_sorted (x : AlP) : ∀ l : List AlP, (l.Pairwise fun a b => ltS a.name b.name = true) → (∀ a ∈ l, a.name ≠ x.name) → ((insA x l).Pairwise fun a b => ltS a.name b.name = true)
 | [], _, _ => by simp [insA]
 |y :: r, h, hx => by
  rw [List.pairwise_cons] at h
  unfold insA
  split
  ·rename_i hy
   refine List.pairwise_cons.2 ⟨fun a ha => ?_, insA_sorted x r h.2 (fun a ha => hx a (List.mem_cons_of_mem _ ha))⟩
   rcases List.mem_cons.1 ((insA_perm x r).mem_iff.1 ha) with e | ha
   ·rw [e]; exact hy
   ·exact h.1 a ha
  ·rename_i hy
   have hxy : ltS x.name y.name = true := by
    rw [ltS_lt] at hy ⊢
    have hne := hx y (List.mem_cons_self ..)
    rcases List.le_iff_lt_or_eq.1 (List.not_lt.1 hy) with h1 | h1
    ·exact h1
    ·exact absurd h1.symm hne
   refine List.pairwise_cons.2 ⟨fun a ha => ?_, List.pairwise_cons.2 h⟩
   rcases List.mem_cons.1 ha with e | ha
   ·rw [e]; exact hxy
   ·have h2 := h.1 a ha
    rw [ltS_lt] at hxy h2 ⊢
    exact List.lt_trans hxy h2
theorem right_addA {t : TabP} (h : Right t) (name : Str) (tos : List Str) : Right (addA t name tos).1 := by
 unfold addA
 split
 ·exact h
 split
 ·exact h
 split
 ·exact h
 split
 ·exact h
 rename_i h1 h2 h3 h4
 simp only [not_or, Bool.not_eq_false] at h1
 have hs : (t.al.filter fun u => decide (u.name ≠ name)).Sublist t.al := List.filter_sublist
 have hnot : ∀ a ∈ t.al.filter (fun u => decide (u.name ≠ name)), a.name ≠ name := fun a ha => by simpa using (List.mem_filter.1 ha).2
 have hp := insA_perm ⟨name, tos⟩ (t.al.filter fun u => decide (u.name ≠ name))
 have hlen : (t.al.filter fun u => decide (u.name ≠ name)).length + 1 ≤ 16 := by
  by_cases hin : name ∈ namesA t
  ·obtain ⟨a, ha, rfl⟩ := List.mem_map.1 hin
   have : (t.al.filter fun u => decide (u.name ≠ a.name)).length < t.al.length := by
    refine List.length_filter_lt_length_iff_exists.2 ⟨a, ha, by simp⟩
   have := h.all
   omega
  ·have h5 : t.al.length ≠ 16 := fun e => h4 ⟨hin, e⟩
   have := hs.length_le
   have := h.all
   omega
 refine ⟨h.nu, ?_, ?_, h.num, h.lo, h.nx, h.un, ?_, insA_sorted _ _ (h.ao.filter _) hnot, h.ul, ?_⟩
 ·refine ((hp.map (·.name)).nodup_iff).2 ?_
  rw [List.map_cons, List.nodup_cons]
  refine ⟨fun hm => ?_, (hs.map _).nodup h.na⟩
  obtain ⟨a, ha, e⟩ := List.mem_map.1 hm
  exact hnot a ha e
 ·intro x hx hm
  rcases List.mem_cons.1 ((hp.map (·.name)).mem_iff.1 hm) with e | hm
  ·subst e; exact h3 hx
  ·exact h.dis x hx ((hs.map _).subset hm)
 ·intro a ha
  rcases List.mem_cons.1 (hp.mem_iff.1 ha) with e | ha
  ·subst e; exact ⟨h1.1, h1.2, by show tos.length ≤ 8; omega⟩
  ·exact h.an a (hs.subset ha)
 ·rw [hp.length_eq, List.length_cons]; exact hlen
end Usr
end Go.Proofs.YtklbemkafdccgaaGreat

/- users' law, plain: what an act does; small letters; the last one that fits. -/
namespace Go.Proofs.YtklbemkafdccgaaGreat.Usr
open Adr (Str domainB labelB labC endsOk splitL alnumB)
def doP (t : TabP) (kind : Int) (name : Str) (b c : Int) (tos : List Str) : TabP × Int × Int :=
 if kind = 0 then addU t name b c
 else if kind = 1 then setL t name b c
 else if kind = 2 then dropU t name
 else if kind = 3 then addA t name tos
 else if kind = 4 then dropA t name
 else (t, 0, 0)
theorem right_do {t : TabP} (h : Right t) (kind : Int) (name : Str) (b c : Int) (tos : List Str) : Right (doP t kind name b c tos).1 := by
 unfold doP
 split
 ·exact right_addU h _ _ _
 ·split
  ·exact right_setL h _ _ _
  ·split
   ·exact right_dropU h _
   ·split
    ·exact right_addA h _ _
    ·split
     ·exact right_dropA h _
     ·exact h
theorem dom_do (t : TabP) (kind : Int) (name : Str) (b c : Int) (tos : List Str) : (doP t kind name b c tos).1.dom = t.dom := by
 unfold doP
 split
 ·unfold addU; repeat' split
  all_goals rfl
 ·split
  ·unfold setL; repeat' split
   all_goals rfl
  ·split
   ·unfold dropU; split <;> rfl
   ·split
    ·unfold addA; repeat' split
     all_goals rfl
    ·split
     ·unfold dropA; split <;> rfl
     ·rfl
/-! ### the last one that fits, of those ahead of a place -/
def lastU (p : UsrP → Bool) (l : List UsrP) : Option UsrP := l.foldl (fun o u => if p u = true then some u else o) none
/-! ### small letters -/
theorem lowC_lt : ∀ n < 256, (lowC (lowC (UInt8.ofNat n)) = lowC (UInt8.ofNat n)) ∧ (labC (lowC (UInt8.ofNat n)) = labC (UInt8.ofNat n)) ∧ (lowC (UInt8.ofNat n) = 46 ↔ UInt8.ofNat n = 46) ∧ (lowC (UInt8.ofNat n) = 45 ↔ UInt8.ofNat n = 45) := by decide +kernel
theorem lowC_all (c : UInt8) : lowC (lowC c) = lowC c ∧ labC (lowC c) = labC c ∧ (lowC c = 46 ↔ c = 46) ∧ (lowC c = 45 ↔ c = 45) := by
 have := lowC_lt c.toNat c.toNat_lt
 rwa [UInt8.ofNat_toNat] at this
theorem lowL_idem (s : Str) : lowL (lowL s) = lowL s := by
 unfold lowL
 rw [List.map_map]
 exact List.map_congr_left fun c _ => (lowC_all c).1
theorem split_low : ∀ s : Str, splitL (lowL s) = (splitL s).map lowL
 | [] => rfl
 |c :: s => by
  have ih := split_low s
  unfold lowL at ih ⊢
  rw [List.map_cons]
  unfold splitL
  by_cases hc : c = 46
  ·rw [if_pos hc, if_pos ((lowC_all c).2.2.1.2 hc), ih]
   rfl
  ·rw [if_neg hc, if_neg (fun h => hc ((lowC_all c).2.2.1.1 h)), ih]
   cases splitL s <;> rfl
theorem label_low (x : Str) : labelB (lowL x) = labelB x := by
 unfold labelB endsOk lowL
 rw [List.all_map]
 congr 1
 ·exact List.all_congr rfl fun c => (lowC_all c).2.1
 ·congr 1
  ·congr 1
   ·cases x <;> simp
   ·rw [List.head?_map]
    cases x.head? with
    |none => rfl
    |some c =>
     have := (lowC_all c).2.2.2
     simp only [Option.map_some, ne_eq, Option.some.injEq]
     rw [decide_eq_decide]
     exact not_congr this
  ·rw [List.getLast?_map]
   cases x.getLast? with
   |none => rfl
   |some c =>
    have := (lowC_all c).2.2.2
    simp only [Option.map_some, ne_eq, Option.some.injEq]
    rw [decide_eq_decide]
    exact not_congr this
theorem domain_low (s : Str) : domainB (lowL s) = domainB s := by
 unfold domainB Adr.labelsB
 rw [split_low, lowL_len, List.all_map]
 congr 1
 exact List.all_congr rfl fun x => label_low x
end Go.Proofs.YtklbemkafdccgaaGreat.Usr

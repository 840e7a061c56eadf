/- Several texts in one: UsBytesPl, UsSink, UsRdRight, UsAwPl. -/
import Derived.Test.YtklbemkafdccgaaGreatK40
import Derived.Test.YtklbemkafdccgaaGreatK17
import Derived.Test.YtklbemkafdccgaaGreatUsClone
import Derived.Test.YtklbemkafdccgaaGreatK18
import Derived.Test.YtklbemkafdccgaaGreatK23
import Derived.Test.YtklbemkafdccgaaGreatEnBytes
import Derived.Test.YtklbemkafdccgaaGreatK25
/- users, plain: a table's bytes; what is read of them is the table. -/
namespace Go.Proofs.YtklbemkafdccgaaGreat.Usr
open Adr (Str domainB)
open Oct (uE uA uV tE tA tL okk getB getV valOf be be_length putL putB sgnV unsV fitsB)
open Env (textB)
def usrL (u : UsrP) : Str := be 2 u.n.toNat ++ (textB u.name ++ (be 8 (unsV u.lb 8) ++ be 8 (unsV u.lc 8)))
def tosL (l : List Str) : Str := l.flatMap textB
def alL (a : AlP) : Str := textB a.name ++ (be 1 a.tos.length ++ tosL a.tos)
def bytesT (t : TabP) : Str := textB t.dom ++ (be 2 t.next.toNat ++ (be 1 t.us.length ++ (t.us.flatMap usrL ++ (be 1 t.al.length ++ t.al.flatMap alL))))
def maxP : Nat := 65536
/-- one user that was read -/
def stepU (s : TabP × Bool × Int) (number : Int) (name : Str) (b c : Int) : TabP × Bool × Int :=
 let r := addU { s.1 with next := min (max number (s.2.2 + 1)) 1000 } name b c
 (r.1, s.2.1 && decide (r.2.2 = 0) && decide (r.2.1 = number), max s.2.2 r.2.1)
def rdUs : Nat → TabP × Bool × Int → Rd (TabP × Bool × Int)
 | 0, s => .ret s
 |n + 1, s => .num 2 fun number => .txt maxP fun name => .num 8 fun b => .num 8 fun c => .must (rdUs n (stepU s number name (sgnV b 8) (sgnV c 8)))
def rdTos : Nat → List Str → Rd (List Str)
 | 0, l => .ret l
 |n + 1, l => .txt maxP fun s => .must (rdTos n (l ++ [s]))
/-- one alias that was read -/
def stepA (s : TabP × Bool × Str) (name : Str) (tos : List Str) : TabP × Bool × Str :=
 if s.2.1 && ltS s.2.2 name then ((addA s.1 name tos).1, decide ((addA s.1 name tos).2.2 = 0), name) else (s.1, false, name)
def rdAl : Nat → TabP × Bool × Str → Rd (TabP × Bool × Str)
 | 0, s => .ret s
 |n + 1, s => .txt maxP fun name => .num 1 fun k => (rdTos k []).bind fun tos => .must (rdAl n (stepA s name tos))
def tab0 (dom : Str) : TabP := { dom := if domainB dom = true then lowL dom else [120], next := 1, us := [], al := [] }
def rdUsers (t : TabP) : Rd (TabP × Bool) := .num 1 fun n => (rdUs n (t, true, 0)).bind fun s => .ret (s.1, s.2.1)
def rdAliases (t : TabP) : Rd (TabP × Bool) := .num 1 fun n => (rdAl n (t, true, [])).bind fun s => .ret (s.1, s.2.1)
/-- the table, were all numbers right; the least and the next number -/
def rdAll : Rd (TabP × Bool × Int × Int) :=
 .txt maxP fun dom => .num 2 fun next => .must ((rdUsers (tab0 dom)).bind fun s => (rdAliases s.1).bind fun q => .must (.ret (q.1, q.2 && (s.2 && domainB dom), s.1.next, (next : Int))))
def leastT (t : TabP) (least : Int) : Int := if t.us.length = 0 then 1 else least
/-- what is read of bytes: a table, or why there is none -/
def readT (l : Str) : Option TabP × Int :=
 match rdAll.run l 0 0 with
 |(none, _, er) => (none, if er = 2 then 2 else 3)
 |(some (t, good, least, next), a, _) =>
  if good = true ∧ leastT t least ≤ next ∧ next ≤ 1000 ∧ a = l.length ∧ bytesT { t with next := next } = l then (some { t with next := next }, 0) else (none, 3)
/-! ### reading a table's own bytes -/
theorem rd_num {α : Type} {k v : Nat} (hk : 1 ≤ k ∧ k ≤ 8) (hv : v < 256 ^ k) (f : Nat → Rd α) {L pre post : Str} {a : Nat} (hL : L = pre ++ (be k v ++ post)) (ha : a = pre.length) : (Rd.num k f).run L a 0 = (f v).run L (pre ++ be k v).length 0 := by
 subst ha
 have hp : putB v (k : Int) = true := by simp [putB, okk, hv]; omega
 have hl : putL v (k : Int) = be k v := by simp [putL, hp]
 obtain ⟨h1, h2, h3⟩ := Oct.back_num (k := (k : Int)) hp (L := L) (pre := pre) (post := post) (by rw [hl]; exact hL)
 simp only [Rd.run]
 rw [h1, h2, h3, hl]
theorem rd_txt {α : Type} {m : Nat} {s : Str} (hs : s.length ≤ m) (hm : m ≤ 65536) (f : Str → Rd α) {L pre post : Str} {a : Nat} (hL : L = pre ++ (textB s ++ post)) (ha : a = pre.length) : (Rd.txt m f).run L a 0 = (f s).run L (pre ++ textB s).length 0 := by
 subst ha
 have hp : putB s.length (4 : Int) = true := by simp [putB, okk]; omega
 have hl : putL s.length (4 : Int) = be 4 s.length := by simp [putL, hp]
 have hbl := be_length 4 s.length
 have hL2 : L = pre ++ (putL s.length 4 ++ (s ++ post)) := by rw [hL, hl]; unfold textB; rw [List.append_assoc]
 obtain ⟨h1, h2, h3⟩ := Oct.back_num hp hL2
 have hg : getV L pre.length 4 = s.length := by
  have : uV L pre.length 0 4 = getV L pre.length 4 := by simp only [uV, h1, if_true]
  rw [← this, h3]
 have hlen : L.length = pre.length + (4 + (s.length + post.length)) := by rw [hL2, hl]; simp [hbl]
 have hE : tE L pre.length 0 m = 0 := by
  unfold tE
  rw [h1, hg, hlen, if_neg (by simp), if_neg (by omega), if_neg (by omega)]
 have hA : tA L pre.length 0 m = (pre ++ textB s).length := by
  simp only [tA, hE, if_true]
  rw [hg]
  unfold textB
  simp [hbl]
  omega
 have hT : tL L pre.length 0 m = s := by
  simp only [tL, hE, if_true]
  rw [hg, hL2, hl]
  have e : pre ++ (be 4 s.length ++ (s ++ post)) = (pre ++ be 4 s.length) ++ (s ++ post) := by rw [List.append_assoc]
  rw [e, show pre.length + 4 = (pre ++ be 4 s.length).length from by simp [hbl], Oct.taken rfl]
 simp only [Rd.run]
 rw [hE, hA, hT]
theorem lim_fits {b c : Int} (h : limB b c = true) : fitsB b 8 = true ∧ fitsB c 8 = true := by
 unfold limB boundB at h
 simp only [Bool.and_eq_true, decide_eq_true_eq] at h
 unfold fitsB okk
 simp
 omega
theorem uns_lt (x : Int) : unsV x 8 < 256 ^ 8 := by
 unfold unsV
 have := Int.emod_lt_of_pos x (show (0 : Int) < 2 ^ (8 * (8 : Int).toNat) from by decide)
 have := Int.emod_nonneg x (show (2 : Int) ^ (8 * (8 : Int).toNat) ≠ 0 from by decide)
 have e : (2 : Int) ^ (8 * (8 : Int).toNat) = 18446744073709551616 := by decide
 rw [e] at *
 have e2 : (256 : Nat) ^ 8 = 18446744073709551616 := by decide
 omega
theorem nameB_len {s : Str} (h : nameB s = true) : s.length ≤ 32 ∧ s ≠ [] := by
 unfold nameB at h
 simp only [Bool.and_eq_true, decide_eq_true_eq] at h
 exact ⟨h.2, h.1.2⟩
theorem rd_us {t : TabP} (hR : Right t) (dom : Str) : ∀ (n j : Nat), j + n = t.us.length → ∀ (nx : Int) (L pre post : Str) (a : Nat) (last : Int), L = pre ++ ((t.us.drop j).flatMap usrL ++ post) → a = pre.length → (∀ (hj : 0 < j) (hj' : j - 1 < t.us.length), last = t.us[j - 1].n) → (j = 0 → last = 0) →
  ∃ nx', (rdUs n ({ dom := dom, next := nx, us := t.us.take j, al := [] }, true, last)).run L a 0 = (some ({ dom := dom, next := nx', us := t.us, al := [] }, true, (t.us.getLast?.map (·.n)).getD 0), (pre ++ (t.us.drop j).flatMap usrL).length, 0) ∧ (0 < n → nx' = (t.us.getLast?.map (·.n)).getD 0 + 1) ∧ (n = 0 → nx' = nx) := by
 intro n
 induction n with
 |zero =>
  intro j hj nx L pre post a last hL ha h1 h2
  have hjl : j = t.us.length := by omega
  subst hjl
  refine ⟨nx, ?_, fun h => absurd h (by omega), fun _ => rfl⟩
  simp only [rdUs, Rd.run, List.take_length, List.drop_length, List.flatMap_nil, List.append_nil]
  rw [ha]
  congr 4
  rcases Nat.eq_zero_or_pos t.us.length with h0 | h0
  ·rw [h2 h0, List.eq_nil_of_length_eq_zero h0]; rfl
  ·rw [h1 h0 (by omega), List.getLast?_eq_getElem?, List.getElem?_eq_getElem (by omega)]; rfl
 |succ n ih =>
  intro j hj nx L pre post a last hL ha h1 h2
  have hjl : j < t.us.length := by omega
  have hm : t.us[j] ∈ t.us := List.getElem_mem hjl
  have hlo := hR.lo _ hm
  have hun := hR.un _ hm
  have hnx := hR.nx
  have hnl := nameB_len hun.1
  have hfit := lim_fits hun.2
  have hd : t.us.drop j = t.us[j] :: t.us.drop (j + 1) := List.drop_eq_getElem_cons hjl
  have hlast : last < t.us[j].n := by
   rcases Nat.eq_zero_or_pos j with h0 | h0
   ·rw [h2 h0]; omega
   ·rw [h1 h0 (by omega)]
    exact List.pairwise_iff_getElem.1 hR.num (j - 1) j (by omega) hjl (by omega)
  have hge : 0 ≤ last := by
   rcases Nat.eq_zero_or_pos j with h0 | h0
   ·rw [h2 h0]; omega
   ·rw [h1 h0 (by omega)]; have := (hR.lo _ (List.getElem_mem (show j - 1 < t.us.length by omega))).1; omega
  have hst : stepU ({ dom := dom, next := nx, us := t.us.take j, al := [] }, true, last) t.us[j].n t.us[j].name t.us[j].lb t.us[j].lc = ({ dom := dom, next := t.us[j].n + 1, us := t.us.take (j + 1), al := [] }, true, t.us[j].n) := by
   unfold stepU
   have e1 : min (max t.us[j].n (last + 1)) 1000 = t.us[j].n := by omega
   simp only [e1]
   have hno : t.us[j].name ∉ (t.us.take j).map (·.name) := by
    intro hx
    have hnd := hR.nu
    unfold namesU at hnd
    rw [← List.take_append_drop j t.us, List.map_append, List.nodup_append] at hnd
    exact hnd.2.2 _ hx t.us[j].name (List.mem_map.2 ⟨t.us[j], by rw [hd]; exact List.mem_cons_self .., rfl⟩) rfl
   have hul := hR.ul
   rw [addU_ok hun.1 hun.2 (by unfold namesU; exact hno) (by simp [namesA]) (by simp only [List.length_take]; omega) (by simp only; omega)]
   simp only [decide_true, Bool.and_true]
   rw [List.take_succ_eq_append_getElem hjl]
   congr 2
   omega
  have hnn : t.us[j].n = ((t.us[j].n.toNat : Nat) : Int) := by omega
  have hn2 : t.us[j].n.toNat < 256 ^ 2 := by have : (256 : Nat) ^ 2 = 65536 := rfl; omega
  simp only [rdUs]
  have hL1 : L = pre ++ (be 2 t.us[j].n.toNat ++ (textB t.us[j].name ++ (be 8 (unsV t.us[j].lb 8) ++ (be 8 (unsV t.us[j].lc 8) ++ ((t.us.drop (j + 1)).flatMap usrL ++ post))))) := by
   rw [hL, hd, List.flatMap_cons]
   unfold usrL
   simp only [List.append_assoc]
  rw [rd_num (by omega) hn2 _ hL1 ha]
  rw [rd_txt (by unfold maxP; omega) (by decide) _ (pre := pre ++ be 2 t.us[j].n.toNat) (s := t.us[j].name) (by rw [List.append_assoc]; exact hL1) rfl]
  rw [rd_num (k := 8) (v := unsV t.us[j].lb 8) (by omega) (uns_lt _) _ (pre := (pre ++ be 2 t.us[j].n.toNat) ++ textB t.us[j].name) (by simp only [List.append_assoc]; exact hL1) rfl]
  rw [rd_num (k := 8) (v := unsV t.us[j].lc 8) (by omega) (uns_lt _) _ (pre := ((pre ++ be 2 t.us[j].n.toNat) ++ textB t.us[j].name) ++ be 8 (unsV t.us[j].lb 8)) (by simp only [List.append_assoc]; exact hL1) rfl]
  rw [(Oct.uns_put hfit.1).2.1, (Oct.uns_put hfit.2).2.1, ← hnn]
  simp only [Rd.run]
  rw [if_pos trivial, hst]
  obtain ⟨nx', e1, e2, e3⟩ := ih (j + 1) (by omega) (t.us[j].n + 1) L ((((pre ++ be 2 t.us[j].n.toNat) ++ textB t.us[j].name) ++ be 8 (unsV t.us[j].lb 8)) ++ be 8 (unsV t.us[j].lc 8)) post _ t.us[j].n (by simp only [List.append_assoc]; exact hL1) rfl (fun _ _ => by simp) (by omega)
  refine ⟨nx', ?_, fun _ => ?_, fun h => absurd h (by omega)⟩
  ·rw [e1, hd, List.flatMap_cons]
   unfold usrL
   simp only [List.append_assoc]
  ·rcases Nat.eq_zero_or_pos n with h0 | h0
   ·rw [e3 h0]
    have : j = t.us.length - 1 := by omega
    subst this
    rw [List.getLast?_eq_getElem?, List.getElem?_eq_getElem hjl]; rfl
   ·exact e2 h0
theorem rd_tos : ∀ (T acc : List Str) (_ : ∀ x ∈ T, x.length ≤ 32) (L pre post : Str) (a : Nat), L = pre ++ (tosL T ++ post) → a = pre.length → (rdTos T.length acc).run L a 0 = (some (acc ++ T), (pre ++ tosL T).length, 0)
 | [], acc, _, L, pre, post, a, hL, ha => by simp [rdTos, Rd.run, tosL, ha]
 |s :: T, acc, hs, L, pre, post, a, hL, ha => by
  simp only [List.length_cons, rdTos]
  have hL1 : L = pre ++ (textB s ++ (tosL T ++ post)) := by rw [hL]; unfold tosL; rw [List.flatMap_cons, List.append_assoc]
  rw [rd_txt (by have := hs s (List.mem_cons_self ..); unfold maxP; omega) (by decide) _ hL1 ha]
  simp only [Rd.run]
  rw [if_pos trivial, rd_tos T (acc ++ [s]) (fun x hx => hs x (List.mem_cons_of_mem _ hx)) L (pre ++ textB s) post _ (by rw [List.append_assoc]; exact hL1) rfl]
  unfold tosL
  simp
theorem rd_al {t : TabP} (hR : Right t) (dom : Str) (nx : Int) : ∀ (n j : Nat), j + n = t.al.length → ∀ (L pre post : Str) (a : Nat) (ahead : Str), L = pre ++ ((t.al.drop j).flatMap alL ++ post) → a = pre.length → (∀ (hj : 0 < j) (hj' : j - 1 < t.al.length), ahead = t.al[j - 1].name) → (j = 0 → ahead = []) →
  ∃ ahead', (rdAl n ({ dom := dom, next := nx, us := t.us, al := t.al.take j }, true, ahead)).run L a 0 = (some ({ dom := dom, next := nx, us := t.us, al := t.al }, true, ahead'), (pre ++ (t.al.drop j).flatMap alL).length, 0) := by
 intro n
 induction n with
 |zero =>
  intro j hj L pre post a ahead hL ha h1 h2
  have hjl : j = t.al.length := by omega
  subst hjl
  exact ⟨ahead, by simp only [rdAl, Rd.run, List.take_length, List.drop_length, List.flatMap_nil, List.append_nil]; rw [ha]⟩
 |succ n ih =>
  intro j hj L pre post a ahead hL ha h1 h2
  have hjl : j < t.al.length := by omega
  have hm : t.al[j] ∈ t.al := List.getElem_mem hjl
  obtain ⟨hnb, htb, ht8⟩ := hR.an _ hm
  have hnl := nameB_len hnb
  have htl : ∀ x ∈ t.al[j].tos, x.length ≤ 32 := by
   intro x hx
   unfold namesB at htb
   simp only [Bool.and_eq_true, List.all_eq_true] at htb
   exact (nameB_len (htb.1.1 x hx)).1
  have hd : t.al.drop j = t.al[j] :: t.al.drop (j + 1) := List.drop_eq_getElem_cons hjl
  have hlt : ltS ahead t.al[j].name = true := by
   rcases Nat.eq_zero_or_pos j with h0 | h0
   ·rw [h2 h0]
    cases hnm : t.al[j].name with
    |nil => exact absurd hnm hnl.2
    |cons c r => rfl
   ·rw [h1 h0 (by omega)]
    exact List.pairwise_iff_getElem.1 hR.ao (j - 1) j (by omega) hjl (by omega)
  have hst : stepA ({ dom := dom, next := nx, us := t.us, al := t.al.take j }, true, ahead) t.al[j].name t.al[j].tos = ({ dom := dom, next := nx, us := t.us, al := t.al.take (j + 1) }, true, t.al[j].name) := by
   unfold stepA
   simp only [Bool.true_and]
   rw [if_pos hlt]
   have hall := hR.all
   have hno : t.al[j].name ∉ (t.al.take j).map (·.name) := by
    intro hx
    have hnd := hR.na
    unfold namesA at hnd
    rw [← List.take_append_drop j t.al, List.map_append, List.nodup_append] at hnd
    exact hnd.2.2 _ hx t.al[j].name (List.mem_map.2 ⟨t.al[j], by rw [hd]; exact List.mem_cons_self .., rfl⟩) rfl
   have e : addA { dom := dom, next := nx, us := t.us, al := t.al.take j } t.al[j].name t.al[j].tos = ({ dom := dom, next := nx, us := t.us, al := t.al.take (j + 1) }, 0, 0) := by
    unfold addA
    rw [if_neg (by simp [hnb, htb]), if_neg (by omega), if_neg, if_neg]
    ·show (({ dom := dom, next := nx, us := t.us, al := insA ⟨t.al[j].name, t.al[j].tos⟩ ((t.al.take j).filter fun a => decide (a.name ≠ t.al[j].name)) } : TabP), (0 : Int), (0 : Int)) = _
     rw [show (⟨t.al[j].name, t.al[j].tos⟩ : AlP) = t.al[j] from rfl, put_take hR.ao hjl]
    ·simp only [List.length_take]; omega
    ·intro hx
     exact hR.dis _ hx (List.mem_map.2 ⟨_, hm, rfl⟩)
   rw [e]
   rfl
  simp only [rdAl]
  have hL1 : L = pre ++ (textB t.al[j].name ++ (be 1 t.al[j].tos.length ++ (tosL t.al[j].tos ++ ((t.al.drop (j + 1)).flatMap alL ++ post)))) := by
   rw [hL, hd, List.flatMap_cons]
   unfold alL
   simp only [List.append_assoc]
  rw [rd_txt (by unfold maxP; omega) (by decide) _ hL1 ha]
  rw [rd_num (k := 1) (v := t.al[j].tos.length) (by omega) (by have : (256 : Nat) ^ 1 = 256 := rfl; omega) _ (pre := pre ++ textB t.al[j].name) (by rw [List.append_assoc]; exact hL1) rfl]
  rw [Rd.run_bind, rd_tos t.al[j].tos [] htl L ((pre ++ textB t.al[j].name) ++ be 1 t.al[j].tos.length) ((t.al.drop (j + 1)).flatMap alL ++ post) _ (by simp only [List.append_assoc]; exact hL1) rfl]
  simp only [List.nil_append, Rd.run]
  rw [if_pos trivial, hst]
  obtain ⟨ahead', e1⟩ := ih (j + 1) (by omega) L (((pre ++ textB t.al[j].name) ++ be 1 t.al[j].tos.length) ++ tosL t.al[j].tos) post _ t.al[j].name (by simp only [List.append_assoc]; exact hL1) rfl (fun _ _ => by simp) (by omega)
  refine ⟨ahead', ?_⟩
  rw [e1, hd, List.flatMap_cons]
  unfold alL
  simp only [List.append_assoc]
/-- what is read of a right table's bytes is the table -/
theorem readT_bytes {t : TabP} (hR : Right t) (hd : domainB t.dom = true) (hl : lowL t.dom = t.dom) : readT (bytesT t) = (some t, 0) := by
 have hdl : t.dom.length ≤ 64 := by
  unfold domainB at hd
  simp only [Bool.and_eq_true, decide_eq_true_eq] at hd
  exact hd.2
 have hnx := hR.nx
 have hul := hR.ul
 have hal := hR.all
 have hn2 : t.next.toNat < 256 ^ 2 := by have : (256 : Nat) ^ 2 = 65536 := rfl; omega
 have h1 : (256 : Nat) ^ 1 = 256 := rfl
 obtain ⟨L, hL⟩ : ∃ L, bytesT t = L := ⟨_, rfl⟩
 have hL1 : L = [] ++ (textB t.dom ++ (be 2 t.next.toNat ++ (be 1 t.us.length ++ (t.us.flatMap usrL ++ (be 1 t.al.length ++ t.al.flatMap alL))))) := by rw [← hL]; rfl
 have ht0 : tab0 t.dom = { dom := t.dom, next := 1, us := t.us.take 0, al := [] } := by unfold tab0; rw [if_pos hd, hl]; rfl
 obtain ⟨nx', e1, e2, e3⟩ := rd_us hR t.dom t.us.length 0 (by omega) 1 L ([] ++ textB t.dom ++ be 2 t.next.toNat ++ be 1 t.us.length) (be 1 t.al.length ++ t.al.flatMap alL) _ 0 (by simp only [List.append_assoc]; exact hL1) rfl (fun h => absurd h (by omega)) (fun _ => rfl)
 obtain ⟨ahead, e4⟩ := rd_al hR t.dom nx' t.al.length 0 (by omega) L ([] ++ textB t.dom ++ be 2 t.next.toNat ++ be 1 t.us.length ++ t.us.flatMap usrL ++ be 1 t.al.length) [] _ [] (by simp only [List.append_assoc, List.append_nil]; exact hL1) rfl (fun h => absurd h (by omega)) (fun _ => rfl)
 have hrun : rdAll.run L 0 0 = (some ({ dom := t.dom, next := nx', us := t.us, al := t.al }, true, nx', t.next), L.length, 0) := by
  unfold rdAll
  rw [rd_txt (m := maxP) (s := t.dom) (a := 0) (by unfold maxP; omega) (by decide) _ hL1 rfl]
  rw [rd_num (k := 2) (v := t.next.toNat) (by omega) hn2 _ (pre := [] ++ textB t.dom) (by rw [List.append_assoc]; exact hL1) rfl]
  simp only [Rd.run]
  rw [if_pos trivial, Rd.run_bind]
  unfold rdUsers
  rw [rd_num (k := 1) (v := t.us.length) (by omega) (by omega) _ (pre := [] ++ textB t.dom ++ be 2 t.next.toNat) (by simp only [List.append_assoc]; exact hL1) rfl]
  rw [Rd.run_bind, ht0, e1]
  simp only [Rd.run, List.drop_zero]
  rw [Rd.run_bind]
  unfold rdAliases
  rw [rd_num (k := 1) (v := t.al.length) (by omega) (by omega) _ (pre := [] ++ textB t.dom ++ be 2 t.next.toNat ++ be 1 t.us.length ++ t.us.flatMap usrL) (by simp only [List.append_assoc]; exact hL1) rfl]
  rw [Rd.run_bind]
  simp only [List.take_zero] at e4
  rw [e4]
  simp only [Rd.run, List.drop_zero]
  rw [if_pos trivial, hd]
  have hto : ((t.next.toNat : Nat) : Int) = t.next := by omega
  rw [hto]
  simp only [Bool.and_true]
  congr 2
  rw [hL1]
  simp only [List.append_assoc]
 rw [hL]
 unfold readT
 rw [hrun]
 simp only
 have hle : leastT { dom := t.dom, next := nx', us := t.us, al := t.al } nx' ≤ t.next := by
  unfold leastT
  split
  ·omega
  ·rename_i h0
   rw [e2 (by simp only at h0; omega)]
   cases hg : t.us.getLast? with
   |none => rw [List.getLast?_eq_none_iff] at hg; rw [hg] at h0; simp at h0
   |some u =>
    have hu := List.mem_of_getLast? hg
    have := (hR.lo u hu).2
    simp only [Option.map_some, Option.getD_some]
    omega
 have hb : bytesT { dom := t.dom, next := t.next, us := t.us, al := t.al } = L := hL
 rw [if_pos ⟨trivial, hle, hnx.2, trivial, hb⟩]
end Go.Proofs.YtklbemkafdccgaaGreat.Usr

/- users: a sink beside other rows: what it changes is its own block and its bytes alone. -/
namespace Go.Proofs.YtklbemkafdccgaaGreat
open Go.RowKit
namespace Usr
open Adr (Str)
open Oct (be putL putB okk textL SinkAt sinkU_any sinkText_any sinkI_any sinkBytes_any newSink_any be_length RetS unsV fitsB)
open Frm (Sole ownsRow_mods ownsRow_ty)
open Env (textB soleNew putL_be)
/-- what may be changed: a sink's block, and bytes -/
def SkT (w : World) (x : Nat) : Prop := ∃ cs e fr, w.heap[x]? = some (.cells cs e fr) ∧ (e = 181 ∨ e = 5)
def SkM (w w' : World) : Prop := Mods (SkT w) w w'
theorem skm_of {w w' : World} {g : Nat} {v : Value} {l : List UInt8} (h : SinkAt w g v l) (hm : Mods (Oct.Fr g v) w w') : SkM w w' := by
 refine hm.mono fun x hx => ?_
 rcases hx with rfl | hx
 ·exact ⟨_, _, _, h.blk, .inl rfl⟩
 ·rcases h.own.2 with ⟨rfl, _⟩ | ⟨q, cap, cur, rfl, _, hq, _⟩
  ·simp [Value.ownBlock] at hx
  ·simp [Value.ownBlock] at hx
   subst hx
   exact ⟨_, _, _, hq, .inr rfl⟩
theorem SkT.ne {w : World} {x : Nat} (h : SkT w x) {t : TypeId} (h1 : t ≠ 181) (h2 : t ≠ 5) : ∀ cs fr, w.heap[x]? ≠ some (.cells cs t fr) := by
 obtain ⟨cs, e, fr, hx, he⟩ := h
 intro cs' fr' hh
 rw [hx] at hh
 simp only [Option.some.injEq, Obj.cells.injEq] at hh
 obtain ⟨-, rfl, -⟩ := hh
 rcases he with he | he
 ·exact h1 he
 ·exact h2 he
theorem SkM.blk {w w' : World} (k : SkM w w') {q : Nat} {t : TypeId} {cs : Array Value} (h : Blk w q t cs) (h1 : t ≠ 181) (h2 : t ≠ 5) : Blk w' q t cs := h.mods k (fun hx => hx.ne h1 h2 _ _ h)
theorem SkM.row {w w' : World} (k : SkM w w') {b C n : Nat} {e : TypeId} {v : Value} {xs : List Value} (h : w.ownsRow b e C v n xs) (h1 : e ≠ 181) (h2 : e ≠ 5) : w'.ownsRow b e C v n xs := by
 refine ownsRow_mods h k (fun x hx hs => ?_)
 rcases h.2 with ⟨rfl, _⟩ | ⟨q, cap, cur, rfl, _, hq, _⟩
 ·simp [Value.ownBlock] at hx
 ·simp [Value.ownBlock] at hx
  subst hx
  exact hs.ne h1 h2 _ _ hq
theorem SkM.als {w w' : World} (k : SkM w w') {b : Nat} {v : Value} {l : List (AlP × Value)} (h : AlsAt w b v l) : AlsAt w' b v l :=
 ⟨k.row h.own (by decide) (by decide), fun x hx => (h.pay x hx).modsT k (fun y hy cs fr => hy.ne (by decide) (by decide) cs fr)⟩
theorem SkM.piece {w w' : World} (k : SkM w w') {b : Nat} {v : Value} {l : List Value} (h : Piece w b 9 v l) : Piece w' b 9 v l := h.modsT k (fun y hy cs fr => hy.ne (by decide) (by decide) cs fr)
def SkDid (W w : World) (g : Nat) (l : List UInt8) (r : Ending) (e : Ending) (w' : World) : Prop := ∃ v', e = r ∧ Sole W w' g v' l ∧ SkM w w'
theorem skU {W w : World} {g : Nat} {v : Value} {l : List UInt8} (h : Sole W w g v l) (x k : Nat) (ki : Int) (hki : ki = (k : Int)) (hk : 1 ≤ k ∧ k ≤ 8) (hx : x < 256 ^ k) (hl : l.length ≤ 1000000000) :
  Calls Tryz.prog 54 #[.pointer (some ⟨g, 0, none⟩), .int .u64 (x : Int), .int .i64 ki] w (SkDid W w g (l ++ be k x) (.returned (.bool true))) := by
 subst hki
 have h1 := putL_be hk hx
 have h64 : x < 18446744073709551616 := Nat.lt_of_lt_of_le hx (Nat.le_trans (Nat.pow_le_pow_right (by omega) hk.2) (by decide))
 refine (sinkU_any g v l x h64 k w h.sink (by omega)).mono ?_
 rintro e w' ⟨v', rfl, hs, hm, hf⟩
 refine ⟨v', by rw [h1.2], ?_, skm_of h.sink hm⟩
 have := h.did hs hm hf
 rwa [h1.1] at this
theorem skI {W w : World} {g : Nat} {v : Value} {l : List UInt8} (h : Sole W w g v l) (x : Int) (hf : fitsB x 8 = true) (hl : l.length ≤ 1000000000) :
  Calls Tryz.prog 55 #[.pointer (some ⟨g, 0, none⟩), .int .i64 x, .int .i64 8] w (SkDid W w g (l ++ be 8 (unsV x 8)) (.returned (.bool true))) := by
 have hb : -9223372036854775808 ≤ x ∧ x ≤ 9223372036854775807 := by
  unfold fitsB okk at hf
  simp at hf
  omega
 refine (sinkI_any g v l x hb 8 w h.sink (by omega)).mono ?_
 rintro e w' ⟨v', rfl, hs, hm, hfr⟩
 refine ⟨v', by rw [hf], ?_, skm_of h.sink hm⟩
 have := h.did hs hm hfr
 rw [if_pos hf, (Oct.uns_put hf).2.2.1] at this
 exact this
theorem skT {W w : World} {g : Nat} {v : Value} {l : List UInt8} (h : Sole W w g v l) (s : List UInt8) (hs : s.length ≤ 1000000) (hl : l.length ≤ 1000000000) :
  Calls Tryz.prog 53 #[.pointer (some ⟨g, 0, none⟩), .string (bstr s)] w (SkDid W w g (l ++ textB s) (.returned (.tuple #[]))) := by
 refine (sinkText_any g v l (bstr s) w h.sink (by rw [bstr_size]; omega)).mono ?_
 rintro e w' ⟨v', rfl, hk, hm, hf⟩
 refine ⟨v', rfl, ?_, skm_of h.sink hm⟩
 have := h.did hk hm hf
 have e : textL (bstr s) = textB s := by
  unfold textL textB
  rw [bstr_size, show putL s.length 4 = be 4 s.length from (putL_be (by decide) (Nat.lt_of_le_of_lt hs (by decide))).1]
  rfl
 rwa [e] at this
theorem usrL_len {u : UsrP} (h : u.name.length ≤ 32) : (usrL u).length ≤ 54 := by
 unfold usrL textB
 simp [be_length]
 omega
theorem flat_le {α : Type} (f : α → List UInt8) (b : Nat) : ∀ l : List α, (∀ x ∈ l, (f x).length ≤ b) → (l.flatMap f).length ≤ b * l.length
 | [], _ => by simp
 |a :: l, h => by
  rw [List.flatMap_cons, List.length_append, List.length_cons]
  have h1 := h a (List.mem_cons_self ..)
  have h2 := flat_le f b l (fun x hx => h x (List.mem_cons_of_mem _ hx))
  rw [Nat.mul_add]
  omega
theorem tosL_len {l : List Str} (h : ∀ x ∈ l, x.length ≤ 32) (h8 : l.length ≤ 8) : (tosL l).length ≤ 288 := by
 have := flat_le textB 36 l (fun x hx => by have := h x hx; unfold textB; simp [be_length]; omega)
 unfold tosL
 omega
theorem alL_len {a : AlP} (hn : a.name.length ≤ 32) (h : ∀ x ∈ a.tos, x.length ≤ 32) (h8 : a.tos.length ≤ 8) : (alL a).length ≤ 325 := by
 have := tosL_len h h8
 unfold alL textB
 simp [be_length]
 omega
theorem takeF_next {α : Type} (f : α → List UInt8) {l : List α} {j : Nat} (h : j < l.length) : (l.take (j + 1)).flatMap f = (l.take j).flatMap f ++ f l[j] := by
 rw [List.take_succ_eq_append_getElem h, List.flatMap_append]
 simp
theorem takeF_len {α : Type} (f : α → List UInt8) (b : Nat) (l : List α) (h : ∀ x ∈ l, (f x).length ≤ b) (j : Nat) : ((l.take j).flatMap f).length ≤ b * l.length := by
 refine Nat.le_trans (flat_le f b _ (fun x hx => h x (List.mem_of_mem_take hx))) (Nat.mul_le_mul_left _ ?_)
 rw [List.length_take]
 exact Nat.min_le_right _ _
end Usr
end Go.Proofs.YtklbemkafdccgaaGreat

/- users, plain: what is read is a right table. -/
namespace Go.Proofs.YtklbemkafdccgaaGreat.Usr
open Adr (Str domainB)
structure InvU (s : TabP × Bool × Int) (dom : Str) : Prop where
 r : Right s.1
 le : ∀ u ∈ s.1.us, u.n ≤ s.2.2
 lo : 0 ≤ s.2.2
 hi : s.2.2 ≤ 999
 d : s.1.dom = dom
theorem right_next {t : TabP} (h : Right t) {nx : Int} (h1 : ∀ u ∈ t.us, u.n < nx) (h2 : 1 ≤ nx ∧ nx ≤ 1000) : Right { t with next := nx } :=
 ⟨h.nu, h.na, h.dis, h.num, fun u hu => ⟨(h.lo u hu).1, h1 u hu⟩, h2, h.un, h.an, h.ao, h.ul, h.all⟩
theorem addU_num {t : TabP} {name : Str} {b c : Int} : ((addU t name b c).1 = t ∧ (addU t name b c).2.1 = 0) ∨ ((addU t name b c).1.us = t.us ++ [⟨t.next, name, b, c⟩] ∧ (addU t name b c).1.dom = t.dom ∧ (addU t name b c).2.1 = t.next ∧ t.next ≤ 999) := by
 unfold addU
 split
 ·exact .inl ⟨rfl, rfl⟩
 split
 ·exact .inl ⟨rfl, rfl⟩
 split
 ·exact .inl ⟨rfl, rfl⟩
 split
 ·exact .inl ⟨rfl, rfl⟩
 ·rename_i h
  simp only [not_or] at h
  exact .inr ⟨rfl, rfl, rfl, by omega⟩
theorem stepU_inv {s : TabP × Bool × Int} {dom : Str} (h : InvU s dom) {num : Int} (hn : 0 ≤ num) (name : Str) (b c : Int) : InvU (stepU s num name b c) dom := by
 obtain ⟨t, g, last⟩ := s
 obtain ⟨hr, hle, hlo, hhi, hd⟩ := h
 simp only at hr hle hlo hhi hd
 have h1 : Right { t with next := min (max num (last + 1)) 1000 } := right_next hr (fun u hu => by have := hle u hu; omega) (by omega)
 have h2 := right_addU h1 name b c
 have h3 := addU_num (t := { t with next := min (max num (last + 1)) 1000 }) (name := name) (b := b) (c := c)
 unfold stepU
 simp only
 generalize addU { t with next := min (max num (last + 1)) 1000 } name b c = r at *
 obtain ⟨rt, rn, re⟩ := r
 simp only at h2 h3 ⊢
 rcases h3 with ⟨rfl, rfl⟩ | ⟨k1, k2, rfl, k4⟩
 ·exact ⟨h2, fun u hu => by have := hle u hu; show u.n ≤ max last 0; omega, by show 0 ≤ max last 0; omega, by show max last 0 ≤ 999; omega, hd⟩
 ·refine ⟨h2, ?_, ?_, ?_, k2.trans hd⟩
  ·intro u hu
   rw [k1] at hu
   rcases List.mem_append.1 hu with hu | hu
   ·have := hle u hu; show u.n ≤ max last (min (max num (last + 1)) 1000); omega
   ·simp only [List.mem_singleton] at hu; subst hu
    show min (max num (last + 1)) 1000 ≤ max last (min (max num (last + 1)) 1000); omega
  ·show 0 ≤ max last (min (max num (last + 1)) 1000); omega
  ·show max last (min (max num (last + 1)) 1000) ≤ 999; omega
theorem rdUs_inv : ∀ (n : Nat) (s : TabP × Bool × Int) (dom : Str) (l : Str) (a : Nat) (er : Int) (s' : TabP × Bool × Int) (a' : Nat) (er' : Int), (rdUs n s).run l a er = (some s', a', er') → InvU s dom → InvU s' dom
 | 0, s, dom, l, a, er, s', a', er', h, hi => by
  simp only [rdUs, Rd.run, Prod.mk.injEq, Option.some.injEq] at h
  obtain ⟨rfl, -⟩ := h
  exact hi
 |n + 1, s, dom, l, a, er, s', a', er', h, hi => by
  simp only [rdUs, Rd.run] at h
  split at h
  ·exact rdUs_inv n _ dom _ _ _ _ _ _ h (stepU_inv hi (by omega) _ _ _)
  ·simp at h
theorem rdUsers_right {t t' : TabP} {g : Bool} {l : Str} {a a' : Nat} {er er' : Int} (h : (rdUsers t).run l a er = (some (t', g), a', er')) (hR : Right t) (hu : t.us = []) : Right t' ∧ t'.dom = t.dom := by
 unfold rdUsers at h
 simp only [Rd.run] at h
 rw [Rd.run_bind] at h
 split at h
 ·rename_i s a1 e1 hs
  simp only [Rd.run, Prod.mk.injEq, Option.some.injEq] at h
  obtain ⟨⟨rfl, -⟩, -⟩ := h
  have := rdUs_inv _ _ t.dom _ _ _ _ _ _ hs ⟨hR, by rw [hu]; simp, Int.le_refl 0, (by decide : (0 : Int) ≤ 999), rfl⟩
  exact ⟨this.r, this.d⟩
 ·simp at h
theorem addA_same (t : TabP) (name : Str) (tos : List Str) : (addA t name tos).1.us = t.us ∧ (addA t name tos).1.dom = t.dom ∧ (addA t name tos).1.next = t.next := by
 unfold addA
 split
 ·exact ⟨rfl, rfl, rfl⟩
 split
 ·exact ⟨rfl, rfl, rfl⟩
 split
 ·exact ⟨rfl, rfl, rfl⟩
 split
 ·exact ⟨rfl, rfl, rfl⟩
 ·exact ⟨rfl, rfl, rfl⟩
def InvA (t : TabP) (t' : TabP) : Prop := Right t' ∧ t'.us = t.us ∧ t'.dom = t.dom ∧ t'.next = t.next
theorem stepA_inv {t : TabP} {s : TabP × Bool × Str} (h : InvA t s.1) (name : Str) (tos : List Str) : InvA t (stepA s name tos).1 := by
 unfold stepA
 split
 ·have := addA_same s.1 name tos
  exact ⟨right_addA h.1 name tos, this.1.trans h.2.1, this.2.1.trans h.2.2.1, this.2.2.trans h.2.2.2⟩
 ·exact h
theorem rdAl_inv (t : TabP) : ∀ (n : Nat) (s : TabP × Bool × Str) (l : Str) (a : Nat) (er : Int) (s' : TabP × Bool × Str) (a' : Nat) (er' : Int), (rdAl n s).run l a er = (some s', a', er') → InvA t s.1 → InvA t s'.1
 | 0, s, l, a, er, s', a', er', h, hi => by
  simp only [rdAl, Rd.run, Prod.mk.injEq, Option.some.injEq] at h
  obtain ⟨rfl, -⟩ := h
  exact hi
 |n + 1, s, l, a, er, s', a', er', h, hi => by
  simp only [rdAl, Rd.run] at h
  rw [Rd.run_bind] at h
  split at h
  ·simp only [Rd.run] at h
   split at h
   ·exact rdAl_inv t n _ _ _ _ _ _ _ h (stepA_inv hi _ _)
   ·simp at h
  ·simp at h
theorem rdAliases_right {t t' : TabP} {g : Bool} {l : Str} {a a' : Nat} {er er' : Int} (h : (rdAliases t).run l a er = (some (t', g), a', er')) (hR : Right t) : InvA t t' := by
 unfold rdAliases at h
 simp only [Rd.run] at h
 rw [Rd.run_bind] at h
 split at h
 ·rename_i s a1 e1 hs
  simp only [Rd.run, Prod.mk.injEq, Option.some.injEq] at h
  obtain ⟨⟨rfl, -⟩, -⟩ := h
  exact rdAl_inv t _ _ _ _ _ _ _ _ hs ⟨hR, rfl, rfl, rfl⟩
 ·simp at h
theorem right_end {t1 t2 : TabP} (h : InvA t1 t2) (h1 : Right t1) {nx : Int} (hl : leastT t2 t1.next ≤ nx) (hn : nx ≤ 1000) : Right { t2 with next := nx } := by
 unfold leastT at hl
 have hx := h1.nx
 refine right_next h.1 (fun u hu => ?_) ?_
 ·split at hl
  ·rename_i h0
   have := List.eq_nil_of_length_eq_zero h0
   rw [this] at hu; cases hu
  ·rw [h.2.1] at hu
   have := (h1.lo u hu).2
   omega
 ·split at hl <;> omega
theorem tab0_right (dom : Str) : Right (tab0 dom) := right_new _
end Go.Proofs.YtklbemkafdccgaaGreat.Usr

/- law13, plain: what awake makes. -/
namespace Go.Proofs.YtklbemkafdccgaaGreat.Usr
open Adr (Str domainB goodB)
def dX : Str := [88, 46, 111, 114, 103]
def dx : Str := [120, 46, 111, 114, 103]
def sAnn : Str := [97, 110, 110]
def sBob : Str := [98, 111, 98]
def sAll : Str := [97, 108, 108]
def aw0 : TabP := { dom := dx, next := 1, us := [], al := [] }
def aw1 : TabP := { dom := dx, next := 2, us := [⟨1, sAnn, 5, -1⟩], al := [] }
def aw2 : TabP := { dom := dx, next := 3, us := [⟨1, sAnn, 5, -1⟩, ⟨2, sBob, -1, -1⟩], al := [] }
def aw3 : TabP := { dom := dx, next := 3, us := [⟨1, sAnn, 5, -1⟩, ⟨2, sBob, -1, -1⟩], al := [⟨sAll, [sAnn, sBob, sAll]⟩] }
theorem aw_1 : addU aw0 sAnn 5 (-1) = (aw1, 1, 0) := by kernel_rfl
theorem aw_2 : addU aw1 sBob (-1) (-1) = (aw2, 2, 0) := by kernel_rfl
theorem aw_3 : addA aw2 sAll [sAnn, sBob, sAll] = (aw3, 0, 0) := by kernel_rfl
theorem aw_dom : domainB dX = true ∧ lowL dX = dx ∧ domainB [45] = false ∧ domainB dx = true ∧ lowL dx = dx := ⟨by kernel_rfl, by kernel_rfl, by kernel_rfl, by kernel_rfl, by kernel_rfl⟩
theorem aw_r0 : Right aw0 := right_new dx
theorem aw_r1 : Right aw1 := by have := right_addU aw_r0 sAnn 5 (-1); rw [aw_1] at this; exact this
theorem aw_r2 : Right aw2 := by have := right_addU aw_r1 sBob (-1) (-1); rw [aw_2] at this; exact this
theorem aw_r3 : Right aw3 := by have := right_addA aw_r2 sAll [sAnn, sBob, sAll]; rw [aw_3] at this; exact this
theorem aw_tos : tosOf aw3 sAll = [sAnn, sBob, sAll] := by kernel_rfl
theorem aw_res : resP aw3 [65, 76, 76] [120, 46, 79, 82, 71] = ([1, 2], 0) := by
 have h1 : goodB [65, 76, 76] [120, 46, 79, 82, 71] = true := by kernel_rfl
 have h2 : lowL [120, 46, 79, 82, 71] = dx := by kernel_rfl
 have h3 : lowL [65, 76, 76] = sAll := by kernel_rfl
 have h4 : resN aw3 sAll = [1, 2] := by
  unfold resN
  rw [List.filter_eq_self.2]
  ·rfl
  ·intro u hu
   simp only [decide_eq_true_eq]
   refine Leads.step Leads.refl ?_
   rw [aw_tos]
   simp only [aw3, List.mem_cons, List.not_mem_nil, or_false] at hu
   rcases hu with rfl | rfl <;> simp
 rw [resP_ok h1 (by rw [h2]; exact decide_eq_true rfl) (by rw [h3, h4]; simp), h3, h4]
theorem aw_read : readT (bytesT aw3) = (some aw3, 0) := readT_bytes aw_r3 aw_dom.2.2.2.1 aw_dom.2.2.2.2
end Go.Proofs.YtklbemkafdccgaaGreat.Usr

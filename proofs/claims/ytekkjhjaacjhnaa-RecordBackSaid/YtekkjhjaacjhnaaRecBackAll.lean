/- Records written one behind the other are found: plain. No program. -/
import Derived.Test.YtekkjhjaacjhnaaRecBackPlain
import Derived.Test.YtekkjhjaacjhnaaRecScanPlain
import Derived.Test.YtekkjhjaacjhnaaFrameBackPlain
namespace Go.Proofs.Ytekkjhjaacjhnaa.Rcd
open Oct Frm

theorem gI_mid {l a b c : List UInt8} {n k : Nat} {v : Int} (h : l = a ++ (b ++ c)) (hn : n = a.length) (hb : b = be k v.toNat) (h1 : 1 ≤ k) (h8 : k ≤ 8) (h0 : 0 ≤ v) (hv : v < ((256 ^ k : Nat) : Int)) (hm : v ≤ 9007199254740992) {n' k' : Int} (e1 : n' = n) (e2 : k' = k) : gI l n' k' = v := by
  subst e1 e2
  have hg := getV_mid h hn (k := k) (by rw [hb, be_length]) h1 h8
  unfold gI capI
  rw [hg, hb, valOf_be, Nat.mod_eq_of_lt (by omega), if_neg (by omega)]
  omega
theorem payL_size {r : Rec} (h : chk r = 0) : (payL r).length = sizeK r.kind + r.data.length := by
  obtain ⟨hk, -, -, -, -⟩ := chk_zero h
  have : r.kind = 1 ∨ r.kind = 2 ∨ r.kind = 3 ∨ r.kind = 4 ∨ r.kind = 5 ∨ r.kind = 6 := by omega
  unfold payL numsL partsL
  rcases this with k | k | k | k | k | k <;> (simp [k, be_length, sizeK, pUid, pFlags, pBody, pNext]; try omega)
theorem fld_ok {r : Rec} {k : Int} (hok : ∀ q ∈ partsL k, okP r q = true) {q : Part} (hq : q ∈ partsL k) : 0 ≤ fld r q.off ∧ fld r q.off < ((256 ^ q.width.toNat : Nat) : Int) ∧ fld r q.off ≤ 9007199254740992 := by
  have h := hok q hq
  obtain ⟨h1, h2, h3, h4, h5⟩ := part_ok q hq
  have hb : q.low ≤ fld r q.off ∧ fld r q.off ≤ q.high := by simpa [okP] using h
  omega
theorem sizeK_le (k : Int) : sizeK k ≤ 29 := by
  unfold sizeK
  by_cases h1 : k = 1
  · rw [if_pos h1]; omega
  · rw [if_neg h1]
    by_cases h2 : k = 2
    · rw [if_pos h2]; omega
    · rw [if_neg h2]
      by_cases h4 : k = 4
      · rw [if_pos h4]; omega
      · rw [if_neg h4]; omega
/-- what is written is read as it was -/
theorem pay_mk {r : Rec} (h : chk r = 0) : mkR r.kind (payL r) = r := by
  obtain ⟨hk, hok, hb, -, hd⟩ := chk_zero h
  have : r.kind = 1 ∨ r.kind = 2 ∨ r.kind = 3 ∨ r.kind = 4 ∨ r.kind = 5 ∨ r.kind = 6 := by omega
  conv => rhs; rw [hb]
  rcases this with k | k | k | k | k | k
  · rw [k] at hok ⊢
    obtain ⟨a1, b1, c1⟩ := fld_ok hok (q := ⟨2, 1, 999, 1⟩) (by decide)
    obtain ⟨a2, b2, c2⟩ := fld_ok hok (q := ⟨4, 1, 2147483648, 2⟩) (by decide)
    obtain ⟨a3, b3, c3⟩ := fld_ok hok (q := pNext) (by decide)
    obtain ⟨a4, b4, c4⟩ := fld_ok hok (q := ⟨4, 0, 2147483648, 4⟩) (by decide)
    have hp : payL r = be 2 r.user.toNat ++ (be 4 r.seq.toNat ++ (be 4 r.next.toNat ++ be 4 r.base.toNat)) := by
      unfold payL numsL; rw [k, hd (by omega)]; simp [partsL, fld, pNext]
    have e1 : gI (payL r) 0 2 = r.user := gI_mid (a := []) (b := be 2 r.user.toNat) (c := be 4 r.seq.toNat ++ (be 4 r.next.toNat ++ be 4 r.base.toNat)) (n := 0) (k := 2) (by rw [hp]; rfl) rfl rfl (by decide) (by decide) a1 b1 c1 rfl rfl
    have e2 : gI (payL r) 2 4 = r.seq := gI_mid (a := be 2 r.user.toNat) (b := be 4 r.seq.toNat) (c := be 4 r.next.toNat ++ be 4 r.base.toNat) (n := 2) (k := 4) hp (by rw [be_length]) rfl (by decide) (by decide) a2 b2 c2 rfl rfl
    have e3 : gI (payL r) 6 4 = r.next := gI_mid (a := be 2 r.user.toNat ++ be 4 r.seq.toNat) (b := be 4 r.next.toNat) (c := be 4 r.base.toNat) (n := 6) (k := 4) (by rw [hp]; simp) (by simp [be_length]) rfl (by decide) (by decide) a3 b3 c3 rfl rfl
    have e4 : gI (payL r) 10 4 = r.base := gI_mid (a := be 2 r.user.toNat ++ (be 4 r.seq.toNat ++ be 4 r.next.toNat)) (b := be 4 r.base.toNat) (c := []) (n := 10) (k := 4) (by rw [hp]; simp) (by simp [be_length]) rfl (by decide) (by decide) a4 b4 c4 rfl rfl
    unfold mkR bare
    rw [if_pos rfl, if_pos k, e1, e2, e3, e4]
  · rw [k] at hok ⊢
    obtain ⟨a1, b1, c1⟩ := fld_ok hok (q := pUid) (by decide)
    obtain ⟨a2, b2, c2⟩ := fld_ok hok (q := ⟨8, 0, 4503599627370496, 6⟩) (by decide)
    obtain ⟨a3, b3, c3⟩ := fld_ok hok (q := pFlags) (by decide)
    obtain ⟨a4, b4, c4⟩ := fld_ok hok (q := pBody) (by decide)
    obtain ⟨a5, b5, c5⟩ := fld_ok hok (q := ⟨4, 0, 32768, 9⟩) (by decide)
    obtain ⟨a6, b6, c6⟩ := fld_ok hok (q := ⟨8, 0, 9007199254740992, 10⟩) (by decide)
    have hp : payL r = be 4 r.uid.toNat ++ (be 8 r.time.toNat ++ (be 1 r.flags.toNat ++ (be 4 r.body.toNat ++ (be 4 r.size.toNat ++ be 8 r.origin.toNat)))) := by
      unfold payL numsL; rw [k, hd (by omega)]; simp [partsL, fld, pUid, pFlags, pBody]
    have e1 : gI (payL r) 0 4 = r.uid := gI_mid (a := []) (b := be 4 r.uid.toNat) (c := be 8 r.time.toNat ++ (be 1 r.flags.toNat ++ (be 4 r.body.toNat ++ (be 4 r.size.toNat ++ be 8 r.origin.toNat)))) (n := 0) (k := 4) (by rw [hp]; rfl) rfl rfl (by decide) (by decide) a1 b1 c1 rfl rfl
    have e2 : gI (payL r) 4 8 = r.time := gI_mid (a := be 4 r.uid.toNat) (b := be 8 r.time.toNat) (c := be 1 r.flags.toNat ++ (be 4 r.body.toNat ++ (be 4 r.size.toNat ++ be 8 r.origin.toNat))) (n := 4) (k := 8) hp (by rw [be_length]) rfl (by decide) (by decide) a2 b2 c2 rfl rfl
    have e3 : gI (payL r) 12 1 = r.flags := gI_mid (a := be 4 r.uid.toNat ++ be 8 r.time.toNat) (b := be 1 r.flags.toNat) (c := be 4 r.body.toNat ++ (be 4 r.size.toNat ++ be 8 r.origin.toNat)) (n := 12) (k := 1) (by rw [hp]; simp) (by simp [be_length]) rfl (by decide) (by decide) a3 b3 c3 rfl rfl
    have e4 : gI (payL r) 13 4 = r.body := gI_mid (a := be 4 r.uid.toNat ++ (be 8 r.time.toNat ++ be 1 r.flags.toNat)) (b := be 4 r.body.toNat) (c := be 4 r.size.toNat ++ be 8 r.origin.toNat) (n := 13) (k := 4) (by rw [hp]; simp) (by simp [be_length]) rfl (by decide) (by decide) a4 b4 c4 rfl rfl
    have e5 : gI (payL r) 17 4 = r.size := gI_mid (a := be 4 r.uid.toNat ++ (be 8 r.time.toNat ++ (be 1 r.flags.toNat ++ be 4 r.body.toNat))) (b := be 4 r.size.toNat) (c := be 8 r.origin.toNat) (n := 17) (k := 4) (by rw [hp]; simp) (by simp [be_length]) rfl (by decide) (by decide) a5 b5 c5 rfl rfl
    have e6 : gI (payL r) 21 8 = r.origin := gI_mid (a := be 4 r.uid.toNat ++ (be 8 r.time.toNat ++ (be 1 r.flags.toNat ++ (be 4 r.body.toNat ++ be 4 r.size.toNat)))) (b := be 8 r.origin.toNat) (c := []) (n := 21) (k := 8) (by rw [hp]; simp) (by simp [be_length]) rfl (by decide) (by decide) a6 b6 c6 rfl rfl
    unfold mkR bare
    rw [if_neg (by decide), if_pos rfl, if_neg (by omega), if_pos k, e1, e2, e3, e4, e5, e6]
  · rw [k] at hok ⊢
    obtain ⟨a1, b1, c1⟩ := fld_ok hok (q := pUid) (by decide)
    have hp : payL r = be 4 r.uid.toNat := by unfold payL numsL; rw [k, hd (by omega)]; simp [partsL, fld, pUid]
    have e1 : gI (payL r) 0 4 = r.uid := gI_mid (a := []) (b := be 4 r.uid.toNat) (c := []) (n := 0) (k := 4) (by rw [hp]; simp) rfl rfl (by decide) (by decide) a1 b1 c1 rfl rfl
    unfold mkR bare
    rw [if_neg (by decide), if_neg (by decide), if_pos rfl, if_neg (by omega), if_neg (by omega), if_pos k, e1]
  · rw [k] at hok ⊢
    obtain ⟨a1, b1, c1⟩ := fld_ok hok (q := pUid) (by decide)
    obtain ⟨a2, b2, c2⟩ := fld_ok hok (q := pFlags) (by decide)
    have hp : payL r = be 4 r.uid.toNat ++ be 1 r.flags.toNat := by unfold payL numsL; rw [k, hd (by omega)]; simp [partsL, fld, pUid, pFlags]
    have e1 : gI (payL r) 0 4 = r.uid := gI_mid (a := []) (b := be 4 r.uid.toNat) (c := be 1 r.flags.toNat) (n := 0) (k := 4) (by rw [hp]; simp) rfl rfl (by decide) (by decide) a1 b1 c1 rfl rfl
    have e2 : gI (payL r) 4 1 = r.flags := gI_mid (a := be 4 r.uid.toNat) (b := be 1 r.flags.toNat) (c := []) (n := 4) (k := 1) (by rw [hp]; simp) (by simp [be_length]) rfl (by decide) (by decide) a2 b2 c2 rfl rfl
    unfold mkR bare
    rw [if_neg (by decide), if_neg (by decide), if_neg (by decide), if_pos rfl, if_neg (by omega), if_neg (by omega), if_neg (by omega), if_pos k, e1, e2]
  · rw [k] at hok ⊢
    obtain ⟨a1, b1, c1⟩ := fld_ok hok (q := pNext) (by decide)
    have hp : payL r = be 4 r.next.toNat := by unfold payL numsL; rw [k, hd (by omega)]; simp [partsL, fld, pNext]
    have e1 : gI (payL r) 0 4 = r.next := gI_mid (a := []) (b := be 4 r.next.toNat) (c := []) (n := 0) (k := 4) (by rw [hp]; simp) rfl rfl (by decide) (by decide) a1 b1 c1 rfl rfl
    unfold mkR bare
    rw [if_neg (by decide), if_neg (by decide), if_neg (by decide), if_neg (by decide), if_pos rfl, if_neg (by omega), if_neg (by omega), if_neg (by omega), if_neg (by omega), if_pos k, e1]
  · rw [k] at hok ⊢
    obtain ⟨a1, b1, c1⟩ := fld_ok hok (q := pBody) (by decide)
    have hp : payL r = be 4 r.body.toNat ++ r.data := by unfold payL numsL; rw [k]; simp [partsL, fld, pBody]
    have e1 : gI (payL r) 0 4 = r.body := gI_mid (a := []) (b := be 4 r.body.toNat) (c := r.data) (n := 0) (k := 4) (by rw [hp]; simp) rfl rfl (by decide) (by decide) a1 b1 c1 rfl rfl
    have e2 : (payL r).drop 4 = r.data := by rw [hp, List.drop_left' (by rw [be_length])]
    unfold mkR bare
    rw [if_neg (by decide), if_neg (by decide), if_neg (by decide), if_neg (by decide), if_neg (by decide), if_neg (by omega), if_neg (by omega), if_neg (by omega), if_neg (by omega), if_neg (by omega), e1, e2]
theorem pay_read {r : Rec} (h : chk r = 0) : readE r.kind (payL r) = 0 ∧ readR r.kind (payL r) = r := by
  obtain ⟨hk, -, -, hdl, hd⟩ := chk_zero h
  have hs := payL_size h
  have hm := pay_mk h
  have hw : within r = true := by
    have := h
    unfold chk at this
    rw [if_neg (by omega)] at this
    by_cases hw : within r = false
    · rw [if_pos hw] at this; omega
    · simpa using hw
  have hE : readE r.kind (payL r) = 0 := by
    unfold readE
    rw [if_neg (by omega), if_neg (by omega), hm, hw, if_neg, if_neg (by omega), if_neg (by decide)]
    rintro ⟨h1, h2⟩
    rw [hs, hd h2] at h1
    simp at h1
  exact ⟨hE, by unfold readR; rw [if_pos hE, hm]⟩

/-- records one behind the other: the bytes, and where each is -/
def catX (xs : List (Rec × Value)) : List UInt8 := xs.flatMap fun x => frmL x.1
def inX : List (Rec × Value) → Nat → List (Fnd × Value)
  | [], _ => []
  | x :: xs, u => if chk x.1 = 0 then (⟨u, (frmL x.1).length, x.1⟩, x.2) :: inX xs (u + (frmL x.1).length) else inX xs u
theorem frmL_bad {r : Rec} (h : chk r ≠ 0) : frmL r = [] := by unfold frmL; rw [if_neg h]
theorem inX_snoc (x : Rec × Value) : ∀ (xs : List (Rec × Value)) (u : Nat), inX (xs ++ [x]) u = inX xs u ++ (if chk x.1 = 0 then [(⟨(u + (catX xs).length : Nat), (frmL x.1).length, x.1⟩, x.2)] else [])
  | [], u => by simp [inX, catX]
  | y :: xs, u => by
    rw [List.cons_append]
    by_cases hy : chk y.1 = 0
    · rw [inX, if_pos hy, inX_snoc x xs, inX, if_pos hy]
      simp [catX, Nat.add_assoc]
    · rw [inX, if_neg hy, inX_snoc x xs, inX, if_neg hy]
      simp [catX, frmL_bad hy]
theorem catX_snoc (x : Rec × Value) (xs : List (Rec × Value)) : catX (xs ++ [x]) = catX xs ++ frmL x.1 := by simp [catX]
theorem frm_len {r : Rec} (h : r.data.length ≤ 1000) : (frmL r).length ≤ 2300 := by
  unfold frmL
  split
  · rename_i hc
    unfold wrapL
    split
    · have h1 := (veil_len (body r.kind.toNat (payL r))).2
      rw [body_len, payL_size hc] at h1
      have := sizeK_le r.kind
      simp only [List.length_cons]
      omega
    · simp
  · simp
theorem catX_len : ∀ (xs : List (Rec × Value)) (n : Nat), (∀ y ∈ xs, y.1.data.length ≤ 1000) → xs.length ≤ n → (catX xs).length ≤ 2300 * n
  | [], n, _, _ => by simp [catX]
  | x :: xs, n, h, hn => by
    simp only [List.length_cons] at hn
    have h1 := frm_len (h x (by simp))
    have h2 := catX_len xs (n - 1) (fun y hy => h y (by simp [hy])) (by omega)
    have : (catX (x :: xs)).length = (frmL x.1).length + (catX xs).length := by simp [catX]
    omega
theorem inX_len : ∀ (xs : List (Rec × Value)) (u : Nat), (inX xs u).length ≤ xs.length
  | [], _ => Nat.le_refl _
  | x :: xs, u => by
    rw [inX]
    split
    · have := inX_len xs (u + (frmL x.1).length)
      simp only [List.length_cons]
      omega
    · have := inX_len xs u
      simp only [List.length_cons]
      omega
theorem inX_mem : ∀ (xs : List (Rec × Value)) (u : Nat), ∀ z ∈ inX xs u, ∃ y ∈ xs, z.1.rc = y.1 ∧ z.2 = y.2
  | [], _, z, hz => by simp [inX] at hz
  | x :: xs, u, z, hz => by
    rw [inX] at hz
    split at hz
    · rcases List.mem_cons.1 hz with rfl | hz
      · exact ⟨x, by simp, rfl, rfl⟩
      · obtain ⟨y, hy, h⟩ := inX_mem xs _ z hz
        exact ⟨y, by simp [hy], h⟩
    · obtain ⟨y, hy, h⟩ := inX_mem xs _ z hz
      exact ⟨y, by simp [hy], h⟩
theorem scan_recs (l : List UInt8) : ∀ (xs : List (Rec × Value)) (k g u : Nat), u ≤ l.length → l.length ≤ u + k → l.drop u = catX xs → fndL (scanN l k g u).1 = (inX xs u).map (·.1) ∧ lenL (scanN l k g u).1 = (l.length : Int) - u := by
  intro xs
  induction xs with
  | nil =>
    intro k g u hu hk hd
    have hlen := congrArg List.length hd
    rw [List.length_drop] at hlen
    simp [catX] at hlen
    rw [scanN_end (by omega)]
    simp [fndL, lenL, inX]
    omega
  | cons x xs ih =>
    intro k g u hu hk hd
    by_cases hx : chk x.1 = 0
    · obtain ⟨hk1, -, -, hdl, -⟩ := chk_zero hx
      obtain ⟨kn, hkn⟩ : ∃ kn : Nat, x.1.kind = (kn : Int) := ⟨x.1.kind.toNat, by omega⟩
      have hf : frmL x.1 = wrapL kn (payL x.1) := by unfold frmL; rw [if_pos hx, hkn]
      have hps : (payL x.1).length ≤ 65536 := by rw [payL_size hx]; have := sizeK_le x.1.kind; omega
      rw [show catX (x :: xs) = wrapL kn (payL x.1) ++ catX xs from by rw [← hf]; simp [catX]] at hd
      have hlen := congrArg List.length hd
      rw [List.length_drop, List.length_append] at hlen
      have hpos : 1 ≤ (wrapL (kn : Int) (payL x.1)).length := by rw [(wrapL_ok (k := kn) (by omega) hps).2]; simp
      obtain ⟨he, hfr⟩ := at_put (k := kn) (by omega) hps hd
      obtain ⟨k', rfl⟩ : ∃ k', k = k' + 1 := ⟨k - 1, by omega⟩
      rw [scanN_ok (by omega) he, hfr]
      simp only [Int.toNat_natCast]
      have hd2 : l.drop (u + (wrapL (kn : Int) (payL x.1)).length) = catX xs := by rw [← List.drop_drop, hd, List.drop_left]
      obtain ⟨ih1, ih2⟩ := ih k' (u + (wrapL (kn : Int) (payL x.1)).length) (u + (wrapL (kn : Int) (payL x.1)).length) (by omega) (by omega) hd2
      obtain ⟨hr1, hr2⟩ := pay_read hx
      rw [hkn] at hr1 hr2
      constructor
      · rw [inX, if_pos hx, hf]
        simp only [fndL, List.flatMap_cons, List.map_cons] at ih1 ⊢
        rw [ih1]
        unfold fndOf
        simp only [hr1, if_pos, hr2]
        rfl
      · simp only [lenL, List.map_cons, List.sum_cons] at ih2 ⊢
        rw [ih2]
        simp only [hr1, if_pos]
        omega
    · rw [show catX (x :: xs) = catX xs from by simp [catX, frmL_bad hx]] at hd
      rw [inX, if_neg hx]
      exact ih k g u hu hk hd
theorem scan_all (xs : List (Rec × Value)) : fndL (scanR (catX xs)).1 = (inX xs 0).map (·.1) ∧ lenL (scanR (catX xs)).1 = ((catX xs).length : Int) := by
  have := scan_recs (catX xs) xs (catX xs).length 0 0 (Nat.zero_le _) (by omega) rfl
  obtain ⟨h1, h2⟩ := this
  exact ⟨h1, h2.trans (by simp)⟩
end Go.Proofs.Ytekkjhjaacjhnaa.Rcd

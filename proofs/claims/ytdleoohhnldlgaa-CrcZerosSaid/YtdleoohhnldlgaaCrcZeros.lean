/- crc.step, apply, twice, Zeros. UNDER WAY. -/
import Derived.Test.YtdleoohhnldlgaaCrcMore
import Derived.Test.YtdleoohhnldlgaaCrcZerosPlain
import Derived.Deep.MidRow
import Derived.Deep.DeepCutAuto
import Derived.Test.YtdleoohhnldlgaaDrawn
import Derived.Test.YtdleoohhnldlgaaHeap
namespace Go.Proofs.Ytdleoohhnldlgaa
open Go.RowKit
namespace Crc

def matA (M : Nat → Nat) : Array Value := ((List.range 32).map fun i => .int .u32 ((M i : Nat) : Int)).toArray
theorem matA_at (M : Nat → Nat) {i : Nat} (h : i < 32) : (matA M)[i]? = some (.int .u32 ((M i : Nat) : Int)) := by simp [matA, h]
theorem matA_size (M : Nat → Nat) : (matA M).size = 32 := by simp [matA]

theorem appN_lt {M : Nat → Nat} (hM : ∀ i, i < 32 → M i < 4294967296) (c : Nat) : ∀ k, k ≤ 32 → appN M c k < 4294967296 := by
  intro k
  induction k with
  | zero => intro _; unfold appN; omega
  | succ k ih =>
    intro h
    unfold appN
    split
    · exact xor_lt (ih (by omega)) (hM k (by omega))
    · exact ih (by omega)

set_option maxHeartbeats 1000000 in
theorem apply_any (M : Nat → Nat) (hM : ∀ i, i < 32 → M i < 4294967296) (c : Nat) (hc : c < 4294967296) (w : World) :
    Calls Try.prog 41 #[.agg (matA M), .int .u32 (c : Int)] w fun e w' => e = .returned (.int .u32 ((appN M c 32 : Nat) : Int)) ∧ Keeps w w' := by
  have hsz := matA_size M
  have HA := Lib.hid (fun i h => matA_at M (i := i) h)
  have HM := Lib.hid hM
  clear hM
  generalize matA M = cs at *
  go_enter Try.func41, Try.ntmps41
  go_wp2_with fail
  generalize hW : World.alloc w _ = w1
  have HC : Hid (∀ i, i < 32 → w1.cell? ⟨w.heap.size, i, none⟩ = some (.int .u32 ((M i : Nat) : Int))) := Lib.hid (fun i hi => by
    rw [← hW, cell_alloc_new]
    exact HA.out i hi)
  have hK : Keeps w w1 := by rw [← hW]; exact (Keeps.refl _).alloc _
  clear hW
  go_loopw [5, 7] (fun o i wr => ∃ k : Nat, k ≤ 32 ∧ i = .int .i64 (k : Int) ∧ o = .int .u32 ((appN M c k : Nat) : Int) ∧ wr = w1) (fun _ i _ => 32 - (intOf i).toNat)
  case atStart => exact ⟨0, by omega, rfl, rfl, rfl⟩
  case round =>
    obtain ⟨k, hk, rfl, rfl, rfl⟩ := hrel
    by_cases hlt : k < 32
    · have hcell := HC.out k hlt
      have hMk := HM.out k hlt
      have hwk : IntKind.u64.wrap (k : Int) = (k : Int) := IntWalk.u64_in _ (by omega)
      have hd : ((c : Int) / 2 ^ k) = ((c / 2 ^ k : Nat) : Int) := by rw [Int.natCast_ediv]; simp
      have hdl : c / 2 ^ k < 4294967296 := Nat.lt_of_le_of_lt (Nat.div_le_self _ _) hc
      have hb : bits BinOp.and IntKind.u32 ((c : Int) / 2 ^ k) 1 = (((c / 2 ^ k) % 2 : Nat) : Int) := by
        have := u32_and_nat (c / 2 ^ k) 1 hdl (by omega)
        rw [show ((1 : Nat) : Int) = 1 from rfl] at this
        rw [hd, this, nat_mask1]
      have hal := appN_lt HM.out c k (by omega)
      have hs : Hid (appN M c (k + 1) = if (c / 2 ^ k) % 2 = 1 then appN M c k ^^^ M k else appN M c k) := Lib.hid rfl
      by_cases ho : (c / 2 ^ k) % 2 = 1
      · have ht : (bits BinOp.and IntKind.u32 ((c : Int) / 2 ^ k) 1 == 1) = true := by rw [hb, ho]; rfl
        have hx : bits BinOp.xor IntKind.u32 ((appN M c k : Nat) : Int) ((M k : Nat) : Int) = ((appN M c k ^^^ M k : Nat) : Int) := u32_xor_nat _ _ hal hMk
        have HS : Hid (appN M c (k + 1) = appN M c k ^^^ M k) := Lib.hid (by rw [hs.out, if_pos ho])
        clear hb hd hs ho
        generalize appN M c k ^^^ M k = n1 at *
        go_wp2_with fail
        go_roundw
        case rel => exact ⟨k + 1, by omega, by simp, by rw [HS.out], trivial⟩
        case measure =>
          simp only [intOf]
          omega
      · have ht : (bits BinOp.and IntKind.u32 ((c : Int) / 2 ^ k) 1 == 1) = false := by
          rw [hb, show (c / 2 ^ k) % 2 = 0 from by omega]; rfl
        have HS : Hid (appN M c (k + 1) = appN M c k) := Lib.hid (by rw [hs.out, if_neg ho])
        clear hb hd hs ho
        go_wp2_with fail
        go_roundw
        case rel => exact ⟨k + 1, by omega, by simp, by rw [HS.out], trivial⟩
        case measure =>
          simp only [intOf]
          omega
    · obtain rfl : k = 32 := by omega
      go_wp2_with fail
      go_ret
      exact ⟨rfl, hK⟩

theorem m59 : Try.prog.underlying 59 = some (.array 32 23) := Try.underlying59
theorem i59 : (Try.prog.info? 59).map (·.size) = some 32 := by kernel_rfl

theorem yieldsIf_arr {ops : Array Oper} {S : World → Prop} {op : Oper} {a : Act} (hw : Region.wanted op (yielded ops a.tmps) = true) (x : Operand) (ho : op.op = .load 59 x) (Q : Nat) (hx : a.eval x = .pointer (some ⟨Q, 0, none⟩)) (cs : Array Value) (hsz : cs.size = 32) (hS : ∀ w, S w → w.rangeAt Q 0 cs.toList) : YieldsIf Try.prog ops S op (.agg cs) a := by
  have := yieldsIf_load_mid (P := Try.prog) hw 59 x ho Q 0 hx cs.toList _ hS m59 rfl (by rw [i59, Array.length_toList, hsz])
  rwa [Array.toArray_toList] at this

theorem setCells_keeps {W : World} {b : Nat} (hb : W.heap.size ≤ b) : ∀ (vs : List Value) (o : Nat) (w : World), Keeps W w → Keeps W (w.setCells b o vs)
  | [], _, _, h => h
  | v :: vs, o, w, h => setCells_keeps hb vs (o + 1) _ (h.setCell (p := ⟨b, o, none⟩) hb v)
theorem setCells_self {b : Nat} {t : TypeId} {cs : Array Value} : ∀ (vs : List Value) (o : Nat) (w : World), Blk w b t cs → (∀ i v, vs[i]? = some v → cs[o + i]? = some v) → Blk (w.setCells b o vs) b t cs
  | [], _, _, h, _ => h
  | v :: vs, o, w, h, hv => by
    refine setCells_self vs (o + 1) _ ?_ (fun i u hu => by
      have := hv (i + 1) u (by simpa using hu)
      rwa [show o + (i + 1) = o + 1 + i from by omega] at this)
    have h1 := h.set_ o v
    have h2 := hv 0 v rfl
    rw [Nat.add_zero] at h2
    obtain ⟨ho, he⟩ := Array.getElem?_eq_some_iff.1 h2
    have : cs.setIfInBounds o v = cs := by
      apply Array.ext_getElem?
      intro j
      rw [Array.getElem?_setIfInBounds]
      by_cases e : o = j
      · subst e; rw [if_pos rfl, if_pos ho, h2]
      · rw [if_neg e]
    rwa [this] at h1
theorem matA_of {ds : Array Value} {M : Nat → Nat} (hs : ds.size = 32) (h : ∀ j, j < 32 → ds[j]? = some (.int .u32 ((M j : Nat) : Int))) : ds = matA M := by
  apply Array.ext_getElem?
  intro j
  by_cases hj : j < 32
  · rw [h j hj, matA_at M hj]
  · rw [Array.getElem?_eq_none (by omega), Array.getElem?_eq_none (by rw [matA_size]; omega)]
theorem matA_one (M : Nat → Nat) : (matA M).all (·.oneCell') = true := by
  rw [Array.all_eq_true_iff_forall_mem]
  intro x hx
  simp only [matA, List.mem_toArray, List.mem_map] at hx
  obtain ⟨i, -, rfl⟩ := hx
  rfl

set_option maxRecDepth 100000 in
set_option maxHeartbeats 2000000 in
theorem twice_any (M : Nat → Nat) (hM : ∀ i, i < 32 → M i < 4294967296) (w : World) :
    Calls Try.prog 42 #[.agg (matA M)] w fun e w' => e = .returned (.agg (matA fun i => appN M (M i) 32)) ∧ Keeps w w' := by
  have HA := Lib.hid (fun i h => matA_at M (i := i) h)
  have HM := Lib.hid hM
  have hsz := matA_size M
  have CA := Lib.hid (fun c hc w => apply_any M hM c hc w)
  have hone : (matA M).all (·.oneCell') = true := by
    rw [Array.all_eq_true_iff_forall_mem]
    intro x hx
    simp only [matA, List.mem_toArray, List.mem_map] at hx
    obtain ⟨i, -, rfl⟩ := hx
    rfl
  clear hM
  generalize matA M = cs at *
  go_enter Try.func42, Try.ntmps42
  have HN := Lib.hid (fun k (h : k < 32) => appN_lt (M := M) HM.out (M k) 32 (Nat.le_refl _))
  go_wp2_with fail
  generalize hWe : World.alloc (World.alloc w _) _ = we
  have hQe : Blk we w.heap.size 59 cs := by rw [← hWe]; exact (Blk.new w _ _ rfl).alloc _
  obtain ⟨d0, hd0, hR0⟩ : ∃ d0 : Array Value, d0.size = 32 ∧ Blk we (w.heap.size + 1) 59 d0 := ⟨_, rfl, by rw [← hWe]; exact Blk.new _ _ _ (by show _ = (w.heap.push _).size; simp)⟩
  have hKe : Keeps w we := by rw [← hWe]; exact ((Keeps.refl _).alloc _).alloc _
  clear hWe
  generalize hq : w.heap.size = Q at *
  have hQw : w.heap.size ≤ Q := by omega
  clear hq
  go_loopw [4] (fun i wr => ∃ (k : Nat) (ds : Array Value), k ≤ 32 ∧ i = .int .i64 (k : Int) ∧ Blk wr Q 59 cs ∧ Blk wr (Q + 1) 59 ds ∧ Hid (ds.size = 32 ∧ ∀ j, j < k → ds[j]? = some (.int .u32 ((appN M (M j) 32 : Nat) : Int))) ∧ Keeps w wr) (fun i _ => 32 - (intOf i).toNat)
  case atStart => exact ⟨0, d0, by omega, rfl, hQe, hR0, Lib.hid ⟨hd0, fun j h => by omega⟩, hKe⟩
  case round =>
    obtain ⟨k, ds, hk, rfl, hQ, hR, HD, hK⟩ := hrel
    have HK := Lib.hid hK
    have HR := Lib.hid hR
    have HQ := Lib.hid hQ
    clear hQe hR0 hKe hK
    by_cases hlt : k < 32
    · have hMk := HM.out k hlt
      have hNk := HN.out k hlt
      have hck : wr.cell? ⟨Q, k, none⟩ = some (.int .u32 ((M k : Nat) : Int)) := by rw [hQ.cell]; exact HA.out k hlt
      have hne : ¬ Q = Q + 1 := by omega
      have HRg : Hid (∀ w', Mods (· = Q + 1) wr w' → w'.rangeAt Q 0 cs.toList) := Lib.hid (fun w' hM j v hv => by
        refine hM.cell ?_ hne
        rw [HQ.out.cell, Nat.zero_add]
        simpa using hv)
      obtain ⟨dv, hdv⟩ : ∃ dv, ds[k]? = some dv := ⟨ds[k]'(by have := HD.out.1; omega), Array.getElem?_eq_getElem _⟩
      have HDv := Lib.hid hdv
      have HQ2 : Hid (∀ w', Mods (· = Q + 1) wr w' → Blk w' Q 59 cs) := Lib.hid (fun w' hM => HQ.out.mods hM hne)
      clear hQ hR hdv
      go_upto_region 4 with fail
      have HR := Lib.hid HR.out.drew
      refine wp_region_noPanic ?_
      refine wp_region_held_drew (S := fun w' => Mods (· = Q + 1) wr w') (by kernel_rfl) ((Mods.refl (· = Q + 1) wr).drew) (fun _ => ?_)
      have hHeld : Mods (· = Q + 1) wr (wr).drew := (Mods.refl (· = Q + 1) wr).drew
      generalize World.drew wr = xs at *
      refine wpAnyH_take (i := 0) (v := ?vv1) (by rfl) (by kernel_rfl) (by kernel_rfl) (by kernel_rfl) (by intro _ _ _ h; exact h) (Or.inl ⟨by kernel_rfl, ?hy1⟩) (by assumption) ?rest1
      case hy1 =>
        intro w' hSw
        have hSw : Mods (· = Q + 1) wr w' := hSw
        clear hSw
        go_simp
        try with_reducible rfl
      change wpAnyH _ _ _ _ _ _ _ (Act.put _ (some 7) _) _
      try simp only [Act.put, List.setIfInBounds_toArray, List.set_cons_zero, List.set_cons_succ]
      refine wpAnyH_take (i := 1) (by rfl) (by kernel_rfl) (by kernel_rfl) (by kernel_rfl) (by intro _ _ _ h; exact h) (yieldsIf_arr (by kernel_rfl) _ rfl Q rfl cs hsz (fun w' hS => HRg.out w' hS)) (by assumption) ?rest2
      change wpAnyH _ _ _ _ _ _ _ (Act.put _ (some 8) _) _
      try simp only [Act.put, List.setIfInBounds_toArray, List.set_cons_zero, List.set_cons_succ]
      refine wpAnyH_take (i := 2) (v := ?vv3) (by rfl) (by kernel_rfl) (by kernel_rfl) (by kernel_rfl) (by intro _ _ _ h; exact h) (Or.inl ⟨by kernel_rfl, ?hy3⟩) (by assumption) ?rest3
      case hy3 =>
        intro w' hSw
        have hSw : Mods (· = Q + 1) wr w' := hSw
        clear hSw
        go_simp
        try with_reducible rfl
      change wpAnyH _ _ _ _ _ _ _ (Act.put _ (some 9) _) _
      try simp only [Act.put, List.setIfInBounds_toArray, List.set_cons_zero, List.set_cons_succ]
      refine wpAnyH_take (i := 3) (v := ?vv4) (by rfl) (by kernel_rfl) (by kernel_rfl) (by kernel_rfl) (by intro _ _ _ h; exact h) (Or.inl ⟨by kernel_rfl, ?hy4⟩) (by assumption) ?rest4
      case hy4 =>
        intro w' hSw
        have hSw : Mods (· = Q + 1) wr w' := hSw
        clear hSw
        go_simp
        try with_reducible rfl
      change wpAnyH _ _ _ _ _ _ _ (Act.put _ (some 10) _) _
      try simp only [Act.put, List.setIfInBounds_toArray, List.set_cons_zero, List.set_cons_succ]
      refine wpAnyH_take (i := 4) (v := ?vv5) (by rfl) (by kernel_rfl) (by kernel_rfl) (by kernel_rfl) (by intro _ _ _ h; exact h) (Or.inl ⟨by kernel_rfl, ?hy5⟩) (by assumption) ?rest5
      case hy5 =>
        intro w' hSw
        have hSw : Mods (· = Q + 1) wr w' := hSw
        have hx := hSw.cell hck hne
        clear hSw
        go_simp
        try with_reducible rfl
      change wpAnyH _ _ _ _ _ _ _ (Act.put _ (some 11) _) _
      try simp only [Act.put, List.setIfInBounds_toArray, List.set_cons_zero, List.set_cons_succ]
      refine wpAnyH_ready (rs := [5]) (by kernel_rfl) (by simp) ?_
      refine AllReadyH.cons (o := _) rfl (fun K hK => ?_) ?_
      · go_simp
        refine (CA.out (M k) hMk _).mono ?_
        rintro e w5 ⟨rfl, hk5⟩
        have hb := hHeld.then hk5
        have HR := Lib.hid (HR.out.keeps hk5)
        clear hk5
        go_wp2_with fail
        refine hK.out _ _ hb (fun _ => ?_)
        clear hK K hHeld
        have hHeld : Mods (· = Q + 1) wr w5 := hb
        clear hb
        try simp only [Act.put, List.setIfInBounds_toArray, List.set_cons_zero, List.set_cons_succ]
        refine wpAnyH_take (i := 6) (v := ?vv6) (by rfl) (by kernel_rfl) (by kernel_rfl) (by kernel_rfl) (by intro _ _ _ h; exact h) (Or.inl ⟨by kernel_rfl, ?hy6⟩) (by assumption) ?rest6
        case hy6 =>
          intro w' hSw
          have hSw : Mods (· = Q + 1) wr w' := hSw
          clear hSw
          go_simp
          try with_reducible rfl
        change wpAnyH _ _ _ _ _ _ _ (Act.put _ (some 13) _) _
        try simp only [Act.put, List.setIfInBounds_toArray, List.set_cons_zero, List.set_cons_succ]
        refine wpAnyH_ready (rs := [7]) (by kernel_rfl) (by simp) ?_
        refine AllReadyH.cons (o := _) rfl (fun K hK => ?_) ?_
        · have hx : World.cell? w5 ⟨Q + 1, k, none⟩ = some dv := by rw [HR.out.cell]; exact HDv.out
          have hz : World.frozen? w5 ⟨Q + 1, k, none⟩ = false := HR.out.frozen k
          go_simp
          have hb := hHeld.setCell (p := ⟨Q + 1, k, none⟩) (fun _ => rfl) (.int .u32 ((appN M (M k) 32 : Nat) : Int))
          have HR := Lib.hid (HR.out.set_ k (.int .u32 ((appN M (M k) 32 : Nat) : Int)))
          clear hx hz
          generalize World.setCell w5 ⟨Q + 1, k, none⟩ (.int .u32 ((appN M (M k) 32 : Nat) : Int)) = w6 at *
          refine hK.out _ _ hb (fun _ => ?_)
          clear hK K hHeld
          have hHeld : Mods (· = Q + 1) wr w6 := hb
          clear hb
          try simp only [Act.put, List.setIfInBounds_toArray, List.set_cons_zero, List.set_cons_succ]
          refine wpAnyH_done (by kernel_rfl) ?_ _
          refine NoPanic.normal ?_
          go_wp2_with fail
          go_roundw
          case rel =>
            refine ⟨k + 1, _, by omega, by simp, HQ2.out _ hHeld, HR.out, Lib.hid ⟨by rw [Array.size_setIfInBounds]; exact HD.out.1, fun j hj => ?_⟩, hHeld.keeps HK.out (fun x hx => by omega)⟩
            rw [Array.getElem?_setIfInBounds]
            by_cases e : k = j
            · subst e; rw [if_pos rfl, if_pos (by have := HD.out.1; omega)]
            · rw [if_neg e]; exact HD.out.2 j (by omega)
          case measure =>
            simp only [intOf]
            omega
        exact AllReadyH.nil
      exact AllReadyH.nil
    · obtain rfl : k = 32 := by omega
      have hds := matA_of HD.out.1 HD.out.2
      have hd1 : ds.all (·.oneCell') = true := by rw [hds]; exact matA_one _
      have hd2 : ds.size = 32 := HD.out.1
      have hr1 : wr.rangeAt (Q + 1) 0 ds.toList := fun j v hv => by
        rw [hR.cell, Nat.zero_add]
        simpa using hv
      have hth : wr.there (Q + 1) 0 ds.size := fun j hj => ⟨by rw [hR.cell, Nat.zero_add, Array.getElem?_eq_getElem hj]; rfl, hR.frozen _⟩
      have HBs : Blk (wr.setCells (Q + 1) 0 ds.toList) (Q + 1) 59 ds := setCells_self _ _ _ hR (fun i v hv => by rw [Nat.zero_add]; simpa using hv)
      have hld : (loadVar 59 ⟨Q + 1, 0, none⟩).run Try.prog (wr.setCells (Q + 1) 0 ds.toList) = .ok (.agg ds) (wr.setCells (Q + 1) 0 ds.toList) := by
        have := run_loadVar_mid (P := Try.prog) (wr.setCells (Q + 1) 0 ds.toList) (Q + 1) 0 59 ds.toList _ (fun j v hv => by
          rw [HBs.cell, Nat.zero_add]
          simpa using hv) m59 rfl (by rw [i59, Array.length_toList, hd2])
        rwa [Array.toArray_toList] at this
      have HX : Hid (Ending.returned (.agg ds) = .returned (.agg (matA fun i => appN M (M i) 32)) ∧ Keeps w (wr.setCells (Q + 1) 0 ds.toList)) := Lib.hid ⟨by rw [hds], setCells_keeps (by omega) _ _ _ HK.out⟩
      have HLd := Lib.hid hld
      have HR1 := Lib.hid (And.intro hr1 hth)
      clear hds hld hr1 hth HBs hQ hR
      go_wp2_with (first
        | refine wpList_load_mid rfl 59 _ rfl (Q + 1) 0 rfl ds.toList _ HR1.out.1 m59 rfl (by rw [i59, Array.length_toList, hd2]) ?_; rw [Array.toArray_toList]
        | refine wpList_store_mid rfl 59 _ _ rfl (Q + 1) 0 ds rfl rfl HR1.out.2 (by rw [i59, hd2]) hd1 ?_)
      exact bodyPost_ret (v := .agg ds) (by simp [results, Try.results42, Sem.run_bind, Sem.run_pure, Result.andThen_ok, Act.put, asAddr, HLd.out]) rfl HX.out

set_option maxRecDepth 100000 in
set_option maxHeartbeats 2000000 in
theorem step_any (w : World) : Calls Try.prog 40 #[] w fun e w' => e = .returned (.agg (matA fun i => sts 8 (2 ^ i))) ∧ Keeps w w' := by
  go_enter Try.func40, Try.ntmps40
  go_wp2_with fail
  generalize hWa : World.alloc w _ = wa
  obtain ⟨d0, hd0, hR0⟩ : ∃ d0 : Array Value, d0.size = 32 ∧ Blk wa w.heap.size 59 d0 := ⟨_, rfl, by rw [← hWa]; exact Blk.new _ _ _ rfl⟩
  have hKa : Keeps w wa := by rw [← hWa]; exact (Keeps.refl _).alloc _
  clear hWa
  generalize hq : w.heap.size = Q at *
  have hQw : w.heap.size ≤ Q := by omega
  clear hq
  refine (row_any _).mono ?_
  rintro e w1 ⟨rfl, hk1⟩
  go_wp2_with fail
  generalize hW : World.alloc _ _ = w2
  have HT : Hid (∀ i, i < 16 → w2.cell? ⟨w1.heap.size, i, none⟩ = some (.int .u32 (sts 4 i : Nat))) := Lib.hid (by
    intro i hi
    rw [← hW, cell_alloc_new]
    exact tab_get i hi)
  have hk2 : Keeps wa w2 := by rw [← hW]; exact hk1.alloc _
  have hR2 := hR0.keeps hk2
  have hK2 := hKa.trans hk2
  have hT : Q < w1.heap.size := (hR0.keeps hk1).lt
  clear hW hk1 hk2 hR0 hKa
  generalize w1.heap.size = T at *
  go_loopw [5] (fun i wr => ∃ (k : Nat) (ds : Array Value), k ≤ 32 ∧ i = .int .i64 (k : Int) ∧ Blk wr Q 59 ds ∧ Hid (ds.size = 32 ∧ ∀ j, j < k → ds[j]? = some (.int .u32 ((sts 8 (2 ^ j) : Nat) : Int))) ∧ Mods (· = Q) w2 wr) (fun i _ => 32 - (intOf i).toNat)
  case atStart => exact ⟨0, d0, by omega, rfl, hR2, Lib.hid ⟨hd0, fun j h => by omega⟩, Mods.refl _ _⟩
  case round =>
    obtain ⟨k, ds, hk, rfl, hR, HD, hM⟩ := hrel
    by_cases hlt : k < 32
    · obtain ⟨dv, hdv⟩ : ∃ dv, ds[k]? = some dv := ⟨ds[k]'(by have := HD.out.1; omega), Array.getElem?_eq_getElem _⟩
      have hcd : wr.cell? ⟨Q, k, none⟩ = some dv := by rw [hR.cell]; exact hdv
      have hfz := hR.frozen k
      have hwk : IntKind.u64.wrap (k : Int) = (k : Int) := IntWalk.u64_in _ (by omega)
      go_upto_region 6 with fail
      have h2k : ((2 : Int) ^ k % 4294967296) = ((2 ^ k : Nat) : Int) := by
        have hp : (2 : Nat) ^ k < 4294967296 := Nat.lt_of_le_of_lt (Nat.pow_le_pow_right (by omega) (show k ≤ 31 from by omega)) (by omega)
        have := Int.emod_eq_of_lt (a := ((2 ^ k : Nat) : Int)) (b := 4294967296) (Int.natCast_nonneg _) (Int.ofNat_lt.2 hp)
        rw [← this]; simp
      rw [h2k]
      have hlt0 : (2 : Nat) ^ k < 4294967296 := Nat.lt_of_le_of_lt (Nat.pow_le_pow_right (by omega) (show k ≤ 31 from by omega)) (by omega)
      have HU : Hid (nib (nib (2 ^ k)) = sts 8 (2 ^ k)) := Lib.hid (by rw [nib_eq, nib_eq, ← sts_add])
      clear h2k
      have HT2 := Lib.hid (fun i (hi : i < 16) => hM.cell (HT.out i hi) (show ¬ T = Q by omega))
      have HM2 := Lib.hid hM
      have HR2 := Lib.hid hR
      clear hM hR hR2
      generalize hc1 : (2 : Nat) ^ k = c1 at *
      have HC1 := Lib.hid hc1
      clear hc1
      have ha1 := and15 hlt0
      have ht1 := HT2.out (c1 % 16) (by omega)
      have hn1 := nib_bits hlt0
      have hl1 : nib c1 < 4294967296 := by rw [nib_eq]; exact sts_lt 4 hlt0
      generalize nib c1 = c2 at *
      go_upto_region 7 with fail
      have ha2 := and15 hl1
      have ht2 := HT2.out (c2 % 16) (by omega)
      have hn2 := nib_bits hl1
      have hl2 : nib c2 < 4294967296 := by rw [nib_eq]; exact sts_lt 4 hl1
      generalize nib c2 = c3 at *
      go_wp2_with fail
      go_roundw
      case rel =>
        refine ⟨k + 1, _, by omega, by simp, HR2.out.set_ k _, Lib.hid ⟨by rw [Array.size_setIfInBounds]; exact HD.out.1, fun j hj => ?_⟩, HM2.out.setCell (fun _ => rfl) _⟩
        rw [Array.getElem?_setIfInBounds]
        by_cases e : k = j
        · subst e; rw [if_pos rfl, if_pos (by have := HD.out.1; omega), HU.out, HC1.out]
        · rw [if_neg e]; exact HD.out.2 j (by omega)
      case measure =>
        simp only [intOf]
        omega
    · obtain rfl : k = 32 := by omega
      have HK := Lib.hid (hM.keeps hK2 (fun x hx => by omega))
      have hds := matA_of HD.out.1 HD.out.2
      have hd1 : ds.all (·.oneCell') = true := by rw [hds]; exact matA_one _
      have hd2 : ds.size = 32 := HD.out.1
      have hr1 : wr.rangeAt Q 0 ds.toList := fun j v hv => by
        rw [hR.cell, Nat.zero_add]
        simpa using hv
      have hth : wr.there Q 0 ds.size := fun j hj => ⟨by rw [hR.cell, Nat.zero_add, Array.getElem?_eq_getElem hj]; rfl, hR.frozen _⟩
      have HBs : Blk (wr.setCells Q 0 ds.toList) Q 59 ds := setCells_self _ _ _ hR (fun i v hv => by rw [Nat.zero_add]; simpa using hv)
      have hld : (loadVar 59 ⟨Q, 0, none⟩).run Try.prog (wr.setCells Q 0 ds.toList) = .ok (.agg ds) (wr.setCells Q 0 ds.toList) := by
        have := run_loadVar_mid (P := Try.prog) (wr.setCells Q 0 ds.toList) Q 0 59 ds.toList _ (fun j v hv => by
          rw [HBs.cell, Nat.zero_add]
          simpa using hv) m59 rfl (by rw [i59, Array.length_toList, hd2])
        rwa [Array.toArray_toList] at this
      have HX : Hid (Ending.returned (.agg ds) = .returned (.agg (matA fun i => sts 8 (2 ^ i))) ∧ Keeps w (wr.setCells Q 0 ds.toList)) := Lib.hid ⟨by rw [hds], setCells_keeps (by omega) _ _ _ HK.out⟩
      have HLd := Lib.hid hld
      have HR1 := Lib.hid (And.intro hr1 hth)
      clear hds hld hr1 hth HBs hR
      go_wp2_with (first
        | refine wpList_load_mid rfl 59 _ rfl Q 0 rfl ds.toList _ HR1.out.1 m59 rfl (by rw [i59, Array.length_toList, hd2]) ?_; rw [Array.toArray_toList]
        | refine wpList_store_mid rfl 59 _ _ rfl Q 0 ds rfl rfl HR1.out.2 (by rw [i59, hd2]) hd1 ?_)
      exact bodyPost_ret (v := .agg ds) (by simp [results, Try.results40, Sem.run_bind, Sem.run_pure, Result.andThen_ok, Act.put, asAddr, HLd.out]) rfl HX.out

end Crc
end Go.Proofs.Ytdleoohhnldlgaa

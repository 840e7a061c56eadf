/- TxlogCuts: its walk. -/
import Derived.Test.YtchjncnolmiejaaTxlogBytes
import Derived.Test.YtchjncnolmiejaaK41
import Derived.Test.YtchjncnolmiejaaK40
namespace Go.Proofs.Ytchjncnolmiejaa
open Go.RowKit
namespace Txl
open Oct Frm
/-- the law's transactions in memory: a slice of items' slices each -/
abbrev TrX := Value × List (Value × Item)
def trC (x : TrX) : List Value := [x.1]
theorem trC_len (x : TrX) : (trC x).length = 1 := rfl
def trGood (w : World) (x : TrX) : Prop := Row w x.1 (x.2.map (·.1)) ∧ ∀ y ∈ x.2, payOk w y
theorem cTr : Try.prog.cellsOf 62 = 1 := by kernel_rfl
theorem opens_tr {H : Type} {enc : TypeId × Value → H} {w : World} {base : Nat} {sp : Nat → Bool} {held : Bool} : Opens enc Try.prog w base sp held 62 trC (trGood w) := by
  have h := opens_slice (enc := enc) (w := w) (base := base) (sp := sp) (held := held) Try.underlying62 c22 (by decide) payC_len opens_pay
  refine opens_map h (fun x => x) (fun x _ => rfl) (fun x hx => ⟨?_, hx.2⟩)
  have := hx.1.row
  rw [pay_map] at this
  exact this
theorem trC_map (l : List TrX) : l.flatMap trC = l.map (·.1) := by
  induction l with
  | nil => rfl
  | cons x l ih => simp only [List.flatMap_cons, List.map_cons, ih]; rfl
/-- the bytes of the first so many -/
def E (T : List (List Item)) (m : Nat) : Nat := (cat (allF 1 (T.take m))).length
def endsV (T : List (List Item)) (n : Nat) : List Value := (List.range n).map fun i => .int .i64 (E T (i + 1) : Int)
theorem endsV_succ (T : List (List Item)) (n : Nat) : endsV T (n + 1) = endsV T n ++ [.int .i64 (E T (n + 1) : Int)] := by
  unfold endsV
  rw [List.range_succ, List.map_append]
  rfl
theorem E_succ {T : List (List Item)} {j : Nat} (h : j < T.length) : cat (allF 1 (T.take (j + 1))) = cat (allF 1 (T.take j)) ++ cat (trF (j + 1) T[j]) := by
  rw [List.take_succ_eq_append_getElem h, allF_snoc, cat_append, List.length_take, show min j T.length = j from by omega, Nat.add_comm 1 j]
theorem E_mono {T : List (List Item)} {a b : Nat} (h : a ≤ b) : E T a ≤ E T b := by
  unfold E
  obtain ⟨d, rfl⟩ := Nat.exists_eq_add_of_le h
  induction d with
  | zero => exact Nat.le_refl _
  | succ d ih =>
    refine Nat.le_trans (ih (by omega)) ?_
    by_cases hl : a + d < T.length
    · have := congrArg List.length (E_succ hl)
      rw [List.length_append] at this
      show _ ≤ (cat (allF 1 (T.take (a + d + 1)))).length
      omega
    · rw [List.take_of_length_le (by omega), List.take_of_length_le (show T.length ≤ a + (d + 1) by omega)]
      exact Nat.le_refl _
theorem rowS_blk {w : World} {b : Nat} {n : Nat} {iv : Value} {its : List (Value × Item)} {t : TypeId} (h : Blk w b t #[.int .i64 ((n : Int) + 1), iv]) : RowS w 2 (.slice (some ⟨b, 0, none⟩) 1 1) ([(n + 1, iv, its)] : List TxX).length (([(n + 1, iv, its)] : List TxX).flatMap txC) := by
  refine ⟨rfl, .inr ⟨b, 0, 1, rfl, Nat.le_refl _, by unfold maxLen; omega, fun i x hx => ?_⟩⟩
  rw [Nat.zero_add, h.cell]
  have e : (([(n + 1, iv, its)] : List TxX).flatMap txC) = [.int .i64 ((n + 1 : Nat) : Int), iv] := rfl
  rw [e, show ((n + 1 : Nat) : Int) = (n : Int) + 1 from by omega] at hx
  simpa using hx
set_option maxRecDepth 100000 in
set_option maxHeartbeats 8000000 in
theorem txlogCuts_walk (W : World) (v : Value) (l : List TrX) (cut : Int) (r0 : RowS W 1 v l.length (l.flatMap trC)) (w0 : ∀ y ∈ l, trGood W y) (_w1 : (Lit.int .i64 cut).wf = true) : Calls Try.prog 9 #[v, .int .i64 cut] W fun e w' => e = .returned (.bool true) ∧ Keeps W w' := by
  have hr : Row W v (l.map (·.1)) := by
    have := r0.row
    rw [trC_map] at this
    exact this
  obtain ⟨p, c, rfl, -, -⟩ := r0.form
  have HR := Lib.hid hr
  have HG := Lib.hid w0
  have HAW := Lib.hid (awake17_any W)
  clear hr w0 r0 _w1
  go_enter Try.func9, Try.ntmps9
  go_wp2_with fail
  refine HAW.out.mono ?_
  rintro e w1 ⟨rfl, hk1⟩
  have HK1 := Lib.hid hk1
  clear hk1 HAW
  by_cases h20 : 20 < l.length
  · go_wp2_with fail
    go_ret
    exact ⟨rfl, HK1.out⟩
  obtain ⟨T, hT⟩ : ∃ T : List (List Item), T = l.map (fun x => x.2.map (·.2)) := ⟨_, rfl⟩
  have HT := Lib.hid hT
  have HTl := Lib.hid (show T.length = l.length from by rw [hT, List.length_map])
  clear hT
  have h20' : l.length ≤ 20 := by omega
  go_wp2_with fail
  go_loopw [5, 6, 7] (fun av ev iv wr => ∃ (j : Nat) (pa : Option Addr) (na ca : Nat) (pe : Option Addr) (ce : Nat), iv = .int .i64 (j : Int) ∧ j ≤ l.length ∧ av = .slice pa na ca ∧ ev = .slice pe j ce ∧ na = E T j ∧ na ≤ 9003000 ∧ Hid (Own wr W.heap.size 5 (.slice pa na ca) ((cat (allF 1 (T.take j))).map u8v)) ∧ Hid (Own wr W.heap.size 3 (.slice pe j ce) (endsV T j)) ∧ Hid (Keeps W wr) ∧ Hid (∀ t ∈ T.take j, trOk t)) (fun _ _ iv _ => l.length - (intOf iv).toNat)
  case atStart => exact ⟨0, none, 0, 0, none, 0, rfl, Nat.zero_le _, rfl, rfl, by simp [E, allF, cat], by omega, Lib.hid (by simpa [allF, cat] using Own.nil _ _ _), Lib.hid (by simpa [endsV] using Own.nil _ _ _), HK1, Lib.hid (by simp)⟩
  case round =>
    clear HK1
    obtain ⟨j, pa, na, ca, pe, ce, rfl, hj, rfl, rfl, hna, hnb, HO, HE, HK, HOK⟩ := hrel
    by_cases hlt : j < l.length
    · have hjT : j < T.length := by rw [HTl.out]; exact hlt
      obtain ⟨b, off, cap', hv, hc⟩ := row_cells HR.out (by rw [List.length_map]; omega)
      rw [List.length_map] at hv
      simp only [Value.slice.injEq] at hv
      obtain ⟨rfl, -, rfl⟩ := hv
      have hcell : wr.cell? ⟨b, off + j, none⟩ = some l[j].1 := by
        have := hc.out j l[j].1 (by simp [hlt])
        rw [HK.out.cell (p := ⟨b, off + j, none⟩) (lt_of_cell this)]
        exact this
      have hgood := HG.out l[j] (List.getElem_mem hlt)
      have HTJ := Lib.hid (show T[j] = l[j].2.map (·.2) from by
        have := HT.out
        subst this
        simp)
      have HES := Lib.hid (E_succ hjT)
      have HTT := Lib.hid (show T.take (j + 1) = T.take j ++ [T[j]] from List.take_succ_eq_append_getElem hjT)
      have hlj : (j : Int) < (l.length : Int) := by omega
      clear hc
      generalize T[j] = tj at *
      generalize l[j] = y at *
      obtain ⟨yv, yl⟩ := y
      obtain ⟨hgr, hgp⟩ := hgood
      simp only at hcell hgr hgp HTJ
      have HGR := Lib.hid (hgr.keeps HK.out)
      have HGP := Lib.hid (fun z hz => (hgp z hz).keeps HK.out)
      obtain ⟨pq, cq, hyv, -, -⟩ := hgr.form
      rw [List.length_map] at hyv
      subst hyv
      clear hgr hgp
      have HNA := Lib.hid hna
      clear hna
      by_cases h10 : 10 < yl.length
      · go_wp2_with fail
        go_ret
        exact ⟨rfl, HK.out⟩
      have HBK := Lib.hid (bulkD_any 1000 (by omega) (.slice pq yl.length cq) yl wr HGR.out HGP.out)
      rw [show ((1000 : Nat) : Int) = 1000 from rfl] at HBK
      unfold BulkD at HBK
      go_wp2_with fail
      refine HBK.out.mono ?_
      rintro e w9 ⟨bk, rfl, hbk, hbs, rfl⟩
      by_cases hb1 : 1000 < bk
      · go_wp2_with fail
        go_ret
        exact ⟨rfl, HK.out⟩
      by_cases hb3 : 3000 < na
      · go_wp2_with fail
        go_ret
        exact ⟨rfl, HK.out⟩
      have hbs' := hbs (by omega)
      have HTO := Lib.hid (show trOk tj from by
        rw [HTJ.out]
        exact ⟨by rw [List.length_map]; omega, fun x hx => by obtain ⟨z, hz, rfl⟩ := List.mem_map.1 hx; have := hbs' z hz; omega⟩)
      have hTX := trF_tx (n := j + 1) (by omega) HTO.out
      have HTB := Lib.hid (txBytes_any ((j : Int) + 1) (by omega) (.slice pq yl.length cq) yl wr HGR.out HGP.out)
      have HTLn := Lib.hid (show (cat (trF (j + 1) tj)).length ≤ 9000000 from by rw [← hTX.2]; exact txL_len)
      rw [← HTJ.out, show ((j : Int) + 1) = ((j + 1 : Nat) : Int) from by omega, hTX.1, hTX.2, show ((j + 1 : Nat) : Int) = (j : Int) + 1 from by omega] at HTB
      unfold RetSI at HTB
      clear hbs hbs' hTX
      go_wp2_with fail
      refine HTB.out.mono ?_
      rintro e wa ⟨va, rfl, hoa, hka⟩
      have HKA := Lib.hid (HK.out.trans hka)
      have HOA := Lib.hid hoa
      have HOB := Lib.hid (HO.out.keeps hka)
      have HEB := Lib.hid (HE.out.keeps hka)
      obtain ⟨p3, n3, c3, rfl⟩ := hoa.sl
      have hsa := HKA.out.size
      have HNL := Lib.hid (show (cat (allF 1 (T.take j))).length = na from HNA.out.symm)
      clear hoa hka HTB
      go_upto_region 16 with (at_builtin; refine wpList_app1 (base := W.heap.size) u8ok rfl _ _ rfl (.slice pa na ca) (.slice p3 n3 c3) _ ((cat (trF (j + 1) tj)).map u8v) rfl rfl HOB.out HOA.out.row (oneCell_map_u8 _) (by rw [List.length_map, List.length_map, HNL.out]; have := HTLn.out; omega) (by decide) hsa ?_; intro v4 w4 ho4 hg4 hf4; have hl4 : ((cat (allF 1 (T.take j))).map u8v ++ (cat (trF (j + 1) tj)).map u8v).length = E T (j + 1) := by { rw [← List.map_append, ← HES.out, List.length_map]; rfl }; obtain ⟨p4, c4, hv4, -, -⟩ := Frm.ownsRow_form ho4; rw [hl4] at hv4; subst hv4; have HO4 := Lib.hid ho4; have HK4 := Lib.hid (HKA.out.grown hg4 (fun k hk => HOB.out.base k hk)); have HE4 := Lib.hid (own_modsT HEB.out ((Mods.refl (fun x => (Value.slice pa na ca).ownBlock = some x) _).grown hg4 (fun k hk _ => hk)) (ownsRow_ty HOB.out (by decide))); clear ho4 hg4 hf4 hl4)
      have hs4 := HK4.out.size
      have heb : E T (j + 1) ≤ 9003000 := by
        have h1 := congrArg List.length HES.out
        rw [List.length_append] at h1
        have h2 := HTLn.out
        have h3 := HNL.out
        show (cat (allF 1 (T.take (j + 1)))).length ≤ _
        omega
      go_wp2_with (at_builtin; go_loud (refine wpList_app1 (base := W.heap.size) iok rfl _ _ rfl (.slice pe j ce) (.slice (some ⟨w4.heap.size, 0, none⟩) 1 1) (endsV T j) [.int .i64 (E T (j + 1) : Int)] rfl rfl (HE4.out.alloc _) (row_alloc rfl rfl rfl (by unfold maxLen; simp)) (by simp [Value.oneCell']) (by simp [endsV]; omega) (by decide) (by rw [Frm.alloc_size]; omega) ?_; intro v5 w5 ho5 hg5 hf5; have hl5 : (endsV T j ++ [Value.int .i64 (E T (j + 1) : Int)]).length = j + 1 := by { simp [endsV] }; obtain ⟨p5, c5, hv5, -, -⟩ := Frm.ownsRow_form ho5; rw [hl5] at hv5; subst hv5; have HO5 := Lib.hid ho5; have HK5 := Lib.hid ((HK4.out.alloc _).grown hg5 (fun k hk => HE4.out.base k hk)); have HA5 := Lib.hid (own_modsT (HO4.out.alloc _) ((Mods.refl (fun x => (Value.slice pe j ce).ownBlock = some x) _).grown hg5 (fun k hk _ => hk)) (ownsRow_ty (HE4.out.alloc _) (by decide))); clear ho5 hg5 hf5 hl5))
      go_roundw
      case rel =>
        refine ⟨j + 1, p4, E T (j + 1), c4, p5, c5, by simp, by omega, rfl, rfl, rfl, heb, Lib.hid ?_, Lib.hid ?_, HK5, Lib.hid ?_⟩
        · have := HA5.out
          rw [← List.map_append, ← HES.out] at this
          exact this
        · rw [endsV_succ]
          exact HO5.out
        · rw [HTT.out]
          intro t ht
          rcases List.mem_append.1 ht with ht | ht
          · exact HOK.out t ht
          · simp at ht; subst ht; exact HTO.out
      case measure =>
        simp only [intOf]
        omega
    · have hjl : j = l.length := by omega
      have hlt' : decide ((j : Int) < (l.length : Int)) = false := by simp; omega
      subst hjl
      have hTall : T.take l.length = T := by rw [← HTl.out, List.take_length]
      rw [hTall] at HO HOK
      have HTO := Lib.hid HOK.out
      have HNA := Lib.hid (show na = (cat (allF 1 T)).length from by rw [hna]; unfold E; rw [hTall])
      clear hTall hna HOK
      have hnac : (na : Int) ≤ 9003000 := by omega
      by_cases hc0 : cut < 0
      · have hcE : na ≤ na := Nat.le_refl na
        obtain ⟨C, hC⟩ : ∃ C, C = cntB 1 T na := ⟨_, rfl⟩
        have hCT : C ≤ l.length := by rw [hC, ← HTl.out]; exact cntB_le _ _ _
        have HCI := Lib.hid (show ∀ i, i < T.length → (E T (i + 1) ≤ na ↔ i < C) from fun i hi => by rw [hC]; exact ends_cnt T 1 na i hi)
        have HRC := Lib.hid (show replayF (rowR ((cat (allF 1 T)).take na)).1 = (numd 1 (T.take C), (E T C : Int)) from by
          rw [hC]
          exact rep_cut T HTO.out (by rw [HTl.out]; omega) na (by rw [← HNA.out]; exact hcE))
        clear hC
        have HECl := Lib.hid (show E T C ≤ na from by
          have := E_mono (T := T) hCT
          rw [HNA.out]
          unfold E at this ⊢
          rw [← HTl.out, List.take_length] at this
          exact this)
        go_wp2_with fail
        go_loopw [10, 11, 12] (fun cv uv iv wx => ∃ (i m : Nat), iv = .int .i64 (i : Int) ∧ i ≤ l.length ∧ m = min i C ∧ cv = .int .i64 (m : Int) ∧ uv = .int .i64 (E T m : Int) ∧ wx = wr) (fun _ _ iv _ => l.length - (intOf iv).toNat)
        case atStart => exact ⟨0, 0, rfl, Nat.zero_le _, by omega, rfl, by simp [E, allF, cat], rfl⟩
        case round =>
          obtain ⟨i, m, rfl, hi, hm, rfl, rfl, rfl⟩ := hrel
          by_cases hlti : i < l.length
          · obtain ⟨eb, eo, ec, hve, hce⟩ := row_cells HE.out.row (by simp [endsV]; omega)
            have hel : (endsV T l.length).length = l.length := by simp [endsV]
            rw [hel] at hve
            simp only [Value.slice.injEq] at hve
            obtain ⟨rfl, -, rfl⟩ := hve
            have hec := hce.out i (.int .i64 (E T (i + 1) : Int)) (by unfold endsV; simp [hlti])
            have hiff := HCI.out i (by rw [HTl.out]; exact hlti)
            have HEB := Lib.hid (show E T (i + 1) ≤ na from by
              have := E_mono (T := T) (show i + 1 ≤ l.length by omega)
              rw [HNA.out]
              unfold E at this ⊢
              rw [← HTl.out, List.take_length] at this
              exact this)
            have hii : (i : Int) < (l.length : Int) := by omega
            clear hce hel
            by_cases hiC : i < C
            · have t1 : decide ((E T (i + 1) : Int) ≤ (na : Int)) = true := by have := hiff.2 hiC; simp; omega
              have t2 : decide (E T (i + 1) ≤ na) = true := by have := hiff.2 hiC; simp; omega
              have HM := Lib.hid (show min (i + 1) C = i + 1 from by omega)
              clear hiff hm
              go_wp2_with fail
              go_roundw
              case rel => exact ⟨i + 1, i + 1, by simp, by omega, by rw [HM.out], by simp, rfl, trivial⟩
              case measure =>
                simp only [intOf]
                omega
            · have t1 : decide ((E T (i + 1) : Int) ≤ (na : Int)) = false := by have := mt hiff.1 hiC; simp; omega
              have t2 : decide (E T (i + 1) ≤ na) = false := by have := mt hiff.1 hiC; simp; omega
              have HM := Lib.hid (show m = min (i + 1) C from by omega)
              clear hiff hm
              go_wp2_with fail
              go_roundw
              case rel => exact ⟨i + 1, m, by simp, by omega, HM.out, rfl, rfl, trivial⟩
              case measure =>
                simp only [intOf]
                omega
          · have hmC : C = m := by omega
            have hti : decide ((i : Int) < (l.length : Int)) = false := by simp; omega
            subst hmC
            clear hm
            obtain ⟨pr, hpr⟩ := cutS_sl 1 pa 0 na ca
            rw [Nat.sub_zero, Nat.sub_zero] at hpr
            have hca : na ≤ ca := by
              obtain ⟨_, _, e1, e2, -⟩ := Frm.ownsRow_form HO.out
              simp only [Value.slice.injEq] at e1
              rw [List.length_map] at e1 e2
              omega
            have hcut : ∀ w', (Instr.slice 22 (.slice pa na ca) none (some (.int .i64 (na : Int))) none).run Try.prog w' = .ok (.slice pr na ca) w' := fun w' => by
              rw [← hpr]
              exact run_cutS_h w' Try.underlying22 (by intro w; kernel_rfl) pa na ca na hca
            have HRR := Lib.hid (show Row wr (.slice pr na ca) (((cat (allF 1 T)).take na).map u8v) from by
              have h0 := HO.out.row.s
              rw [show ((cat (allF 1 T)).map u8v).length = na from by rw [List.length_map]; exact HNA.out.symm] at h0
              have := h0.cut (lo := 0) (hi := na) (Nat.zero_le _) hcE
              rw [hpr] at this
              have e : (((cat (allF 1 T)).map u8v).drop (0 * 1)).take ((na - 0) * 1) = ((cat (allF 1 T)).take na).map u8v := by simp [List.map_take]
              rw [e] at this
              exact this.row)
            have HRP := Lib.hid (replay_any (.slice pr na ca) ((cat (allF 1 T)).take na) wr (by have := HRR.out; exact this) (by rw [List.length_take]; omega))
            rw [HRC.out] at HRP
            unfold ReplayDid at HRP
            clear hpr
            go_wp2_with fail
            refine HRP.out.mono ?_
            rintro e w3 ⟨tx, X, rfl, ht, hX, hk3⟩
            have hXl : X.length = C := by
              have h1 := congrArg List.length hX
              rw [List.length_map, numd_len, List.length_take] at h1
              have := HTl.out
              omega
            obtain ⟨px, cx, rfl, -, -⟩ := Frm.ownsRow_form ht.own
            have HX := Lib.hid ht.r
            have HXE := Lib.hid hX
            have HXL := Lib.hid hXl
            have HK3 := Lib.hid (HK.out.trans hk3)
            rw [hXl] at HX ⊢
            have ee : ((E T C : Int) == (E T C : Int)) = true := by simp
            clear ht hX hXl hk3 HRP hcut
            have hC20 : C ≤ 20 := by omega
            have hcx : C ≤ cx := by
              obtain ⟨_, _, e1, e2, -⟩ := HX.out.form
              simp only [Value.slice.injEq] at e1
              have := HXL.out
              omega
            go_wp2_with fail
            go_loopw [15] (fun iv wx => ∃ q : Nat, iv = .int .i64 (q : Int) ∧ q ≤ C ∧ Hid (Keeps w3 wx)) (fun iv _ => C - (intOf iv).toNat)
            case atStart => exact ⟨0, rfl, Nat.zero_le _, Lib.hid (Keeps.refl _)⟩
            case round =>
              obtain ⟨q, rfl, hq, HQ⟩ := hrel
              by_cases hltq : q < C
              · have hqX : q < X.length := by rw [HXL.out]; exact hltq
                have hql : q < l.length := by omega
                have HKq := Lib.hid (HK3.out.trans HQ.out)
                obtain ⟨b, off, cap', hv, hc⟩ := row_cells HR.out (by rw [List.length_map]; omega)
                rw [List.length_map] at hv
                simp only [Value.slice.injEq] at hv
                obtain ⟨rfl, -, rfl⟩ := hv
                have hcell : wr.cell? ⟨b, off + q, none⟩ = some l[q].1 := by
                  have := hc.out q l[q].1 (by simp [hql])
                  rw [HKq.out.cell (p := ⟨b, off + q, none⟩) (lt_of_cell this)]
                  exact this
                have hgood := HG.out l[q] (List.getElem_mem hql)
                have HTQ := Lib.hid (show txP X[q] = (q + 1, l[q].2.map (·.2)) from by
                  have h1 := congrArg (fun z => z[q]?) HXE.out
                  simp only [List.getElem?_map, List.getElem?_eq_getElem hqX, Option.map_some] at h1
                  rw [numd_get _ 1 q (by rw [List.length_take, HTl.out]; omega)] at h1
                  simp only [Option.some.injEq] at h1
                  rw [h1, List.getElem_take, Nat.add_comm 1 q]
                  have := HT.out
                  subst this
                  simp)
                have HXq := Lib.hid (HX.out.keeps HQ.out)
                obtain ⟨pz, hpz⟩ := cutS_sl 2 px q (q + 1) cx
                rw [show q + 1 - q = 1 from by omega] at hpz
                have hcut : ∀ w', (Instr.slice 66 (.slice px C cx) (some (.int .i64 (q : Int))) (some (.int .i64 ((q : Int) + 1))) none).run Try.prog w' = .ok (.slice pz 1 (cx - q)) w' := fun w' => by
                  rw [← hpz, show ((q : Int) + 1) = ((q + 1 : Nat) : Int) from by omega]
                  exact run_cutS_lh w' Try.underlying66 (by intro w; kernel_rfl) px C cx q (q + 1) (by omega) (by omega)
                have HZ := Lib.hid (show TxsR wr (.slice pz 1 (cx - q)) [X[q]] from by
                  have h0 := HXq.out.row
                  rw [← HXL.out] at h0
                  have h1 := RowS.part txC_len h0 (lo := q) (hi := q + 1) (by omega) (by omega)
                  rw [hpz] at h1
                  have e1 : (X.drop q).take (q + 1 - q) = [X[q]] := by
                    rw [show q + 1 - q = 1 from by omega, List.drop_eq_getElem_cons hqX]
                    rfl
                  rw [e1] at h1
                  exact ⟨by simpa using h1, fun x hx => by simp only [List.mem_singleton] at hx; subst hx; exact HXq.out.its _ (List.getElem_mem hqX), fun x hx => by simp only [List.mem_singleton] at hx; subst hx; exact HXq.out.pay _ (List.getElem_mem hqX)⟩)
                have HGq := Lib.hid (show Row wr l[q].1 (l[q].2.map (·.1)) ∧ ∀ y ∈ l[q].2, payOk wr y from ⟨hgood.1.keeps HKq.out, fun y hy => (hgood.2 y hy).keeps HKq.out⟩)
                obtain ⟨fy, fc, hfy, -, -⟩ := hgood.1.form
                have hqi : (q : Int) < (C : Int) := by omega
                have hqli : (q : Int) < (l.length : Int) := by omega
                clear hc hgood hpz
                generalize X[q] = zx at *
                generalize l[q] = y at *
                obtain ⟨yv, yl⟩ := y
                simp only at hcell HTQ HGq hfy
                rw [List.length_map] at hfy
                subst hfy
                have hwq : IntKind.i64.wrap ((q : Int) + 1) = (q : Int) + 1 := by rw [IntKind.wrap_i64]; omega
                go_upto_region 32 with fail
                refine wp_region_noPanic ?_
                refine wp_region_held_drew (S := fun w' => Keeps wr w') (by kernel_rfl) ((Keeps.refl wr).drew) (fun _ => ?_)
                have hHeld : Keeps wr (wr).drew := (Keeps.refl wr).drew
                generalize World.drew wr = xs at *
                refine wpAnyH_take (i := 0) (v := ?vv1) (by rfl) (by kernel_rfl) (by kernel_rfl) (by kernel_rfl) (by intro _ _ _ h; exact h) (Or.inl ⟨by kernel_rfl, ?hy1⟩) (by assumption) ?rest1
                case hy1 =>
                  intro w' hSw
                  have hSw : Keeps wr w' := hSw
                  clear hSw
                  go_simp
                  try with_reducible rfl
                change wpAnyH _ _ _ _ _ _ _ (Act.put _ (some 115) _) _
                try simp only [Act.put, List.setIfInBounds_toArray, List.set_cons_zero, List.set_cons_succ]
                refine wpAnyH_take (i := 1) (v := ?vv2) (by rfl) (by kernel_rfl) (by kernel_rfl) (by kernel_rfl) (by intro _ _ _ h; exact h) (Or.inl ⟨by kernel_rfl, ?hy2⟩) (by assumption) ?rest2
                case hy2 =>
                  intro w' hSw
                  have hSw : Keeps wr w' := hSw
                  clear hSw
                  go_simp
                  try with_reducible rfl
                change wpAnyH _ _ _ _ _ _ _ (Act.put _ (some 116) _) _
                try simp only [Act.put, List.setIfInBounds_toArray, List.set_cons_zero, List.set_cons_succ]
                refine wpAnyH_take (i := 2) (v := ?vv3) (by rfl) (by kernel_rfl) (by kernel_rfl) (by kernel_rfl) (by intro _ _ _ h; exact h) (Or.inl ⟨by kernel_rfl, ?hy3⟩) (by assumption) ?rest3
                case hy3 =>
                  intro w' hSw
                  have hSw : Keeps wr w' := hSw
                  clear hSw
                  go_simp
                  try with_reducible rfl
                change wpAnyH _ _ _ _ _ _ _ (Act.put _ (some 117) _) _
                try simp only [Act.put, List.setIfInBounds_toArray, List.set_cons_zero, List.set_cons_succ]
                refine wpAnyH_take (i := 3) (v := ?vv4) (by rfl) (by kernel_rfl) (by kernel_rfl) (by kernel_rfl) (by intro _ _ _ h; exact h) (Or.inl ⟨by kernel_rfl, ?hy4⟩) (by assumption) ?rest4
                case hy4 =>
                  intro w' hSw
                  have hSw : Keeps wr w' := hSw
                  clear hSw
                  go_simp
                  try with_reducible rfl
                change wpAnyH _ _ _ _ _ _ _ (Act.put _ (some 118) _) _
                try simp only [Act.put, List.setIfInBounds_toArray, List.set_cons_zero, List.set_cons_succ]
                refine wpAnyH_take (i := 4) (v := ?vv5) (by rfl) (by kernel_rfl) (by kernel_rfl) (by kernel_rfl) (by intro _ _ _ h; exact h) (Or.inl ⟨by kernel_rfl, ?hy5⟩) (by assumption) ?rest5
                case hy5 =>
                  intro w' hSw
                  have hSw : Keeps wr w' := hSw
                  have hx := hcut w'
                  clear hSw
                  go_simp
                  try with_reducible rfl
                change wpAnyH _ _ _ _ _ _ _ (Act.put _ (some 119) _) _
                try simp only [Act.put, List.setIfInBounds_toArray, List.set_cons_zero, List.set_cons_succ]
                refine wpAnyH_take (i := 5) (v := ?vv6) (by rfl) (by kernel_rfl) (by kernel_rfl) (by kernel_rfl) (by intro _ _ _ h; exact h) (Or.inl ⟨by kernel_rfl, ?hy6⟩) (by assumption) ?rest6
                case hy6 =>
                  intro w' hSw
                  have hSw : Keeps wr w' := hSw
                  clear hSw
                  go_simp
                  try with_reducible rfl
                change wpAnyH _ _ _ _ _ _ _ (Act.put _ (some 120) _) _
                try simp only [Act.put, List.setIfInBounds_toArray, List.set_cons_zero, List.set_cons_succ]
                refine wpAnyH_take (i := 6) (v := ?vv7) (by rfl) (by kernel_rfl) (by kernel_rfl) (by kernel_rfl) (by intro _ _ _ h; exact h) (Or.inl ⟨by kernel_rfl, ?hy7⟩) (by assumption) ?rest7
                case hy7 =>
                  intro w' hSw
                  have hSw : Keeps wr w' := hSw
                  clear hSw
                  go_simp
                  try with_reducible rfl
                change wpAnyH _ _ _ _ _ _ _ (Act.put _ (some 121) _) _
                try simp only [Act.put, List.setIfInBounds_toArray, List.set_cons_zero, List.set_cons_succ]
                refine wpAnyH_take (i := 7) (v := ?vv8) (by rfl) (by kernel_rfl) (by kernel_rfl) (by kernel_rfl) (by intro _ _ _ h; exact h) (Or.inl ⟨by kernel_rfl, ?hy8⟩) (by assumption) ?rest8
                case hy8 =>
                  intro w' hSw
                  have hSw : Keeps wr w' := hSw
                  clear hSw
                  go_simp
                  try with_reducible rfl
                change wpAnyH _ _ _ _ _ _ _ (Act.put _ (some 122) _) _
                try simp only [Act.put, List.setIfInBounds_toArray, List.set_cons_zero, List.set_cons_succ]
                refine wpAnyH_take (i := 8) (v := ?vv9) (by rfl) (by kernel_rfl) (by kernel_rfl) (by kernel_rfl) (by intro _ _ _ h; exact h) (Or.inl ⟨by kernel_rfl, ?hy9⟩) (by assumption) ?rest9
                case hy9 =>
                  intro w' hSw
                  have hSw : Keeps wr w' := hSw
                  clear hSw
                  go_simp
                  try with_reducible rfl
                change wpAnyH _ _ _ _ _ _ _ (Act.put _ (some 123) _) _
                try simp only [Act.put, List.setIfInBounds_toArray, List.set_cons_zero, List.set_cons_succ]
                refine wpAnyH_take (i := 9) (v := ?vv10) (by rfl) (by kernel_rfl) (by kernel_rfl) (by kernel_rfl) (by intro _ _ _ h; exact h) (Or.inl ⟨by kernel_rfl, ?hy10⟩) (by assumption) ?rest10
                case hy10 =>
                  intro w' hSw
                  have hSw : Keeps wr w' := hSw
                  clear hSw
                  go_simp
                  try with_reducible rfl
                change wpAnyH _ _ _ _ _ _ _ (Act.put _ (some 124) _) _
                try simp only [Act.put, List.setIfInBounds_toArray, List.set_cons_zero, List.set_cons_succ]
                refine wpAnyH_take (i := 10) (v := ?vv11) (by rfl) (by kernel_rfl) (by kernel_rfl) (by kernel_rfl) (by intro _ _ _ h; exact h) (Or.inl ⟨by kernel_rfl, ?hy11⟩) (by assumption) ?rest11
                case hy11 =>
                  intro w' hSw
                  have hSw : Keeps wr w' := hSw
                  have hx := keep1 hSw hcell
                  clear hSw
                  go_simp
                  try with_reducible rfl
                change wpAnyH _ _ _ _ _ _ _ (Act.put _ (some 125) _) _
                try simp only [Act.put, List.setIfInBounds_toArray, List.set_cons_zero, List.set_cons_succ]
                refine wpAnyH_take (i := 11) (v := ?vv12) (by rfl) (by kernel_rfl) (by kernel_rfl) (by kernel_rfl) (by intro _ _ _ h; exact h) (Or.inl ⟨by kernel_rfl, ?hy12⟩) (by assumption) ?rest12
                case hy12 =>
                  intro w' hSw
                  have hSw : Keeps wr w' := hSw
                  clear hSw
                  go_simp
                  try with_reducible rfl
                change wpAnyH _ _ _ _ _ _ _ (Act.put _ (some 126) _) _
                try simp only [Act.put, List.setIfInBounds_toArray, List.set_cons_zero, List.set_cons_succ]
                refine wpAnyH_ready (rs := [12]) (by kernel_rfl) (by simp) ?_
                refine AllReadyH.cons (o := _) rfl (fun K hK => ?_) ?_
                · go_simp
                  obtain ⟨gq, hgq⟩ : ∃ z, z = (World.heap xs).size := ⟨_, rfl⟩
                  have HBB : Hid (Blk (World.alloc xs (.cells #[.int .i64 ((q : Int) + 1), .slice fy yl.length fc] 75)) gq 75 #[.int .i64 ((q : Int) + 1), .slice fy yl.length fc]) := Lib.hid (Blk.new _ _ _ hgq)
                  have hb := hHeld.alloc (.cells #[.int .i64 ((q : Int) + 1), .slice fy yl.length fc] 75)
                  rw [← hgq]
                  clear hgq
                  generalize World.alloc xs (.cells #[.int .i64 ((q : Int) + 1), .slice fy yl.length fc] 75) = wB at *
                  have HKB := Lib.hid hb
                  have HSM := Lib.hid (same17_any (.slice pz 1 (cx - q)) (.slice (some ⟨gq, 0, none⟩) 1 1) [zx] [(q + 1, .slice fy yl.length fc, yl)] wB (HZ.out.keeps hb) ⟨rowS_blk HBB.out, fun x hx => by simp only [List.mem_singleton] at hx; subst hx; exact HGq.out.1.keeps hb, fun x hx y hy => by simp only [List.mem_singleton] at hx; subst hx; exact (HGq.out.2 y hy).keeps hb⟩ (by rw [List.map_cons, HTQ.out]; rfl) (by simp))
                  refine hK.out _ _ hb (fun _ => ?_)
                  clear hK K hHeld
                  have hHeld : Keeps wr wB := hb
                  clear hb
                  try simp only [Act.put, List.setIfInBounds_toArray, List.set_cons_zero, List.set_cons_succ]
                  refine wpAnyH_ready (rs := [13]) (by kernel_rfl) (by simp) ?_
                  refine AllReadyH.cons (o := _) rfl (fun K hK => ?_) ?_
                  · go_simp
                    refine HSM.out.mono ?_
                    rintro e wC ⟨rfl, hk⟩
                    have HKC := Lib.hid (HKB.out.trans hk)
                    have hb := hHeld.trans hk
                    clear hk
                    go_wp2_with fail
                    refine hK.out _ _ hb (fun _ => ?_)
                    clear hK K hHeld
                    have hHeld : Keeps wr wC := hb
                    clear hb
                    try simp only [Act.put, List.setIfInBounds_toArray, List.set_cons_zero, List.set_cons_succ]
                    refine wpAnyH_take (i := 14) (v := ?vv13) (by rfl) (by kernel_rfl) (by kernel_rfl) (by kernel_rfl) (by intro _ _ _ h; exact h) (Or.inl ⟨by kernel_rfl, ?hy13⟩) (by assumption) ?rest13
                    case hy13 =>
                      intro w' hSw
                      have hSw : Keeps wr w' := hSw
                      clear hSw
                      go_simp
                      try with_reducible rfl
                    change wpAnyH _ _ _ _ _ _ _ (Act.put _ (some 129) _) _
                    try simp only [Act.put, List.setIfInBounds_toArray, List.set_cons_zero, List.set_cons_succ]
                    refine wpAnyH_done (by kernel_rfl) ?_ _
                    refine NoPanic.normal ?_
                    go_wp2_with fail
                    go_roundw
                    case rel => exact ⟨q + 1, by simp, by omega, Lib.hid (HQ.out.trans HKC.out)⟩
                    case measure =>
                      simp only [intOf]
                      omega
                  exact AllReadyH.nil
                exact AllReadyH.nil
              · have htq : decide ((q : Int) < (C : Int)) = false := by simp; omega
                go_wp2_with fail
                go_ret
                exact ⟨rfl, HK3.out.trans HQ.out⟩
      by_cases hc1 : (na : Int) < cut
      · have hcE : na ≤ na := Nat.le_refl na
        obtain ⟨C, hC⟩ : ∃ C, C = cntB 1 T na := ⟨_, rfl⟩
        have hCT : C ≤ l.length := by rw [hC, ← HTl.out]; exact cntB_le _ _ _
        have HCI := Lib.hid (show ∀ i, i < T.length → (E T (i + 1) ≤ na ↔ i < C) from fun i hi => by rw [hC]; exact ends_cnt T 1 na i hi)
        have HRC := Lib.hid (show replayF (rowR ((cat (allF 1 T)).take na)).1 = (numd 1 (T.take C), (E T C : Int)) from by
          rw [hC]
          exact rep_cut T HTO.out (by rw [HTl.out]; omega) na (by rw [← HNA.out]; exact hcE))
        clear hC
        have HECl := Lib.hid (show E T C ≤ na from by
          have := E_mono (T := T) hCT
          rw [HNA.out]
          unfold E at this ⊢
          rw [← HTl.out, List.take_length] at this
          exact this)
        go_wp2_with fail
        go_loopw [10, 11, 12] (fun cv uv iv wx => ∃ (i m : Nat), iv = .int .i64 (i : Int) ∧ i ≤ l.length ∧ m = min i C ∧ cv = .int .i64 (m : Int) ∧ uv = .int .i64 (E T m : Int) ∧ wx = wr) (fun _ _ iv _ => l.length - (intOf iv).toNat)
        case atStart => exact ⟨0, 0, rfl, Nat.zero_le _, by omega, rfl, by simp [E, allF, cat], rfl⟩
        case round =>
          obtain ⟨i, m, rfl, hi, hm, rfl, rfl, rfl⟩ := hrel
          by_cases hlti : i < l.length
          · obtain ⟨eb, eo, ec, hve, hce⟩ := row_cells HE.out.row (by simp [endsV]; omega)
            have hel : (endsV T l.length).length = l.length := by simp [endsV]
            rw [hel] at hve
            simp only [Value.slice.injEq] at hve
            obtain ⟨rfl, -, rfl⟩ := hve
            have hec := hce.out i (.int .i64 (E T (i + 1) : Int)) (by unfold endsV; simp [hlti])
            have hiff := HCI.out i (by rw [HTl.out]; exact hlti)
            have HEB := Lib.hid (show E T (i + 1) ≤ na from by
              have := E_mono (T := T) (show i + 1 ≤ l.length by omega)
              rw [HNA.out]
              unfold E at this ⊢
              rw [← HTl.out, List.take_length] at this
              exact this)
            have hii : (i : Int) < (l.length : Int) := by omega
            clear hce hel
            by_cases hiC : i < C
            · have t1 : decide ((E T (i + 1) : Int) ≤ (na : Int)) = true := by have := hiff.2 hiC; simp; omega
              have t2 : decide (E T (i + 1) ≤ na) = true := by have := hiff.2 hiC; simp; omega
              have HM := Lib.hid (show min (i + 1) C = i + 1 from by omega)
              clear hiff hm
              go_wp2_with fail
              go_roundw
              case rel => exact ⟨i + 1, i + 1, by simp, by omega, by rw [HM.out], by simp, rfl, trivial⟩
              case measure =>
                simp only [intOf]
                omega
            · have t1 : decide ((E T (i + 1) : Int) ≤ (na : Int)) = false := by have := mt hiff.1 hiC; simp; omega
              have t2 : decide (E T (i + 1) ≤ na) = false := by have := mt hiff.1 hiC; simp; omega
              have HM := Lib.hid (show m = min (i + 1) C from by omega)
              clear hiff hm
              go_wp2_with fail
              go_roundw
              case rel => exact ⟨i + 1, m, by simp, by omega, HM.out, rfl, rfl, trivial⟩
              case measure =>
                simp only [intOf]
                omega
          · have hmC : C = m := by omega
            have hti : decide ((i : Int) < (l.length : Int)) = false := by simp; omega
            subst hmC
            clear hm
            obtain ⟨pr, hpr⟩ := cutS_sl 1 pa 0 na ca
            rw [Nat.sub_zero, Nat.sub_zero] at hpr
            have hca : na ≤ ca := by
              obtain ⟨_, _, e1, e2, -⟩ := Frm.ownsRow_form HO.out
              simp only [Value.slice.injEq] at e1
              rw [List.length_map] at e1 e2
              omega
            have hcut : ∀ w', (Instr.slice 22 (.slice pa na ca) none (some (.int .i64 (na : Int))) none).run Try.prog w' = .ok (.slice pr na ca) w' := fun w' => by
              rw [← hpr]
              exact run_cutS_h w' Try.underlying22 (by intro w; kernel_rfl) pa na ca na hca
            have HRR := Lib.hid (show Row wr (.slice pr na ca) (((cat (allF 1 T)).take na).map u8v) from by
              have h0 := HO.out.row.s
              rw [show ((cat (allF 1 T)).map u8v).length = na from by rw [List.length_map]; exact HNA.out.symm] at h0
              have := h0.cut (lo := 0) (hi := na) (Nat.zero_le _) hcE
              rw [hpr] at this
              have e : (((cat (allF 1 T)).map u8v).drop (0 * 1)).take ((na - 0) * 1) = ((cat (allF 1 T)).take na).map u8v := by simp [List.map_take]
              rw [e] at this
              exact this.row)
            have HRP := Lib.hid (replay_any (.slice pr na ca) ((cat (allF 1 T)).take na) wr (by have := HRR.out; exact this) (by rw [List.length_take]; omega))
            rw [HRC.out] at HRP
            unfold ReplayDid at HRP
            clear hpr
            go_wp2_with fail
            refine HRP.out.mono ?_
            rintro e w3 ⟨tx, X, rfl, ht, hX, hk3⟩
            have hXl : X.length = C := by
              have h1 := congrArg List.length hX
              rw [List.length_map, numd_len, List.length_take] at h1
              have := HTl.out
              omega
            obtain ⟨px, cx, rfl, -, -⟩ := Frm.ownsRow_form ht.own
            have HX := Lib.hid ht.r
            have HXE := Lib.hid hX
            have HXL := Lib.hid hXl
            have HK3 := Lib.hid (HK.out.trans hk3)
            rw [hXl] at HX ⊢
            have ee : ((E T C : Int) == (E T C : Int)) = true := by simp
            clear ht hX hXl hk3 HRP hcut
            have hC20 : C ≤ 20 := by omega
            have hcx : C ≤ cx := by
              obtain ⟨_, _, e1, e2, -⟩ := HX.out.form
              simp only [Value.slice.injEq] at e1
              have := HXL.out
              omega
            go_wp2_with fail
            go_loopw [15] (fun iv wx => ∃ q : Nat, iv = .int .i64 (q : Int) ∧ q ≤ C ∧ Hid (Keeps w3 wx)) (fun iv _ => C - (intOf iv).toNat)
            case atStart => exact ⟨0, rfl, Nat.zero_le _, Lib.hid (Keeps.refl _)⟩
            case round =>
              obtain ⟨q, rfl, hq, HQ⟩ := hrel
              by_cases hltq : q < C
              · have hqX : q < X.length := by rw [HXL.out]; exact hltq
                have hql : q < l.length := by omega
                have HKq := Lib.hid (HK3.out.trans HQ.out)
                obtain ⟨b, off, cap', hv, hc⟩ := row_cells HR.out (by rw [List.length_map]; omega)
                rw [List.length_map] at hv
                simp only [Value.slice.injEq] at hv
                obtain ⟨rfl, -, rfl⟩ := hv
                have hcell : wr.cell? ⟨b, off + q, none⟩ = some l[q].1 := by
                  have := hc.out q l[q].1 (by simp [hql])
                  rw [HKq.out.cell (p := ⟨b, off + q, none⟩) (lt_of_cell this)]
                  exact this
                have hgood := HG.out l[q] (List.getElem_mem hql)
                have HTQ := Lib.hid (show txP X[q] = (q + 1, l[q].2.map (·.2)) from by
                  have h1 := congrArg (fun z => z[q]?) HXE.out
                  simp only [List.getElem?_map, List.getElem?_eq_getElem hqX, Option.map_some] at h1
                  rw [numd_get _ 1 q (by rw [List.length_take, HTl.out]; omega)] at h1
                  simp only [Option.some.injEq] at h1
                  rw [h1, List.getElem_take, Nat.add_comm 1 q]
                  have := HT.out
                  subst this
                  simp)
                have HXq := Lib.hid (HX.out.keeps HQ.out)
                obtain ⟨pz, hpz⟩ := cutS_sl 2 px q (q + 1) cx
                rw [show q + 1 - q = 1 from by omega] at hpz
                have hcut : ∀ w', (Instr.slice 66 (.slice px C cx) (some (.int .i64 (q : Int))) (some (.int .i64 ((q : Int) + 1))) none).run Try.prog w' = .ok (.slice pz 1 (cx - q)) w' := fun w' => by
                  rw [← hpz, show ((q : Int) + 1) = ((q + 1 : Nat) : Int) from by omega]
                  exact run_cutS_lh w' Try.underlying66 (by intro w; kernel_rfl) px C cx q (q + 1) (by omega) (by omega)
                have HZ := Lib.hid (show TxsR wr (.slice pz 1 (cx - q)) [X[q]] from by
                  have h0 := HXq.out.row
                  rw [← HXL.out] at h0
                  have h1 := RowS.part txC_len h0 (lo := q) (hi := q + 1) (by omega) (by omega)
                  rw [hpz] at h1
                  have e1 : (X.drop q).take (q + 1 - q) = [X[q]] := by
                    rw [show q + 1 - q = 1 from by omega, List.drop_eq_getElem_cons hqX]
                    rfl
                  rw [e1] at h1
                  exact ⟨by simpa using h1, fun x hx => by simp only [List.mem_singleton] at hx; subst hx; exact HXq.out.its _ (List.getElem_mem hqX), fun x hx => by simp only [List.mem_singleton] at hx; subst hx; exact HXq.out.pay _ (List.getElem_mem hqX)⟩)
                have HGq := Lib.hid (show Row wr l[q].1 (l[q].2.map (·.1)) ∧ ∀ y ∈ l[q].2, payOk wr y from ⟨hgood.1.keeps HKq.out, fun y hy => (hgood.2 y hy).keeps HKq.out⟩)
                obtain ⟨fy, fc, hfy, -, -⟩ := hgood.1.form
                have hqi : (q : Int) < (C : Int) := by omega
                have hqli : (q : Int) < (l.length : Int) := by omega
                clear hc hgood hpz
                generalize X[q] = zx at *
                generalize l[q] = y at *
                obtain ⟨yv, yl⟩ := y
                simp only at hcell HTQ HGq hfy
                rw [List.length_map] at hfy
                subst hfy
                have hwq : IntKind.i64.wrap ((q : Int) + 1) = (q : Int) + 1 := by rw [IntKind.wrap_i64]; omega
                go_upto_region 32 with fail
                refine wp_region_noPanic ?_
                refine wp_region_held_drew (S := fun w' => Keeps wr w') (by kernel_rfl) ((Keeps.refl wr).drew) (fun _ => ?_)
                have hHeld : Keeps wr (wr).drew := (Keeps.refl wr).drew
                generalize World.drew wr = xs at *
                refine wpAnyH_take (i := 0) (v := ?vv14) (by rfl) (by kernel_rfl) (by kernel_rfl) (by kernel_rfl) (by intro _ _ _ h; exact h) (Or.inl ⟨by kernel_rfl, ?hy14⟩) (by assumption) ?rest14
                case hy14 =>
                  intro w' hSw
                  have hSw : Keeps wr w' := hSw
                  clear hSw
                  go_simp
                  try with_reducible rfl
                change wpAnyH _ _ _ _ _ _ _ (Act.put _ (some 115) _) _
                try simp only [Act.put, List.setIfInBounds_toArray, List.set_cons_zero, List.set_cons_succ]
                refine wpAnyH_take (i := 1) (v := ?vv15) (by rfl) (by kernel_rfl) (by kernel_rfl) (by kernel_rfl) (by intro _ _ _ h; exact h) (Or.inl ⟨by kernel_rfl, ?hy15⟩) (by assumption) ?rest15
                case hy15 =>
                  intro w' hSw
                  have hSw : Keeps wr w' := hSw
                  clear hSw
                  go_simp
                  try with_reducible rfl
                change wpAnyH _ _ _ _ _ _ _ (Act.put _ (some 116) _) _
                try simp only [Act.put, List.setIfInBounds_toArray, List.set_cons_zero, List.set_cons_succ]
                refine wpAnyH_take (i := 2) (v := ?vv16) (by rfl) (by kernel_rfl) (by kernel_rfl) (by kernel_rfl) (by intro _ _ _ h; exact h) (Or.inl ⟨by kernel_rfl, ?hy16⟩) (by assumption) ?rest16
                case hy16 =>
                  intro w' hSw
                  have hSw : Keeps wr w' := hSw
                  clear hSw
                  go_simp
                  try with_reducible rfl
                change wpAnyH _ _ _ _ _ _ _ (Act.put _ (some 117) _) _
                try simp only [Act.put, List.setIfInBounds_toArray, List.set_cons_zero, List.set_cons_succ]
                refine wpAnyH_take (i := 3) (v := ?vv17) (by rfl) (by kernel_rfl) (by kernel_rfl) (by kernel_rfl) (by intro _ _ _ h; exact h) (Or.inl ⟨by kernel_rfl, ?hy17⟩) (by assumption) ?rest17
                case hy17 =>
                  intro w' hSw
                  have hSw : Keeps wr w' := hSw
                  clear hSw
                  go_simp
                  try with_reducible rfl
                change wpAnyH _ _ _ _ _ _ _ (Act.put _ (some 118) _) _
                try simp only [Act.put, List.setIfInBounds_toArray, List.set_cons_zero, List.set_cons_succ]
                refine wpAnyH_take (i := 4) (v := ?vv18) (by rfl) (by kernel_rfl) (by kernel_rfl) (by kernel_rfl) (by intro _ _ _ h; exact h) (Or.inl ⟨by kernel_rfl, ?hy18⟩) (by assumption) ?rest18
                case hy18 =>
                  intro w' hSw
                  have hSw : Keeps wr w' := hSw
                  have hx := hcut w'
                  clear hSw
                  go_simp
                  try with_reducible rfl
                change wpAnyH _ _ _ _ _ _ _ (Act.put _ (some 119) _) _
                try simp only [Act.put, List.setIfInBounds_toArray, List.set_cons_zero, List.set_cons_succ]
                refine wpAnyH_take (i := 5) (v := ?vv19) (by rfl) (by kernel_rfl) (by kernel_rfl) (by kernel_rfl) (by intro _ _ _ h; exact h) (Or.inl ⟨by kernel_rfl, ?hy19⟩) (by assumption) ?rest19
                case hy19 =>
                  intro w' hSw
                  have hSw : Keeps wr w' := hSw
                  clear hSw
                  go_simp
                  try with_reducible rfl
                change wpAnyH _ _ _ _ _ _ _ (Act.put _ (some 120) _) _
                try simp only [Act.put, List.setIfInBounds_toArray, List.set_cons_zero, List.set_cons_succ]
                refine wpAnyH_take (i := 6) (v := ?vv20) (by rfl) (by kernel_rfl) (by kernel_rfl) (by kernel_rfl) (by intro _ _ _ h; exact h) (Or.inl ⟨by kernel_rfl, ?hy20⟩) (by assumption) ?rest20
                case hy20 =>
                  intro w' hSw
                  have hSw : Keeps wr w' := hSw
                  clear hSw
                  go_simp
                  try with_reducible rfl
                change wpAnyH _ _ _ _ _ _ _ (Act.put _ (some 121) _) _
                try simp only [Act.put, List.setIfInBounds_toArray, List.set_cons_zero, List.set_cons_succ]
                refine wpAnyH_take (i := 7) (v := ?vv21) (by rfl) (by kernel_rfl) (by kernel_rfl) (by kernel_rfl) (by intro _ _ _ h; exact h) (Or.inl ⟨by kernel_rfl, ?hy21⟩) (by assumption) ?rest21
                case hy21 =>
                  intro w' hSw
                  have hSw : Keeps wr w' := hSw
                  clear hSw
                  go_simp
                  try with_reducible rfl
                change wpAnyH _ _ _ _ _ _ _ (Act.put _ (some 122) _) _
                try simp only [Act.put, List.setIfInBounds_toArray, List.set_cons_zero, List.set_cons_succ]
                refine wpAnyH_take (i := 8) (v := ?vv22) (by rfl) (by kernel_rfl) (by kernel_rfl) (by kernel_rfl) (by intro _ _ _ h; exact h) (Or.inl ⟨by kernel_rfl, ?hy22⟩) (by assumption) ?rest22
                case hy22 =>
                  intro w' hSw
                  have hSw : Keeps wr w' := hSw
                  clear hSw
                  go_simp
                  try with_reducible rfl
                change wpAnyH _ _ _ _ _ _ _ (Act.put _ (some 123) _) _
                try simp only [Act.put, List.setIfInBounds_toArray, List.set_cons_zero, List.set_cons_succ]
                refine wpAnyH_take (i := 9) (v := ?vv23) (by rfl) (by kernel_rfl) (by kernel_rfl) (by kernel_rfl) (by intro _ _ _ h; exact h) (Or.inl ⟨by kernel_rfl, ?hy23⟩) (by assumption) ?rest23
                case hy23 =>
                  intro w' hSw
                  have hSw : Keeps wr w' := hSw
                  clear hSw
                  go_simp
                  try with_reducible rfl
                change wpAnyH _ _ _ _ _ _ _ (Act.put _ (some 124) _) _
                try simp only [Act.put, List.setIfInBounds_toArray, List.set_cons_zero, List.set_cons_succ]
                refine wpAnyH_take (i := 10) (v := ?vv24) (by rfl) (by kernel_rfl) (by kernel_rfl) (by kernel_rfl) (by intro _ _ _ h; exact h) (Or.inl ⟨by kernel_rfl, ?hy24⟩) (by assumption) ?rest24
                case hy24 =>
                  intro w' hSw
                  have hSw : Keeps wr w' := hSw
                  have hx := keep1 hSw hcell
                  clear hSw
                  go_simp
                  try with_reducible rfl
                change wpAnyH _ _ _ _ _ _ _ (Act.put _ (some 125) _) _
                try simp only [Act.put, List.setIfInBounds_toArray, List.set_cons_zero, List.set_cons_succ]
                refine wpAnyH_take (i := 11) (v := ?vv25) (by rfl) (by kernel_rfl) (by kernel_rfl) (by kernel_rfl) (by intro _ _ _ h; exact h) (Or.inl ⟨by kernel_rfl, ?hy25⟩) (by assumption) ?rest25
                case hy25 =>
                  intro w' hSw
                  have hSw : Keeps wr w' := hSw
                  clear hSw
                  go_simp
                  try with_reducible rfl
                change wpAnyH _ _ _ _ _ _ _ (Act.put _ (some 126) _) _
                try simp only [Act.put, List.setIfInBounds_toArray, List.set_cons_zero, List.set_cons_succ]
                refine wpAnyH_ready (rs := [12]) (by kernel_rfl) (by simp) ?_
                refine AllReadyH.cons (o := _) rfl (fun K hK => ?_) ?_
                · go_simp
                  obtain ⟨gq, hgq⟩ : ∃ z, z = (World.heap xs).size := ⟨_, rfl⟩
                  have HBB : Hid (Blk (World.alloc xs (.cells #[.int .i64 ((q : Int) + 1), .slice fy yl.length fc] 75)) gq 75 #[.int .i64 ((q : Int) + 1), .slice fy yl.length fc]) := Lib.hid (Blk.new _ _ _ hgq)
                  have hb := hHeld.alloc (.cells #[.int .i64 ((q : Int) + 1), .slice fy yl.length fc] 75)
                  rw [← hgq]
                  clear hgq
                  generalize World.alloc xs (.cells #[.int .i64 ((q : Int) + 1), .slice fy yl.length fc] 75) = wB at *
                  have HKB := Lib.hid hb
                  have HSM := Lib.hid (same17_any (.slice pz 1 (cx - q)) (.slice (some ⟨gq, 0, none⟩) 1 1) [zx] [(q + 1, .slice fy yl.length fc, yl)] wB (HZ.out.keeps hb) ⟨rowS_blk HBB.out, fun x hx => by simp only [List.mem_singleton] at hx; subst hx; exact HGq.out.1.keeps hb, fun x hx y hy => by simp only [List.mem_singleton] at hx; subst hx; exact (HGq.out.2 y hy).keeps hb⟩ (by rw [List.map_cons, HTQ.out]; rfl) (by simp))
                  refine hK.out _ _ hb (fun _ => ?_)
                  clear hK K hHeld
                  have hHeld : Keeps wr wB := hb
                  clear hb
                  try simp only [Act.put, List.setIfInBounds_toArray, List.set_cons_zero, List.set_cons_succ]
                  refine wpAnyH_ready (rs := [13]) (by kernel_rfl) (by simp) ?_
                  refine AllReadyH.cons (o := _) rfl (fun K hK => ?_) ?_
                  · go_simp
                    refine HSM.out.mono ?_
                    rintro e wC ⟨rfl, hk⟩
                    have HKC := Lib.hid (HKB.out.trans hk)
                    have hb := hHeld.trans hk
                    clear hk
                    go_wp2_with fail
                    refine hK.out _ _ hb (fun _ => ?_)
                    clear hK K hHeld
                    have hHeld : Keeps wr wC := hb
                    clear hb
                    try simp only [Act.put, List.setIfInBounds_toArray, List.set_cons_zero, List.set_cons_succ]
                    refine wpAnyH_take (i := 14) (v := ?vv26) (by rfl) (by kernel_rfl) (by kernel_rfl) (by kernel_rfl) (by intro _ _ _ h; exact h) (Or.inl ⟨by kernel_rfl, ?hy26⟩) (by assumption) ?rest26
                    case hy26 =>
                      intro w' hSw
                      have hSw : Keeps wr w' := hSw
                      clear hSw
                      go_simp
                      try with_reducible rfl
                    change wpAnyH _ _ _ _ _ _ _ (Act.put _ (some 129) _) _
                    try simp only [Act.put, List.setIfInBounds_toArray, List.set_cons_zero, List.set_cons_succ]
                    refine wpAnyH_done (by kernel_rfl) ?_ _
                    refine NoPanic.normal ?_
                    go_wp2_with fail
                    go_roundw
                    case rel => exact ⟨q + 1, by simp, by omega, Lib.hid (HQ.out.trans HKC.out)⟩
                    case measure =>
                      simp only [intOf]
                      omega
                  exact AllReadyH.nil
                exact AllReadyH.nil
              · have htq : decide ((q : Int) < (C : Int)) = false := by simp; omega
                go_wp2_with fail
                go_ret
                exact ⟨rfl, HK3.out.trans HQ.out⟩
      obtain ⟨CC, rfl⟩ := Int.eq_ofNat_of_zero_le (show 0 ≤ cut by omega)
      have hcE : CC ≤ na := by omega
      obtain ⟨C, hC⟩ : ∃ C, C = cntB 1 T CC := ⟨_, rfl⟩
      have hCT : C ≤ l.length := by rw [hC, ← HTl.out]; exact cntB_le _ _ _
      have HCI := Lib.hid (show ∀ i, i < T.length → (E T (i + 1) ≤ CC ↔ i < C) from fun i hi => by rw [hC]; exact ends_cnt T 1 CC i hi)
      have HRC := Lib.hid (show replayF (rowR ((cat (allF 1 T)).take CC)).1 = (numd 1 (T.take C), (E T C : Int)) from by
        rw [hC]
        exact rep_cut T HTO.out (by rw [HTl.out]; omega) CC (by rw [← HNA.out]; exact hcE))
      clear hC
      have HECl := Lib.hid (show E T C ≤ na from by
        have := E_mono (T := T) hCT
        rw [HNA.out]
        unfold E at this ⊢
        rw [← HTl.out, List.take_length] at this
        exact this)
      go_wp2_with fail
      go_loopw [10, 11, 12] (fun cv uv iv wx => ∃ (i m : Nat), iv = .int .i64 (i : Int) ∧ i ≤ l.length ∧ m = min i C ∧ cv = .int .i64 (m : Int) ∧ uv = .int .i64 (E T m : Int) ∧ wx = wr) (fun _ _ iv _ => l.length - (intOf iv).toNat)
      case atStart => exact ⟨0, 0, rfl, Nat.zero_le _, by omega, rfl, by simp [E, allF, cat], rfl⟩
      case round =>
        obtain ⟨i, m, rfl, hi, hm, rfl, rfl, rfl⟩ := hrel
        by_cases hlti : i < l.length
        · obtain ⟨eb, eo, ec, hve, hce⟩ := row_cells HE.out.row (by simp [endsV]; omega)
          have hel : (endsV T l.length).length = l.length := by simp [endsV]
          rw [hel] at hve
          simp only [Value.slice.injEq] at hve
          obtain ⟨rfl, -, rfl⟩ := hve
          have hec := hce.out i (.int .i64 (E T (i + 1) : Int)) (by unfold endsV; simp [hlti])
          have hiff := HCI.out i (by rw [HTl.out]; exact hlti)
          have HEB := Lib.hid (show E T (i + 1) ≤ na from by
            have := E_mono (T := T) (show i + 1 ≤ l.length by omega)
            rw [HNA.out]
            unfold E at this ⊢
            rw [← HTl.out, List.take_length] at this
            exact this)
          have hii : (i : Int) < (l.length : Int) := by omega
          clear hce hel
          by_cases hiC : i < C
          · have t1 : decide ((E T (i + 1) : Int) ≤ (CC : Int)) = true := by have := hiff.2 hiC; simp; omega
            have t2 : decide (E T (i + 1) ≤ CC) = true := by have := hiff.2 hiC; simp; omega
            have HM := Lib.hid (show min (i + 1) C = i + 1 from by omega)
            clear hiff hm
            go_wp2_with fail
            go_roundw
            case rel => exact ⟨i + 1, i + 1, by simp, by omega, by rw [HM.out], by simp, rfl, trivial⟩
            case measure =>
              simp only [intOf]
              omega
          · have t1 : decide ((E T (i + 1) : Int) ≤ (CC : Int)) = false := by have := mt hiff.1 hiC; simp; omega
            have t2 : decide (E T (i + 1) ≤ CC) = false := by have := mt hiff.1 hiC; simp; omega
            have HM := Lib.hid (show m = min (i + 1) C from by omega)
            clear hiff hm
            go_wp2_with fail
            go_roundw
            case rel => exact ⟨i + 1, m, by simp, by omega, HM.out, rfl, rfl, trivial⟩
            case measure =>
              simp only [intOf]
              omega
        · have hmC : C = m := by omega
          have hti : decide ((i : Int) < (l.length : Int)) = false := by simp; omega
          subst hmC
          clear hm
          obtain ⟨pr, hpr⟩ := cutS_sl 1 pa 0 CC ca
          rw [Nat.sub_zero, Nat.sub_zero] at hpr
          have hca : CC ≤ ca := by
            obtain ⟨_, _, e1, e2, -⟩ := Frm.ownsRow_form HO.out
            simp only [Value.slice.injEq] at e1
            rw [List.length_map] at e1 e2
            omega
          have hcut : ∀ w', (Instr.slice 22 (.slice pa na ca) none (some (.int .i64 (CC : Int))) none).run Try.prog w' = .ok (.slice pr CC ca) w' := fun w' => by
            rw [← hpr]
            exact run_cutS_h w' Try.underlying22 (by intro w; kernel_rfl) pa na ca CC hca
          have HRR := Lib.hid (show Row wr (.slice pr CC ca) (((cat (allF 1 T)).take CC).map u8v) from by
            have h0 := HO.out.row.s
            rw [show ((cat (allF 1 T)).map u8v).length = na from by rw [List.length_map]; exact HNA.out.symm] at h0
            have := h0.cut (lo := 0) (hi := CC) (Nat.zero_le _) hcE
            rw [hpr] at this
            have e : (((cat (allF 1 T)).map u8v).drop (0 * 1)).take ((CC - 0) * 1) = ((cat (allF 1 T)).take CC).map u8v := by simp [List.map_take]
            rw [e] at this
            exact this.row)
          have HRP := Lib.hid (replay_any (.slice pr CC ca) ((cat (allF 1 T)).take CC) wr (by have := HRR.out; exact this) (by rw [List.length_take]; omega))
          rw [HRC.out] at HRP
          unfold ReplayDid at HRP
          clear hpr
          go_wp2_with fail
          refine HRP.out.mono ?_
          rintro e w3 ⟨tx, X, rfl, ht, hX, hk3⟩
          have hXl : X.length = C := by
            have h1 := congrArg List.length hX
            rw [List.length_map, numd_len, List.length_take] at h1
            have := HTl.out
            omega
          obtain ⟨px, cx, rfl, -, -⟩ := Frm.ownsRow_form ht.own
          have HX := Lib.hid ht.r
          have HXE := Lib.hid hX
          have HXL := Lib.hid hXl
          have HK3 := Lib.hid (HK.out.trans hk3)
          rw [hXl] at HX ⊢
          have ee : ((E T C : Int) == (E T C : Int)) = true := by simp
          clear ht hX hXl hk3 HRP hcut
          have hC20 : C ≤ 20 := by omega
          have hcx : C ≤ cx := by
            obtain ⟨_, _, e1, e2, -⟩ := HX.out.form
            simp only [Value.slice.injEq] at e1
            have := HXL.out
            omega
          go_wp2_with fail
          go_loopw [15] (fun iv wx => ∃ q : Nat, iv = .int .i64 (q : Int) ∧ q ≤ C ∧ Hid (Keeps w3 wx)) (fun iv _ => C - (intOf iv).toNat)
          case atStart => exact ⟨0, rfl, Nat.zero_le _, Lib.hid (Keeps.refl _)⟩
          case round =>
            obtain ⟨q, rfl, hq, HQ⟩ := hrel
            by_cases hltq : q < C
            · have hqX : q < X.length := by rw [HXL.out]; exact hltq
              have hql : q < l.length := by omega
              have HKq := Lib.hid (HK3.out.trans HQ.out)
              obtain ⟨b, off, cap', hv, hc⟩ := row_cells HR.out (by rw [List.length_map]; omega)
              rw [List.length_map] at hv
              simp only [Value.slice.injEq] at hv
              obtain ⟨rfl, -, rfl⟩ := hv
              have hcell : wr.cell? ⟨b, off + q, none⟩ = some l[q].1 := by
                have := hc.out q l[q].1 (by simp [hql])
                rw [HKq.out.cell (p := ⟨b, off + q, none⟩) (lt_of_cell this)]
                exact this
              have hgood := HG.out l[q] (List.getElem_mem hql)
              have HTQ := Lib.hid (show txP X[q] = (q + 1, l[q].2.map (·.2)) from by
                have h1 := congrArg (fun z => z[q]?) HXE.out
                simp only [List.getElem?_map, List.getElem?_eq_getElem hqX, Option.map_some] at h1
                rw [numd_get _ 1 q (by rw [List.length_take, HTl.out]; omega)] at h1
                simp only [Option.some.injEq] at h1
                rw [h1, List.getElem_take, Nat.add_comm 1 q]
                have := HT.out
                subst this
                simp)
              have HXq := Lib.hid (HX.out.keeps HQ.out)
              obtain ⟨pz, hpz⟩ := cutS_sl 2 px q (q + 1) cx
              rw [show q + 1 - q = 1 from by omega] at hpz
              have hcut : ∀ w', (Instr.slice 66 (.slice px C cx) (some (.int .i64 (q : Int))) (some (.int .i64 ((q : Int) + 1))) none).run Try.prog w' = .ok (.slice pz 1 (cx - q)) w' := fun w' => by
                rw [← hpz, show ((q : Int) + 1) = ((q + 1 : Nat) : Int) from by omega]
                exact run_cutS_lh w' Try.underlying66 (by intro w; kernel_rfl) px C cx q (q + 1) (by omega) (by omega)
              have HZ := Lib.hid (show TxsR wr (.slice pz 1 (cx - q)) [X[q]] from by
                have h0 := HXq.out.row
                rw [← HXL.out] at h0
                have h1 := RowS.part txC_len h0 (lo := q) (hi := q + 1) (by omega) (by omega)
                rw [hpz] at h1
                have e1 : (X.drop q).take (q + 1 - q) = [X[q]] := by
                  rw [show q + 1 - q = 1 from by omega, List.drop_eq_getElem_cons hqX]
                  rfl
                rw [e1] at h1
                exact ⟨by simpa using h1, fun x hx => by simp only [List.mem_singleton] at hx; subst hx; exact HXq.out.its _ (List.getElem_mem hqX), fun x hx => by simp only [List.mem_singleton] at hx; subst hx; exact HXq.out.pay _ (List.getElem_mem hqX)⟩)
              have HGq := Lib.hid (show Row wr l[q].1 (l[q].2.map (·.1)) ∧ ∀ y ∈ l[q].2, payOk wr y from ⟨hgood.1.keeps HKq.out, fun y hy => (hgood.2 y hy).keeps HKq.out⟩)
              obtain ⟨fy, fc, hfy, -, -⟩ := hgood.1.form
              have hqi : (q : Int) < (C : Int) := by omega
              have hqli : (q : Int) < (l.length : Int) := by omega
              clear hc hgood hpz
              generalize X[q] = zx at *
              generalize l[q] = y at *
              obtain ⟨yv, yl⟩ := y
              simp only at hcell HTQ HGq hfy
              rw [List.length_map] at hfy
              subst hfy
              have hwq : IntKind.i64.wrap ((q : Int) + 1) = (q : Int) + 1 := by rw [IntKind.wrap_i64]; omega
              go_upto_region 32 with fail
              refine wp_region_noPanic ?_
              refine wp_region_held_drew (S := fun w' => Keeps wr w') (by kernel_rfl) ((Keeps.refl wr).drew) (fun _ => ?_)
              have hHeld : Keeps wr (wr).drew := (Keeps.refl wr).drew
              generalize World.drew wr = xs at *
              refine wpAnyH_take (i := 0) (v := ?vv27) (by rfl) (by kernel_rfl) (by kernel_rfl) (by kernel_rfl) (by intro _ _ _ h; exact h) (Or.inl ⟨by kernel_rfl, ?hy27⟩) (by assumption) ?rest27
              case hy27 =>
                intro w' hSw
                have hSw : Keeps wr w' := hSw
                clear hSw
                go_simp
                try with_reducible rfl
              change wpAnyH _ _ _ _ _ _ _ (Act.put _ (some 115) _) _
              try simp only [Act.put, List.setIfInBounds_toArray, List.set_cons_zero, List.set_cons_succ]
              refine wpAnyH_take (i := 1) (v := ?vv28) (by rfl) (by kernel_rfl) (by kernel_rfl) (by kernel_rfl) (by intro _ _ _ h; exact h) (Or.inl ⟨by kernel_rfl, ?hy28⟩) (by assumption) ?rest28
              case hy28 =>
                intro w' hSw
                have hSw : Keeps wr w' := hSw
                clear hSw
                go_simp
                try with_reducible rfl
              change wpAnyH _ _ _ _ _ _ _ (Act.put _ (some 116) _) _
              try simp only [Act.put, List.setIfInBounds_toArray, List.set_cons_zero, List.set_cons_succ]
              refine wpAnyH_take (i := 2) (v := ?vv29) (by rfl) (by kernel_rfl) (by kernel_rfl) (by kernel_rfl) (by intro _ _ _ h; exact h) (Or.inl ⟨by kernel_rfl, ?hy29⟩) (by assumption) ?rest29
              case hy29 =>
                intro w' hSw
                have hSw : Keeps wr w' := hSw
                clear hSw
                go_simp
                try with_reducible rfl
              change wpAnyH _ _ _ _ _ _ _ (Act.put _ (some 117) _) _
              try simp only [Act.put, List.setIfInBounds_toArray, List.set_cons_zero, List.set_cons_succ]
              refine wpAnyH_take (i := 3) (v := ?vv30) (by rfl) (by kernel_rfl) (by kernel_rfl) (by kernel_rfl) (by intro _ _ _ h; exact h) (Or.inl ⟨by kernel_rfl, ?hy30⟩) (by assumption) ?rest30
              case hy30 =>
                intro w' hSw
                have hSw : Keeps wr w' := hSw
                clear hSw
                go_simp
                try with_reducible rfl
              change wpAnyH _ _ _ _ _ _ _ (Act.put _ (some 118) _) _
              try simp only [Act.put, List.setIfInBounds_toArray, List.set_cons_zero, List.set_cons_succ]
              refine wpAnyH_take (i := 4) (v := ?vv31) (by rfl) (by kernel_rfl) (by kernel_rfl) (by kernel_rfl) (by intro _ _ _ h; exact h) (Or.inl ⟨by kernel_rfl, ?hy31⟩) (by assumption) ?rest31
              case hy31 =>
                intro w' hSw
                have hSw : Keeps wr w' := hSw
                have hx := hcut w'
                clear hSw
                go_simp
                try with_reducible rfl
              change wpAnyH _ _ _ _ _ _ _ (Act.put _ (some 119) _) _
              try simp only [Act.put, List.setIfInBounds_toArray, List.set_cons_zero, List.set_cons_succ]
              refine wpAnyH_take (i := 5) (v := ?vv32) (by rfl) (by kernel_rfl) (by kernel_rfl) (by kernel_rfl) (by intro _ _ _ h; exact h) (Or.inl ⟨by kernel_rfl, ?hy32⟩) (by assumption) ?rest32
              case hy32 =>
                intro w' hSw
                have hSw : Keeps wr w' := hSw
                clear hSw
                go_simp
                try with_reducible rfl
              change wpAnyH _ _ _ _ _ _ _ (Act.put _ (some 120) _) _
              try simp only [Act.put, List.setIfInBounds_toArray, List.set_cons_zero, List.set_cons_succ]
              refine wpAnyH_take (i := 6) (v := ?vv33) (by rfl) (by kernel_rfl) (by kernel_rfl) (by kernel_rfl) (by intro _ _ _ h; exact h) (Or.inl ⟨by kernel_rfl, ?hy33⟩) (by assumption) ?rest33
              case hy33 =>
                intro w' hSw
                have hSw : Keeps wr w' := hSw
                clear hSw
                go_simp
                try with_reducible rfl
              change wpAnyH _ _ _ _ _ _ _ (Act.put _ (some 121) _) _
              try simp only [Act.put, List.setIfInBounds_toArray, List.set_cons_zero, List.set_cons_succ]
              refine wpAnyH_take (i := 7) (v := ?vv34) (by rfl) (by kernel_rfl) (by kernel_rfl) (by kernel_rfl) (by intro _ _ _ h; exact h) (Or.inl ⟨by kernel_rfl, ?hy34⟩) (by assumption) ?rest34
              case hy34 =>
                intro w' hSw
                have hSw : Keeps wr w' := hSw
                clear hSw
                go_simp
                try with_reducible rfl
              change wpAnyH _ _ _ _ _ _ _ (Act.put _ (some 122) _) _
              try simp only [Act.put, List.setIfInBounds_toArray, List.set_cons_zero, List.set_cons_succ]
              refine wpAnyH_take (i := 8) (v := ?vv35) (by rfl) (by kernel_rfl) (by kernel_rfl) (by kernel_rfl) (by intro _ _ _ h; exact h) (Or.inl ⟨by kernel_rfl, ?hy35⟩) (by assumption) ?rest35
              case hy35 =>
                intro w' hSw
                have hSw : Keeps wr w' := hSw
                clear hSw
                go_simp
                try with_reducible rfl
              change wpAnyH _ _ _ _ _ _ _ (Act.put _ (some 123) _) _
              try simp only [Act.put, List.setIfInBounds_toArray, List.set_cons_zero, List.set_cons_succ]
              refine wpAnyH_take (i := 9) (v := ?vv36) (by rfl) (by kernel_rfl) (by kernel_rfl) (by kernel_rfl) (by intro _ _ _ h; exact h) (Or.inl ⟨by kernel_rfl, ?hy36⟩) (by assumption) ?rest36
              case hy36 =>
                intro w' hSw
                have hSw : Keeps wr w' := hSw
                clear hSw
                go_simp
                try with_reducible rfl
              change wpAnyH _ _ _ _ _ _ _ (Act.put _ (some 124) _) _
              try simp only [Act.put, List.setIfInBounds_toArray, List.set_cons_zero, List.set_cons_succ]
              refine wpAnyH_take (i := 10) (v := ?vv37) (by rfl) (by kernel_rfl) (by kernel_rfl) (by kernel_rfl) (by intro _ _ _ h; exact h) (Or.inl ⟨by kernel_rfl, ?hy37⟩) (by assumption) ?rest37
              case hy37 =>
                intro w' hSw
                have hSw : Keeps wr w' := hSw
                have hx := keep1 hSw hcell
                clear hSw
                go_simp
                try with_reducible rfl
              change wpAnyH _ _ _ _ _ _ _ (Act.put _ (some 125) _) _
              try simp only [Act.put, List.setIfInBounds_toArray, List.set_cons_zero, List.set_cons_succ]
              refine wpAnyH_take (i := 11) (v := ?vv38) (by rfl) (by kernel_rfl) (by kernel_rfl) (by kernel_rfl) (by intro _ _ _ h; exact h) (Or.inl ⟨by kernel_rfl, ?hy38⟩) (by assumption) ?rest38
              case hy38 =>
                intro w' hSw
                have hSw : Keeps wr w' := hSw
                clear hSw
                go_simp
                try with_reducible rfl
              change wpAnyH _ _ _ _ _ _ _ (Act.put _ (some 126) _) _
              try simp only [Act.put, List.setIfInBounds_toArray, List.set_cons_zero, List.set_cons_succ]
              refine wpAnyH_ready (rs := [12]) (by kernel_rfl) (by simp) ?_
              refine AllReadyH.cons (o := _) rfl (fun K hK => ?_) ?_
              · go_simp
                obtain ⟨gq, hgq⟩ : ∃ z, z = (World.heap xs).size := ⟨_, rfl⟩
                have HBB : Hid (Blk (World.alloc xs (.cells #[.int .i64 ((q : Int) + 1), .slice fy yl.length fc] 75)) gq 75 #[.int .i64 ((q : Int) + 1), .slice fy yl.length fc]) := Lib.hid (Blk.new _ _ _ hgq)
                have hb := hHeld.alloc (.cells #[.int .i64 ((q : Int) + 1), .slice fy yl.length fc] 75)
                rw [← hgq]
                clear hgq
                generalize World.alloc xs (.cells #[.int .i64 ((q : Int) + 1), .slice fy yl.length fc] 75) = wB at *
                have HKB := Lib.hid hb
                have HSM := Lib.hid (same17_any (.slice pz 1 (cx - q)) (.slice (some ⟨gq, 0, none⟩) 1 1) [zx] [(q + 1, .slice fy yl.length fc, yl)] wB (HZ.out.keeps hb) ⟨rowS_blk HBB.out, fun x hx => by simp only [List.mem_singleton] at hx; subst hx; exact HGq.out.1.keeps hb, fun x hx y hy => by simp only [List.mem_singleton] at hx; subst hx; exact (HGq.out.2 y hy).keeps hb⟩ (by rw [List.map_cons, HTQ.out]; rfl) (by simp))
                refine hK.out _ _ hb (fun _ => ?_)
                clear hK K hHeld
                have hHeld : Keeps wr wB := hb
                clear hb
                try simp only [Act.put, List.setIfInBounds_toArray, List.set_cons_zero, List.set_cons_succ]
                refine wpAnyH_ready (rs := [13]) (by kernel_rfl) (by simp) ?_
                refine AllReadyH.cons (o := _) rfl (fun K hK => ?_) ?_
                · go_simp
                  refine HSM.out.mono ?_
                  rintro e wC ⟨rfl, hk⟩
                  have HKC := Lib.hid (HKB.out.trans hk)
                  have hb := hHeld.trans hk
                  clear hk
                  go_wp2_with fail
                  refine hK.out _ _ hb (fun _ => ?_)
                  clear hK K hHeld
                  have hHeld : Keeps wr wC := hb
                  clear hb
                  try simp only [Act.put, List.setIfInBounds_toArray, List.set_cons_zero, List.set_cons_succ]
                  refine wpAnyH_take (i := 14) (v := ?vv39) (by rfl) (by kernel_rfl) (by kernel_rfl) (by kernel_rfl) (by intro _ _ _ h; exact h) (Or.inl ⟨by kernel_rfl, ?hy39⟩) (by assumption) ?rest39
                  case hy39 =>
                    intro w' hSw
                    have hSw : Keeps wr w' := hSw
                    clear hSw
                    go_simp
                    try with_reducible rfl
                  change wpAnyH _ _ _ _ _ _ _ (Act.put _ (some 129) _) _
                  try simp only [Act.put, List.setIfInBounds_toArray, List.set_cons_zero, List.set_cons_succ]
                  refine wpAnyH_done (by kernel_rfl) ?_ _
                  refine NoPanic.normal ?_
                  go_wp2_with fail
                  go_roundw
                  case rel => exact ⟨q + 1, by simp, by omega, Lib.hid (HQ.out.trans HKC.out)⟩
                  case measure =>
                    simp only [intOf]
                    omega
                exact AllReadyH.nil
              exact AllReadyH.nil
            · have htq : decide ((q : Int) < (C : Int)) = false := by simp; omega
              go_wp2_with fail
              go_ret
              exact ⟨rfl, HK3.out.trans HQ.out⟩
end Txl
end Go.Proofs.Ytchjncnolmiejaa

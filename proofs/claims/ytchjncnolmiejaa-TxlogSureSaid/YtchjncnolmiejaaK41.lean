/- Several texts in one: TxReplay, TxSame. -/
import Derived.Test.YtchjncnolmiejaaK40
import Derived.Deep.LoopGhost
/- txlog.Replay. -/
namespace Go.Proofs.Ytchjncnolmiejaa
open Go.RowKit
namespace Txl
open Oct Frm
theorem rowS_of {w : World} {base C n : Nat} {e : TypeId} {v : Value} {xs : List Value} (h : w.ownsRow base e C v n xs) : RowS w C v n xs := by
  refine ⟨h.1, ?_⟩
  rcases h.2 with ⟨rfl, rfl⟩ | ⟨q, cap, cur, rfl, _, hgg, h1, h2, h3, h4⟩
  · exact .inl ⟨none, 0, rfl, rfl, Nat.zero_le _, fun _ => rfl⟩
  · refine .inr ⟨q, 0, cap, rfl, h1, h2, fun i x hx => ?_⟩
    have hc := World.ownsRow.cells (h := h) (g := q) rfl i x hx
    rw [Go.WideShapes.add_plain] at hc
    exact hc
theorem FrmsR.of {w : World} {base : Nat} {v : Value} {l : List (Fr1 × Value)} (h : FramesAt w base v l) (hl : ∀ x ∈ l, x.1.pay.length ≤ 35184372088832) : FrmsR w base v l := ⟨rowS_of h.own, h.pay, hl, fun b off n cap hv hn => by
  rcases h.own.2 with ⟨e, _⟩ | ⟨q, cap', cur, e, _, hgg, _⟩
  · rw [e] at hv; simp at hv
  · rw [e] at hv
    simp only [Value.slice.injEq, Option.some.injEq, Addr.mk.injEq] at hv
    obtain ⟨⟨rfl, -, -⟩, -, -⟩ := hv
    exact ⟨_, _, hgg⟩⟩
/-- a transaction in memory: its number, its items' slice, the items' slices and bytes -/
abbrev TxX := Nat × Value × List (Value × Item)
def txC (x : TxX) : List Value := [.int .i64 (x.1 : Int), x.2.1]
theorem txC_len (x : TxX) : (txC x).length = 2 := rfl
def txP (x : TxX) : Nat × List Item := (x.1, x.2.2.map (·.2))
theorem txok : ElemOkS Try.prog 66 75 2 32 := elemOkS (z := .agg #[.int .i64 0, .slice none 0 0]) Try.underlying66 (by kernel_rfl) rfl
structure TxsAt (w : World) (base : Nat) (v : Value) (X : List TxX) : Prop where
  own : w.ownsRow base 75 2 v X.length (X.flatMap txC)
  its : ∀ x ∈ X, Own w base 22 x.2.1 (x.2.2.map (·.1))
  pay : ∀ x ∈ X, ∀ y ∈ x.2.2, Piece w base 5 y.1 (y.2.map u8v)
section
variable {w w' : World} {base : Nat} {v : Value} {X : List TxX}
theorem TxsAt.nil (w : World) (base : Nat) : TxsAt w base (.slice none 0 0) [] := ⟨World.ownsRow_nil w base _ 2, by simp, by simp⟩
theorem TxsAt.keeps (h : TxsAt w base v X) (k : Keeps w w') : TxsAt w' base v X := ⟨ownsRow_keeps h.own k, fun x hx => (h.its x hx).keeps k, fun x hx y hy => (h.pay x hx y hy).keeps k⟩
theorem own_modsT {T : Nat → Prop} {e : TypeId} {l : List Value} (h : Own w base e v l) (k : Mods T w w') (hn : ∀ x, T x → ∀ cs fr, w.heap[x]? ≠ some (.cells cs e fr)) : Own w' base e v l := by
  refine ownsRow_mods h k (fun x hx hs => ?_)
  rcases h.2 with ⟨rfl, _⟩ | ⟨q, cap, cur, rfl, _, hgg, _⟩
  · simp [Value.ownBlock] at hx
  · simp [Value.ownBlock] at hx
    subst hx
    exact hn _ hs _ _ hgg
/-- behind an append of one transaction -/
theorem TxsAt.snoc {v' : Value} {x : TxX} (h : TxsAt w base v X) (hi : Own w base 22 x.2.1 (x.2.2.map (·.1))) (hp : ∀ y ∈ x.2.2, Piece w base 5 y.1 (y.2.map u8v)) (ho : w'.ownsRow base 75 2 v' (X.length + 1) (X.flatMap txC ++ txC x)) (hg : w.grownBy w' v.ownBlock) : TxsAt w' base v' (X ++ [x]) := by
  have hM : Mods (fun x => v.ownBlock = some x) w w' := (Mods.refl _ w).grown hg (fun k hk _ => hk)
  have hty := ownsRow_ty (e' := 5) h.own (by decide)
  have hty2 := ownsRow_ty (e' := 22) h.own (by decide)
  refine ⟨by simpa using ho, ?_, ?_⟩
  · intro z hz
    rcases List.mem_append.1 hz with hz | hz
    · exact own_modsT (h.its z hz) hM hty2
    · simp at hz
      subst hz
      exact own_modsT hi hM hty2
  · intro z hz y hy
    rcases List.mem_append.1 hz with hz | hz
    · exact (h.pay z hz y hy).modsT hM hty
    · simp at hz
      subst hz
      exact (hp y hy).modsT hM hty
theorem TxsAt.one (h : TxsAt w base v X) : ∀ u ∈ X.flatMap txC, u.oneCell' = true := fun u hu => by
  obtain ⟨x, hx, hq⟩ := List.mem_flatMap.1 hu
  simp [txC] at hq
  rcases hq with rfl | rfl
  · rfl
  · obtain ⟨p, n, c, e⟩ := (h.its x hx).sl
    rw [e]
    rfl
end
def ReplayDid (W : World) (r : List (Nat × List Item) × Int) (e : Ending) (w' : World) : Prop := ∃ v X, e = .returned (.tuple #[v, .int .i64 r.2]) ∧ TxsAt w' W.heap.size v X ∧ X.map txP = r.1 ∧ Keeps W w'
set_option maxRecDepth 100000 in
set_option maxHeartbeats 4000000 in
theorem replay_any (v : Value) (l : List UInt8) (w : World) (hr : Row w v (l.map u8v)) (hl : l.length ≤ 549755813887) : Calls Try.prog 37 #[v] w (ReplayDid w (replayF (rowR l).1)) := by
  obtain ⟨p, cap, rfl, hc1, hc2⟩ := hr.formB
  have HRO := Lib.hid (row_any _ l w hr (by omega))
  obtain ⟨ha1, ha2, ha3⟩ := rowR_all l
  have HA := Lib.hid ha1
  clear hr ha1
  generalize (rowR l).1 = fs0 at *
  obtain ⟨N, hN⟩ : ∃ N, N = fs0.length := ⟨_, rfl⟩
  have HRF := Lib.hid (show replayF fs0 = replayN N 1 fs0 from by rw [hN]; rfl)
  go_enter Try.func37, Try.ntmps37
  go_wp2_with fail
  unfold RowDid at HRO
  refine HRO.out.mono ?_
  rintro e w1 ⟨v1, fl, rfl, hf, hfe, hk1⟩
  subst hfe
  have HF1 := Lib.hid (FrmsR.of hf (fun x hx => by have := (HA.out x.1 (List.mem_map.2 ⟨x, hx, rfl⟩)).2; omega))
  have HK1 := Lib.hid hk1
  obtain ⟨p1, c1, rfl, -, -⟩ := FrmsR.form HF1.out
  rw [List.length_map] at hN ha3
  have hNl : N ≤ 549755813887 := by omega
  clear hf hk1 HRO
  go_wp2_with fail
  have HIN := Lib.hid (show (∀ x ∈ fl, 0 ≤ x.1.len) ∧ (0 : Int) + lenS (fl.map (·.1)) ≤ (l.length : Int) ∧ 0 + fl.length ≤ N ∧ replayF (fl.map (·.1)) = ([].map txP ++ (replayN N 1 (fl.map (·.1))).1, 0 + (replayN N 1 (fl.map (·.1))).2) from
    ⟨fun x hx => (HA.out x.1 (List.mem_map.2 ⟨x, hx, rfl⟩)).1, by omega, by omega, by rw [HRF.out]; simp⟩)
  go_loopg [2, 3, 4] N (fun gk lv uv fv wr => ∃ (X : List TxX) (px : Option Addr) (cx : Nat) (u : Int) (fs : List (Fr1 × Value)) (pf : Option Addr) (cf : Nat), lv = .slice px X.length cx ∧ uv = .int .i64 u ∧ fv = .slice pf fs.length cf ∧ 0 ≤ u ∧ X.length ≤ N ∧ fs.length ≤ gk ∧ Hid (TxsAt wr w.heap.size (.slice px X.length cx) X) ∧ Hid (FrmsR wr w.heap.size (.slice pf fs.length cf) fs) ∧ Hid (Keeps w wr) ∧ Hid ((∀ x ∈ fs, 0 ≤ x.1.len) ∧ u + lenS (fs.map (·.1)) ≤ (l.length : Int) ∧ X.length + fs.length ≤ N ∧ replayF (fl.map (·.1)) = (X.map txP ++ (replayN gk (X.length + 1) (fs.map (·.1))).1, u + (replayN gk (X.length + 1) (fs.map (·.1))).2)))
  case atStart => exact ⟨[], none, 0, 0, fl, p1, c1, rfl, rfl, rfl, by omega, Nat.zero_le _, by omega, Lib.hid (TxsAt.nil _ _), HF1, HK1, HIN⟩
  case round =>
    clear HF1 HK1 HIN HA HRF ha2 ha3 hN
    obtain ⟨X, px, cx, u, fs, pf, cf, rfl, rfl, rfl, hu, hX, hgk, HX, HF, HK, HI⟩ := hrel
    have HC := Lib.hid (one_any (X.length + 1) (by omega) fs (.slice pf fs.length cf) w.heap.size wr HF.out (by have := HI.out.2.2.1; omega))
    rw [show ((X.length + 1 : Nat) : Int) = (X.length : Int) + 1 from by omega] at HC
    cases hone : oneK (X.length + 1) (fs.map (·.1)) with
    | none =>
      rw [hone] at HC
      have HE := Lib.hid (show replayF (fl.map (·.1)) = (X.map txP, u) from by rw [HI.out.2.2.2, replayN_none hone]; simp)
      unfold OneDid at HC
      clear hone
      go_wp2_with fail
      refine HC.out.mono ?_
      rintro e w2 ⟨hk, rfl⟩
      have HK2 := Lib.hid (HK.out.trans hk)
      have HX2 := Lib.hid (HX.out.keeps hk)
      clear hk HC
      go_wp2_with fail
      go_ret2
      rw [HE.out]
      exact ⟨_, X, rfl, HX2.out.keeps ((Keeps.refl _).alloc _), rfl, HK2.out.alloc _⟩
    | some c =>
      rw [hone] at HC
      obtain ⟨hcl, hc1000⟩ := oneK_len hone
      rw [List.length_map] at hcl
      obtain ⟨k', rfl⟩ : ∃ k', gk = k' + 1 := ⟨gk - 1, by omega⟩
      have HI2 := Lib.hid (show replayF (fl.map (·.1)) = (X.map txP ++ ((X.length + 1, (((fs.map (·.1)).drop 1).take c).map (·.pay)) :: (replayN k' (X.length + 1 + 1) ((fs.map (·.1)).drop (c + 2))).1), u + (lenS ((fs.map (·.1)).take (c + 2)) + (replayN k' (X.length + 1 + 1) ((fs.map (·.1)).drop (c + 2))).2)) from by rw [HI.out.2.2.2, replayN_some hone])
      have HB := Lib.hid (show 0 ≤ lenS ((fs.map (·.1)).take (c + 2)) ∧ u + lenS ((fs.map (·.1)).take (c + 2)) + lenS ((fs.map (·.1)).drop (c + 2)) ≤ (l.length : Int) ∧ 0 ≤ lenS ((fs.map (·.1)).drop (c + 2)) from by
        have h1 := lenS_split (fs.map (·.1)) (c + 2)
        have h2 := HI.out.2.1
        refine ⟨lenS_nn (fun f hf => ?_), by omega, lenS_nn (fun f hf => ?_)⟩
        · obtain ⟨x, hx, rfl⟩ := List.mem_map.1 (List.mem_of_mem_take hf)
          exact HI.out.1 x hx
        · obtain ⟨x, hx, rfl⟩ := List.mem_map.1 (List.mem_of_mem_drop hf)
          exact HI.out.1 x hx)
      unfold OneDid at HC
      clear hone
      go_wp2_with fail
      refine HC.out.mono ?_
      rintro e w2 ⟨hk, iv, rfl, ho⟩
      have HK2 := Lib.hid (HK.out.trans hk)
      have HX2 := Lib.hid (HX.out.keeps hk)
      have HF2 := Lib.hid (HF.out.keeps hk)
      have HO2 := Lib.hid (show Own w2 w.heap.size 22 iv (((fs.drop 1).take c).map (·.2)) from ho.lower HK.out.size)
      obtain ⟨pi, ni, ci, rfl⟩ := ho.sl
      clear hk ho HC
      have hXn : X.length + c + 2 ≤ N := by have := HI.out.2.2.1; omega
      go_upto_region 5 with fail
      generalize hW : World.alloc w2 _ = w3
      have hk3 : Keeps w2 w3 := by rw [← hW]; exact (Keeps.refl _).alloc _
      have HQ3 := Lib.hid (show Blk w3 w2.heap.size 75 #[.int .i64 ((X.length : Int) + 1), .slice pi ni ci] from by rw [← hW]; exact Blk.new _ _ _ rfl)
      have HK3 := Lib.hid (HK2.out.trans hk3)
      have HX3 := Lib.hid (HX2.out.keeps hk3)
      have HF3 := Lib.hid (HF2.out.keeps hk3)
      have HO3 := Lib.hid (HO2.out.keeps hk3)
      clear hW hk3
      obtain ⟨q, hq⟩ : ∃ q, q = w2.heap.size := ⟨_, rfl⟩
      rw [← hq] at HQ3 ⊢
      clear hq HK2 HX2 HF2 HO2
      have q0 : w3.cell? ⟨q, 0, none⟩ = some (.int .i64 ((X.length : Int) + 1)) := by rw [HQ3.out.cell]; rfl
      have q1 : w3.cell? ⟨q, 1, none⟩ = some (.slice pi ni ci) := by rw [HQ3.out.cell]; rfl
      have hs3 := HK3.out.size
      obtain ⟨its, hits⟩ : ∃ its : List (Value × Item), its = ((fs.drop 1).take c).map (fun x => (x.2, x.1.pay)) := ⟨_, rfl⟩
      have HI1 := Lib.hid (show its.map (·.1) = ((fs.drop 1).take c).map (·.2) from by rw [hits, List.map_map]; rfl)
      have HI3 := Lib.hid (show its.map (·.2) = (((fs.map (·.1)).drop 1).take c).map (·.pay) from by rw [hits, List.map_map, ← List.map_drop, ← List.map_take, List.map_map]; rfl)
      have HIP := Lib.hid (show ∀ (w' : World), Keeps w3 w' → ∀ y ∈ its, Piece w' w.heap.size 5 y.1 (y.2.map u8v) from fun w' k y hy => by
        rw [hits] at hy
        obtain ⟨x, hx, rfl⟩ := List.mem_map.1 hy
        exact (HF3.out.pay x (List.mem_of_mem_drop (List.mem_of_mem_take hx))).keeps k)
      clear hits
      have hXb : X.length ≤ 549755813887 := by omega
      have hcc : c + 2 ≤ cf := by have := HF3.out.form; obtain ⟨_, _, e1, e2, -⟩ := this; simp only [Value.slice.injEq] at e1; omega
      go_upto_region 6 with (at_builtin; go_loud (refine wpList_apps (base := w.heap.size) txok (by decide) rfl _ _ rfl (.slice px X.length cx) (.slice (some ⟨w3.heap.size, 0, none⟩) 1 1) X.length 1 (X.flatMap txC) [.int .i64 ((X.length : Int) + 1), .slice pi ni ci] rfl rfl (ownsRow_keeps HX3.out.own ((Keeps.refl _).alloc _)) (rowS_lit rfl rfl rfl) (by simp [Value.oneCell']) (by omega) (by decide) (by rw [alloc_size]; omega) ?_; intro v5 w5 ho5 hg5 hf5; obtain ⟨p5, c5, rfl, -, -⟩ := ownsRow_form ho5))
      have HX5 := Lib.hid ((HX3.out.keeps ((Keeps.refl _).alloc _)).snoc (x := (X.length + 1, .slice pi ni ci, its)) (by show Own _ _ _ _ (its.map (·.1)); rw [HI1.out]; exact HO3.out.alloc _) (HIP.out _ ((Keeps.refl _).alloc _)) ho5 hg5)
      have HK5 := Lib.hid ((HK3.out.alloc _).grown hg5 (ownsRow_base HX3.out.own))
      have HF5 := Lib.hid (show FrmsR w5 w.heap.size (.slice pf fs.length cf) fs from by
        have hm : Mods (fun x => (Value.slice px X.length cx).ownBlock = some x) w3 w5 := ((Mods.refl _ w3).alloc _).grown hg5 (fun k hk _ => hk)
        exact HF3.out.modsT hm (ownsRow_ty HX3.out.own (by decide)) (ownsRow_ty HX3.out.own (by decide)))
      clear ho5 hg5 hf5 q0 q1
      obtain ⟨ps, hps⟩ := cutS_sl 4 pf 0 (c + 2) cf
      obtain ⟨pn, hpn⟩ := cutS_sl 4 pf (c + 2) fs.length cf
      rw [Nat.sub_zero, Nat.sub_zero] at hps
      have hcut1 : ∀ w', (Instr.slice 135 (.slice pf fs.length cf) none (some (.int .i64 ((c : Int) + 2))) none).run Try.prog w' = .ok (.slice ps (c + 2) cf) w' := fun w' => by
        rw [← hps, show ((c : Int) + 2) = ((c + 2 : Nat) : Int) from by omega]
        exact run_cutS_h w' Try.underlying135 (by intro w; kernel_rfl) pf fs.length cf (c + 2) hcc
      have hcut2 : ∀ w', (Instr.slice 135 (.slice pf fs.length cf) (some (.int .i64 ((c : Int) + 2))) none none).run Try.prog w' = .ok (.slice pn (fs.length - (c + 2)) (cf - (c + 2))) w' := fun w' => by
        rw [← hpn, show ((c : Int) + 2) = ((c + 2 : Nat) : Int) from by omega]
        exact run_cutS_l w' Try.underlying135 (by intro w; kernel_rfl) pf fs.length cf (c + 2) hcl
      have HS1 := Lib.hid (show FrmsR w5 w.heap.size (.slice ps (c + 2) cf) (fs.take (c + 2)) from by
        have := HF5.out.cut (lo := 0) (hi := c + 2) (Nat.zero_le _) hcl
        rw [hps] at this
        simpa using this)
      have HS2 := Lib.hid (show FrmsR w5 w.heap.size (.slice pn (fs.length - (c + 2)) (cf - (c + 2))) (fs.drop (c + 2)) from by
        have := HF5.out.cut (lo := c + 2) (hi := fs.length) hcl (Nat.le_refl _)
        rw [hpn] at this
        rw [List.take_of_length_le (by simp)] at this
        exact this)
      have HL1 := Lib.hid (show (fs.take (c + 2)).length = c + 2 from by rw [List.length_take]; omega)
      have HL2 := Lib.hid (show (fs.drop (c + 2)).length = fs.length - (c + 2) from by rw [List.length_drop])
      have HM1 := Lib.hid (show (fs.map (·.1)).take (c + 2) = (fs.take (c + 2)).map (·.1) ∧ (fs.map (·.1)).drop (c + 2) = (fs.drop (c + 2)).map (·.1) from ⟨by rw [List.map_take], by rw [List.map_drop]⟩)
      have HN1 := Lib.hid (show (∀ x ∈ fs.take (c + 2), 0 ≤ x.1.len) ∧ (∀ x ∈ fs.drop (c + 2), 0 ≤ x.1.len) from ⟨fun x hx => HI.out.1 x (List.mem_of_mem_take hx), fun x hx => HI.out.1 x (List.mem_of_mem_drop hx)⟩)
      have hfN := HI.out.2.2.1
      rw [HM1.out.1, HM1.out.2] at HB HI2
      clear hps hpn HF5 HF3 HX3 HK3 HQ3 HI1 HIP HO3 HI HM1
      generalize fs.take (c + 2) = G1 at *
      generalize fs.drop (c + 2) = G2 at *
      have hub := HB.out
      go_wp2_with fail
      go_loopw [3, 39] (fun uv iv wx => ∃ (j : Nat), iv = .int .i64 (j : Int) ∧ j ≤ c + 2 ∧ uv = .int .i64 (u + lenS ((G1.take j).map (·.1))) ∧ Hid (Keeps w5 wx)) (fun _ iv _ => c + 2 - (intOf iv).toNat)
      case atStart => exact ⟨0, rfl, Nat.zero_le _, by simp [lenS], Lib.hid (Keeps.refl _)⟩
      case round =>
        obtain ⟨j, rfl, hj, rfl, HKX⟩ := hrel
        by_cases hlt : j < c + 2
        · have hjG : j < G1.length := by rw [HL1.out]; exact hlt
          obtain ⟨b2, off2, cap2, hv2, hrg⟩ := (HS1.out.keeps HKX.out).at_ hjG
          rw [HL1.out] at hv2
          simp only [Value.slice.injEq] at hv2
          obtain ⟨rfl, -, rfl⟩ := hv2
          have hgp := HS1.out.pay _ (List.getElem_mem hjG)
          have HSU := Lib.hid (show lenS ((G1.take (j + 1)).map (·.1)) = lenS ((G1.take j).map (·.1)) + G1[j].1.len from by
            rw [List.map_take, List.map_take, lenS_take (by simpa using hjG)]
            simp)
          have hsb : 0 ≤ lenS ((G1.take j).map (·.1)) ∧ 0 ≤ G1[j].1.len ∧ lenS ((G1.take j).map (·.1)) + G1[j].1.len ≤ lenS (G1.map (·.1)) := by
            have h1 := lenS_split (G1.map (·.1)) (j + 1)
            rw [← List.map_take, ← List.map_drop, HSU.out] at h1
            have h2 : 0 ≤ lenS ((G1.drop (j + 1)).map (·.1)) := lenS_nn (fun f hf => by
              obtain ⟨x, hx, rfl⟩ := List.mem_map.1 hf
              exact HN1.out.1 x (List.mem_of_mem_drop hx))
            have h3 : 0 ≤ lenS ((G1.take j).map (·.1)) := lenS_nn (fun f hf => by
              obtain ⟨x, hx, rfl⟩ := List.mem_map.1 hf
              exact HN1.out.1 x (List.mem_of_mem_take hx))
            exact ⟨h3, HN1.out.1 _ (List.getElem_mem hjG), by omega⟩
          have hji : (j : Int) < (c : Int) + 2 := by omega
          have htj : decide ((j : Int) < ((c + 2 : Nat) : Int)) = true := by simp; omega
          generalize G1[j] = z at *
          obtain ⟨h, hv⟩ := z
          obtain ⟨hp, hc3, hhv, -, -⟩ := hgp.form
          simp only [List.length_map] at hhv
          subst hhv
          have HGG := Lib.hid (show wr.rangeAt b2 (off2 + j * 4) [.int .i64 h.at', .int .i64 h.len, .int .i64 h.kind, .slice hp h.pay.length hc3] from hrg)
          simp only at hsb HSU
          clear hgp hrg
          generalize lenS ((G1.take j).map (·.1)) = sj at *
          go_upto_region 9 with (refine wpList_ldR rfl frM HGG.out _ rfl rfl ?_)
          generalize hW : World.alloc wr _ = y1
          have HKy := Lib.hid (show Keeps wr y1 from by rw [← hW]; exact (Keeps.refl _).alloc _)
          have HFy := Lib.hid (show Blk y1 wr.heap.size 139 #[.int .i64 h.at', .int .i64 h.len, .int .i64 h.kind, .slice hp h.pay.length hc3] from by rw [← hW]; exact Blk.new _ _ _ rfl)
          clear hW
          obtain ⟨qq, hqq⟩ : ∃ q, q = wr.heap.size := ⟨_, rfl⟩
          rw [← hqq] at HFy ⊢
          clear hqq HGG
          have q1 : y1.cell? ⟨qq, 1, none⟩ = some (.int .i64 h.len) := by rw [HFy.out.cell]; rfl
          have hws : IntKind.i64.wrap (u + sj + h.len) = u + sj + h.len := by rw [IntKind.wrap_i64]; omega
          go_wp2_with fail
          go_roundw
          case rel => exact ⟨j + 1, by simp, by omega, by rw [HSU.out, Int.add_assoc], Lib.hid (HKX.out.trans HKy.out)⟩
          case measure =>
            simp only [intOf]
            omega
        · have hjn : j = c + 2 := by omega
          have hlt' : decide ((j : Int) < ((c + 2 : Nat) : Int)) = false := by simp; omega
          have HGT := Lib.hid (show G1.take j = G1 from List.take_of_length_le (by rw [HL1.out, hjn]; exact Nat.le_refl _))
          rw [HGT.out]
          clear hjn hcut1
          go_wp2_with fail
          go_roundg k'
          case rel =>
            refine ⟨X ++ [(X.length + 1, .slice pi ni ci, its)], p5, c5, u + lenS (G1.map (·.1)), G2, pn, cf - (c + 2), by simp, rfl, by rw [HL2.out], by omega, by simp; omega, by rw [HL2.out]; omega, Lib.hid ?_, Lib.hid ?_, Lib.hid (HK5.out.trans HKX.out), Lib.hid ?_⟩
            · have := HX5.out.keeps HKX.out
              simpa using this
            · rw [HL2.out]
              exact HS2.out.keeps HKX.out
            · refine ⟨HN1.out.2, by omega, by rw [HL2.out]; simp; omega, ?_⟩
              rw [HI2.out, ← HI3.out]
              simp [txP, Int.add_assoc]
          case measure => omega
end Txl
end Go.Proofs.Ytchjncnolmiejaa

/- pigeonholeref17.Same: two lists of transactions that tell the same. -/
namespace Go.Proofs.Ytchjncnolmiejaa
open Go.RowKit
namespace Txl
open Oct Frm
/-- transactions that are read alone -/
structure TxsR (w : World) (v : Value) (X : List TxX) : Prop where
  row : RowS w 2 v X.length (X.flatMap txC)
  its : ∀ x ∈ X, Row w x.2.1 (x.2.2.map (·.1))
  pay : ∀ x ∈ X, ∀ y ∈ x.2.2, Row w y.1 (y.2.map u8v)
section
variable {w w' : World} {base : Nat} {v : Value} {X : List TxX}
theorem TxsAt.r (h : TxsAt w base v X) : TxsR w v X := ⟨rowS_of h.own, fun x hx => (h.its x hx).row, fun x hx y hy => (h.pay x hx y hy).row⟩
theorem TxsR.keeps (h : TxsR w v X) (k : Keeps w w') : TxsR w' v X := ⟨h.row.keeps k, fun x hx => (h.its x hx).keeps k, fun x hx y hy => (h.pay x hx y hy).keeps k⟩
theorem TxsR.form (h : TxsR w v X) : ∃ p cap, v = .slice p X.length cap ∧ X.length ≤ cap ∧ cap ≤ 9223372036854775807 := h.row.form
theorem TxsR.one (h : TxsR w v X) {j : Nat} (hj : j < X.length) : ∃ b off cap, v = .slice (some ⟨b, off, none⟩) X.length cap ∧ w.cell? ⟨b, off + j * 2, none⟩ = some (.int .i64 (X[j].1 : Int)) ∧ w.cell? ⟨b, off + j * 2 + 1, none⟩ = some X[j].2.1 := by
  obtain ⟨b, off, cap, hv, -, -, hc⟩ := RowS.at_ h.row (by omega)
  refine ⟨b, off, cap, hv, ?_, ?_⟩
  · have := hc.out (j * 2 + 0) _ (by rw [flat_get txC_len X j 0 _ (List.getElem?_eq_getElem hj) (by omega)]; rfl)
    exact this
  · rw [Nat.add_assoc]
    exact hc.out (j * 2 + 1) _ (by rw [flat_get txC_len X j 1 _ (List.getElem?_eq_getElem hj) (by omega)]; rfl)
end
set_option maxRecDepth 100000 in
set_option maxHeartbeats 4000000 in
theorem same17_any (v1 v2 : Value) (X1 X2 : List TxX) (w : World) (h1 : TxsR w v1 X1) (h2 : TxsR w v2 X2) (he : X1.map txP = X2.map txP) (hn : X1.length ≤ 1099511627776) : Calls Try.prog 39 #[v1, v2] w fun e w' => e = .returned (.bool true) ∧ Keeps w w' := by
  have hl : X1.length = X2.length := by have := congrArg List.length he; simpa using this
  obtain ⟨p1, c1, rfl, -, -⟩ := h1.form
  obtain ⟨p2, c2, rfl, -, -⟩ := h2.form
  have H1 := Lib.hid h1
  have H2 := Lib.hid h2
  have HE := Lib.hid (show ∀ j (h1 : j < X1.length) (h2 : j < X2.length), txP X1[j] = txP X2[j] from fun j h1 h2 => by
    have h := congrArg (fun l => l[j]?) he
    simp only [List.getElem?_map, List.getElem?_eq_getElem h1, List.getElem?_eq_getElem h2, Option.map_some, Option.some.injEq] at h
    exact h)
  have HL := Lib.hid hl
  clear h1 h2 he
  rw [← hl]
  clear hl
  go_enter Try.func39, Try.ntmps39
  go_wp2_with fail
  go_loopw [5] (fun i wr => ∃ j : Nat, i = .int .i64 j ∧ j ≤ X1.length ∧ Hid (Keeps w wr)) (fun i _ => X1.length - (intOf i).toNat)
  case atStart => exact ⟨0, rfl, Nat.zero_le _, Lib.hid (Keeps.refl _)⟩
  case round =>
    obtain ⟨j, rfl, hj, HK⟩ := hrel
    by_cases hlt : j < X1.length
    · have hlt2 : j < X2.length := by have := HL.out; omega
      obtain ⟨b1, o1, k1, hv1, ha0, ha1⟩ := (H1.out.keeps HK.out).one hlt
      obtain ⟨b2, o2, k2, hv2, hb0, hb1⟩ := (H2.out.keeps HK.out).one hlt2
      simp only [Value.slice.injEq] at hv1
      obtain ⟨rfl, -, rfl⟩ := hv1
      rw [← HL.out] at hv2
      simp only [Value.slice.injEq] at hv2
      obtain ⟨rfl, -, rfl⟩ := hv2
      have hee := HE.out j hlt hlt2
      have HI1 := Lib.hid ((H1.out.its _ (List.getElem_mem hlt)).keeps HK.out)
      have HI2 := Lib.hid ((H2.out.its _ (List.getElem_mem hlt2)).keeps HK.out)
      have HP1 := Lib.hid (fun y hy => (H1.out.pay _ (List.getElem_mem hlt) y hy).keeps HK.out)
      have HP2 := Lib.hid (fun y hy => (H2.out.pay _ (List.getElem_mem hlt2) y hy).keeps HK.out)
      generalize X1[j] = x1 at *
      generalize X2[j] = x2 at *
      obtain ⟨n1, iv1, is1⟩ := x1
      obtain ⟨n2, iv2, is2⟩ := x2
      simp only [txP, Prod.mk.injEq] at hee
      obtain ⟨hen, hei⟩ := hee
      simp only at hen hei ha0 ha1 hb0 hb1 HI1 HI2 HP1 HP2
      subst hen
      have hil : is1.length = is2.length := by have := congrArg List.length hei; simpa using this
      have HEI := Lib.hid (show ∀ i (h1 : i < is1.length) (h2 : i < is2.length), is1[i].2 = is2[i].2 from fun i h1 h2 => by
        have h := congrArg (fun l => l[i]?) hei
        simp only [List.getElem?_map, List.getElem?_eq_getElem h1, List.getElem?_eq_getElem h2, Option.map_some, Option.some.injEq] at h
        exact h)
      obtain ⟨q1, d1, hq1, hg1, hg2⟩ := HI1.out.form
      obtain ⟨q2, d2, hq2, -, -⟩ := HI2.out.form
      rw [List.length_map] at hq1 hq2 hg1
      unfold maxLen at hg2
      rw [← hil] at hq2
      have HIL := Lib.hid hil
      subst hq1 hq2
      have hji : (j : Int) < (X1.length : Int) := by omega
      clear hei hlt2 hil
      go_upto_region 6 with fail
      refine wp_region_noPanic ?_
      refine wp_region_held_drew (S := fun w' => Keeps (wr) w') (by kernel_rfl) ((Keeps.refl _).drew) (fun _ => ?_)
      have hHeld : Keeps (wr) (wr).drew := (Keeps.refl _).drew
      refine wpAnyH_take (i := 0) (v := ?vv1) (by rfl) (by kernel_rfl) (by kernel_rfl) (by kernel_rfl) (by intro _ _ _ h; exact h) (Or.inl ⟨by kernel_rfl, ?hy1⟩) (by assumption) ?rest1
      case hy1 =>
        intro w' hSw
        have hSw : Keeps _ w' := hSw
        clear hSw
        go_simp
        try with_reducible rfl
      change wpAnyH _ _ _ _ _ _ _ (Act.put _ (some 18) _) _
      try simp only [Act.put, List.setIfInBounds_toArray, List.set_cons_zero, List.set_cons_succ]
      refine wpAnyH_take (i := 1) (v := ?vv2) (by rfl) (by kernel_rfl) (by kernel_rfl) (by kernel_rfl) (by intro _ _ _ h; exact h) (Or.inl ⟨by kernel_rfl, ?hy2⟩) (by assumption) ?rest2
      case hy2 =>
        intro w' hSw
        have hSw : Keeps _ w' := hSw
        clear hSw
        go_simp
        try with_reducible rfl
      change wpAnyH _ _ _ _ _ _ _ (Act.put _ (some 19) _) _
      try simp only [Act.put, List.setIfInBounds_toArray, List.set_cons_zero, List.set_cons_succ]
      refine wpAnyH_take (i := 2) (v := ?vv3) (by rfl) (by kernel_rfl) (by kernel_rfl) (by kernel_rfl) (by intro _ _ _ h; exact h) (Or.inl ⟨by kernel_rfl, ?hy3⟩) (by assumption) ?rest3
      case hy3 =>
        intro w' hSw
        have hSw : Keeps _ w' := hSw
        clear hSw
        go_simp
        try with_reducible rfl
      change wpAnyH _ _ _ _ _ _ _ (Act.put _ (some 20) _) _
      try simp only [Act.put, List.setIfInBounds_toArray, List.set_cons_zero, List.set_cons_succ]
      refine wpAnyH_take (i := 3) (v := ?vv4) (by rfl) (by kernel_rfl) (by kernel_rfl) (by kernel_rfl) (by intro _ _ _ h; exact h) (Or.inl ⟨by kernel_rfl, ?hy4⟩) (by assumption) ?rest4
      case hy4 =>
        intro w' hSw
        have hSw : Keeps _ w' := hSw
        clear hSw
        go_simp
        try with_reducible rfl
      change wpAnyH _ _ _ _ _ _ _ (Act.put _ (some 21) _) _
      try simp only [Act.put, List.setIfInBounds_toArray, List.set_cons_zero, List.set_cons_succ]
      refine wpAnyH_take (i := 4) (v := ?vv5) (by rfl) (by kernel_rfl) (by kernel_rfl) (by kernel_rfl) (by intro _ _ _ h; exact h) (Or.inl ⟨by kernel_rfl, ?hy5⟩) (by assumption) ?rest5
      case hy5 =>
        intro w' hSw
        have hSw : Keeps _ w' := hSw
        have hx := keep1 hSw ha0
        clear hSw
        go_simp
        try with_reducible rfl
      change wpAnyH _ _ _ _ _ _ _ (Act.put _ (some 22) _) _
      try simp only [Act.put, List.setIfInBounds_toArray, List.set_cons_zero, List.set_cons_succ]
      refine wpAnyH_take (i := 5) (v := ?vv6) (by rfl) (by kernel_rfl) (by kernel_rfl) (by kernel_rfl) (by intro _ _ _ h; exact h) (Or.inl ⟨by kernel_rfl, ?hy6⟩) (by assumption) ?rest6
      case hy6 =>
        intro w' hSw
        have hSw : Keeps _ w' := hSw
        clear hSw
        go_simp
        try with_reducible rfl
      change wpAnyH _ _ _ _ _ _ _ (Act.put _ (some 23) _) _
      try simp only [Act.put, List.setIfInBounds_toArray, List.set_cons_zero, List.set_cons_succ]
      refine wpAnyH_take (i := 6) (v := ?vv7) (by rfl) (by kernel_rfl) (by kernel_rfl) (by kernel_rfl) (by intro _ _ _ h; exact h) (Or.inl ⟨by kernel_rfl, ?hy7⟩) (by assumption) ?rest7
      case hy7 =>
        intro w' hSw
        have hSw : Keeps _ w' := hSw
        clear hSw
        go_simp
        try with_reducible rfl
      change wpAnyH _ _ _ _ _ _ _ (Act.put _ (some 24) _) _
      try simp only [Act.put, List.setIfInBounds_toArray, List.set_cons_zero, List.set_cons_succ]
      refine wpAnyH_take (i := 7) (v := ?vv8) (by rfl) (by kernel_rfl) (by kernel_rfl) (by kernel_rfl) (by intro _ _ _ h; exact h) (Or.inl ⟨by kernel_rfl, ?hy8⟩) (by assumption) ?rest8
      case hy8 =>
        intro w' hSw
        have hSw : Keeps _ w' := hSw
        clear hSw
        go_simp
        try with_reducible rfl
      change wpAnyH _ _ _ _ _ _ _ (Act.put _ (some 25) _) _
      try simp only [Act.put, List.setIfInBounds_toArray, List.set_cons_zero, List.set_cons_succ]
      refine wpAnyH_take (i := 8) (v := ?vv9) (by rfl) (by kernel_rfl) (by kernel_rfl) (by kernel_rfl) (by intro _ _ _ h; exact h) (Or.inl ⟨by kernel_rfl, ?hy9⟩) (by assumption) ?rest9
      case hy9 =>
        intro w' hSw
        have hSw : Keeps _ w' := hSw
        clear hSw
        go_simp
        try with_reducible rfl
      change wpAnyH _ _ _ _ _ _ _ (Act.put _ (some 26) _) _
      try simp only [Act.put, List.setIfInBounds_toArray, List.set_cons_zero, List.set_cons_succ]
      refine wpAnyH_take (i := 9) (v := ?vv10) (by rfl) (by kernel_rfl) (by kernel_rfl) (by kernel_rfl) (by intro _ _ _ h; exact h) (Or.inl ⟨by kernel_rfl, ?hy10⟩) (by assumption) ?rest10
      case hy10 =>
        intro w' hSw
        have hSw : Keeps _ w' := hSw
        have hx := keep1 hSw hb0
        clear hSw
        go_simp
        try with_reducible rfl
      change wpAnyH _ _ _ _ _ _ _ (Act.put _ (some 27) _) _
      try simp only [Act.put, List.setIfInBounds_toArray, List.set_cons_zero, List.set_cons_succ]
      refine wpAnyH_take (i := 10) (v := ?vv11) (by rfl) (by kernel_rfl) (by kernel_rfl) (by kernel_rfl) (by intro _ _ _ h; exact h) (Or.inl ⟨by kernel_rfl, ?hy11⟩) (by assumption) ?rest11
      case hy11 =>
        intro w' hSw
        have hSw : Keeps _ w' := hSw
        clear hSw
        go_simp
        try with_reducible rfl
      change wpAnyH _ _ _ _ _ _ _ (Act.put _ (some 28) _) _
      try simp only [Act.put, List.setIfInBounds_toArray, List.set_cons_zero, List.set_cons_succ]
      refine wpAnyH_take (i := 11) (v := ?vv12) (by rfl) (by kernel_rfl) (by kernel_rfl) (by kernel_rfl) (by intro _ _ _ h; exact h) (Or.inl ⟨by kernel_rfl, ?hy12⟩) (by assumption) ?rest12
      case hy12 =>
        intro w' hSw
        have hSw : Keeps _ w' := hSw
        clear hSw
        go_simp
        try with_reducible rfl
      change wpAnyH _ _ _ _ _ _ _ (Act.put _ (some 29) _) _
      try simp only [Act.put, List.setIfInBounds_toArray, List.set_cons_zero, List.set_cons_succ]
      refine wpAnyH_take (i := 12) (v := ?vv13) (by rfl) (by kernel_rfl) (by kernel_rfl) (by kernel_rfl) (by intro _ _ _ h; exact h) (Or.inl ⟨by kernel_rfl, ?hy13⟩) (by assumption) ?rest13
      case hy13 =>
        intro w' hSw
        have hSw : Keeps _ w' := hSw
        clear hSw
        go_simp
        try with_reducible rfl
      change wpAnyH _ _ _ _ _ _ _ (Act.put _ (some 30) _) _
      try simp only [Act.put, List.setIfInBounds_toArray, List.set_cons_zero, List.set_cons_succ]
      refine wpAnyH_take (i := 13) (v := ?vv14) (by rfl) (by kernel_rfl) (by kernel_rfl) (by kernel_rfl) (by intro _ _ _ h; exact h) (Or.inl ⟨by kernel_rfl, ?hy14⟩) (by assumption) ?rest14
      case hy14 =>
        intro w' hSw
        have hSw : Keeps _ w' := hSw
        clear hSw
        go_simp
        try with_reducible rfl
      change wpAnyH _ _ _ _ _ _ _ (Act.put _ (some 31) _) _
      try simp only [Act.put, List.setIfInBounds_toArray, List.set_cons_zero, List.set_cons_succ]
      refine wpAnyH_take (i := 14) (v := ?vv15) (by rfl) (by kernel_rfl) (by kernel_rfl) (by kernel_rfl) (by intro _ _ _ h; exact h) (Or.inl ⟨by kernel_rfl, ?hy15⟩) (by assumption) ?rest15
      case hy15 =>
        intro w' hSw
        have hSw : Keeps _ w' := hSw
        clear hSw
        go_simp
        try with_reducible rfl
      change wpAnyH _ _ _ _ _ _ _ (Act.put _ (some 32) _) _
      try simp only [Act.put, List.setIfInBounds_toArray, List.set_cons_zero, List.set_cons_succ]
      refine wpAnyH_take (i := 15) (v := ?vv16) (by rfl) (by kernel_rfl) (by kernel_rfl) (by kernel_rfl) (by intro _ _ _ h; exact h) (Or.inl ⟨by kernel_rfl, ?hy16⟩) (by assumption) ?rest16
      case hy16 =>
        intro w' hSw
        have hSw : Keeps _ w' := hSw
        clear hSw
        go_simp
        try with_reducible rfl
      change wpAnyH _ _ _ _ _ _ _ (Act.put _ (some 33) _) _
      try simp only [Act.put, List.setIfInBounds_toArray, List.set_cons_zero, List.set_cons_succ]
      refine wpAnyH_take (i := 16) (v := ?vv17) (by rfl) (by kernel_rfl) (by kernel_rfl) (by kernel_rfl) (by intro _ _ _ h; exact h) (Or.inl ⟨by kernel_rfl, ?hy17⟩) (by assumption) ?rest17
      case hy17 =>
        intro w' hSw
        have hSw : Keeps _ w' := hSw
        have hx := keep1 hSw ha1
        clear hSw
        go_simp
        try with_reducible rfl
      change wpAnyH _ _ _ _ _ _ _ (Act.put _ (some 34) _) _
      try simp only [Act.put, List.setIfInBounds_toArray, List.set_cons_zero, List.set_cons_succ]
      refine wpAnyH_take (i := 17) (v := ?vv18) (by rfl) (by kernel_rfl) (by kernel_rfl) (by kernel_rfl) (by intro _ _ _ h; exact h) (Or.inl ⟨by kernel_rfl, ?hy18⟩) (by assumption) ?rest18
      case hy18 =>
        intro w' hSw
        have hSw : Keeps _ w' := hSw
        clear hSw
        go_simp
        try with_reducible rfl
      change wpAnyH _ _ _ _ _ _ _ (Act.put _ (some 35) _) _
      try simp only [Act.put, List.setIfInBounds_toArray, List.set_cons_zero, List.set_cons_succ]
      refine wpAnyH_take (i := 18) (v := ?vv19) (by rfl) (by kernel_rfl) (by kernel_rfl) (by kernel_rfl) (by intro _ _ _ h; exact h) (Or.inl ⟨by kernel_rfl, ?hy19⟩) (by assumption) ?rest19
      case hy19 =>
        intro w' hSw
        have hSw : Keeps _ w' := hSw
        clear hSw
        go_simp
        try with_reducible rfl
      change wpAnyH _ _ _ _ _ _ _ (Act.put _ (some 36) _) _
      try simp only [Act.put, List.setIfInBounds_toArray, List.set_cons_zero, List.set_cons_succ]
      refine wpAnyH_take (i := 19) (v := ?vv20) (by rfl) (by kernel_rfl) (by kernel_rfl) (by kernel_rfl) (by intro _ _ _ h; exact h) (Or.inl ⟨by kernel_rfl, ?hy20⟩) (by assumption) ?rest20
      case hy20 =>
        intro w' hSw
        have hSw : Keeps _ w' := hSw
        clear hSw
        go_simp
        try with_reducible rfl
      change wpAnyH _ _ _ _ _ _ _ (Act.put _ (some 37) _) _
      try simp only [Act.put, List.setIfInBounds_toArray, List.set_cons_zero, List.set_cons_succ]
      refine wpAnyH_take (i := 20) (v := ?vv21) (by rfl) (by kernel_rfl) (by kernel_rfl) (by kernel_rfl) (by intro _ _ _ h; exact h) (Or.inl ⟨by kernel_rfl, ?hy21⟩) (by assumption) ?rest21
      case hy21 =>
        intro w' hSw
        have hSw : Keeps _ w' := hSw
        clear hSw
        go_simp
        try with_reducible rfl
      change wpAnyH _ _ _ _ _ _ _ (Act.put _ (some 38) _) _
      try simp only [Act.put, List.setIfInBounds_toArray, List.set_cons_zero, List.set_cons_succ]
      refine wpAnyH_take (i := 21) (v := ?vv22) (by rfl) (by kernel_rfl) (by kernel_rfl) (by kernel_rfl) (by intro _ _ _ h; exact h) (Or.inl ⟨by kernel_rfl, ?hy22⟩) (by assumption) ?rest22
      case hy22 =>
        intro w' hSw
        have hSw : Keeps _ w' := hSw
        clear hSw
        go_simp
        try with_reducible rfl
      change wpAnyH _ _ _ _ _ _ _ (Act.put _ (some 39) _) _
      try simp only [Act.put, List.setIfInBounds_toArray, List.set_cons_zero, List.set_cons_succ]
      refine wpAnyH_take (i := 22) (v := ?vv23) (by rfl) (by kernel_rfl) (by kernel_rfl) (by kernel_rfl) (by intro _ _ _ h; exact h) (Or.inl ⟨by kernel_rfl, ?hy23⟩) (by assumption) ?rest23
      case hy23 =>
        intro w' hSw
        have hSw : Keeps _ w' := hSw
        have hx := keep1 hSw hb1
        clear hSw
        go_simp
        try with_reducible rfl
      change wpAnyH _ _ _ _ _ _ _ (Act.put _ (some 40) _) _
      try simp only [Act.put, List.setIfInBounds_toArray, List.set_cons_zero, List.set_cons_succ]
      refine wpAnyH_take (i := 23) (v := ?vv24) (by rfl) (by kernel_rfl) (by kernel_rfl) (by kernel_rfl) (by intro _ _ _ h; exact h) (Or.inl ⟨by kernel_rfl, ?hy24⟩) (by assumption) ?rest24
      case hy24 =>
        intro w' hSw
        have hSw : Keeps _ w' := hSw
        clear hSw
        go_simp
        try with_reducible rfl
      change wpAnyH _ _ _ _ _ _ _ (Act.put _ (some 41) _) _
      try simp only [Act.put, List.setIfInBounds_toArray, List.set_cons_zero, List.set_cons_succ]
      refine wpAnyH_take (i := 24) (v := ?vv25) (by rfl) (by kernel_rfl) (by kernel_rfl) (by kernel_rfl) (by intro _ _ _ h; exact h) (Or.inl ⟨by kernel_rfl, ?hy25⟩) (by assumption) ?rest25
      case hy25 =>
        intro w' hSw
        have hSw : Keeps _ w' := hSw
        clear hSw
        go_simp
        try with_reducible rfl
      change wpAnyH _ _ _ _ _ _ _ (Act.put _ (some 42) _) _
      try simp only [Act.put, List.setIfInBounds_toArray, List.set_cons_zero, List.set_cons_succ]
      refine wpAnyH_take (i := 25) (v := ?vv26) (by rfl) (by kernel_rfl) (by kernel_rfl) (by kernel_rfl) (by intro _ _ _ h; exact h) (Or.inl ⟨by kernel_rfl, ?hy26⟩) (by assumption) ?rest26
      case hy26 =>
        intro w' hSw
        have hSw : Keeps _ w' := hSw
        clear hSw
        go_simp
        try with_reducible rfl
      change wpAnyH _ _ _ _ _ _ _ (Act.put _ (some 43) _) _
      try simp only [Act.put, List.setIfInBounds_toArray, List.set_cons_zero, List.set_cons_succ]
      refine wpAnyH_done (by kernel_rfl) ?_ _
      refine NoPanic.normal ?_
      have HKd := Lib.hid (HK.out.trans (Keeps.refl wr).drew)
      have HA1 := Lib.hid (keep1 (Keeps.refl wr).drew ha1)
      have HB1 := Lib.hid (keep1 (Keeps.refl wr).drew hb1)
      have HI1 := Lib.hid (HI1.out.drew)
      have HI2 := Lib.hid (HI2.out.drew)
      have HP1 := Lib.hid (fun y hy => (HP1.out y hy).drew)
      have HP2 := Lib.hid (fun y hy => (HP2.out y hy).drew)
      clear hHeld ha0 hb0 ha1 hb1
      generalize wr.drew = wd at *
      go_wp2_with fail
      go_loopw [6] (fun iv wx => ∃ i : Nat, iv = .int .i64 (i : Int) ∧ i ≤ is1.length ∧ Hid (Keeps wd wx)) (fun iv _ => is1.length - (intOf iv).toNat)
      case atStart => exact ⟨0, rfl, Nat.zero_le _, Lib.hid (Keeps.refl _)⟩
      case round =>
        obtain ⟨i, rfl, hi, HX⟩ := hrel
        have ha1 := keep1 HX.out HA1.out
        have hb1 := keep1 HX.out HB1.out
        by_cases hlti : i < is1.length
        · have hlti2 : i < is2.length := by have := HIL.out; omega
          obtain ⟨s1, f1, e1, hs1, hc1⟩ := row_cells HI1.out (by rw [List.length_map]; omega)
          obtain ⟨s2, f2, e2, hs2, hc2⟩ := row_cells HI2.out (by rw [List.length_map]; omega)
          rw [List.length_map] at hs1 hs2
          simp only [Value.slice.injEq] at hs1 hs2
          obtain ⟨rfl, -, rfl⟩ := hs1
          obtain ⟨rfl, -, rfl⟩ := hs2
          have hx1 := hc1.out i is1[i].1 (by simp [hlti])
          have hx2 := hc2.out i is2[i].1 (by simp [hlti2])
          have HY1 := Lib.hid (HP1.out _ (List.getElem_mem hlti))
          have HY2 := Lib.hid (HP2.out _ (List.getElem_mem hlti2))
          have hee := HEI.out i hlti hlti2
          rw [hee] at HY1
          have hii : (i : Int) < (is1.length : Int) := by omega
          generalize is1[i] = y1 at *
          generalize is2[i] = y2 at *
          obtain ⟨yv1, yl1⟩ := y1
          obtain ⟨yv2, yl2⟩ := y2
          simp only at hx1 hx2 HY1 HY2
          obtain ⟨t1, u1, hyv1, -, -⟩ := (show Row wd yv1 (yl2.map u8v) from HY1.out).formB
          obtain ⟨t2, u2, hyv2, -, -⟩ := (show Row wd yv2 (yl2.map u8v) from HY2.out).formB
          subst hyv1 hyv2
          have heq : ((bstr yl2).toList == (bstr yl2).toList) = true := by simp
          clear hc1 hc2 hlti2 hee
          go_upto_region 11 with fail
          refine wp_region_noPanic ?_
          refine wp_region_held_drew (S := fun w' => Keeps (wr) w') (by kernel_rfl) ((Keeps.refl _).drew) (fun _ => ?_)
          have hHeld : Keeps (wr) (wr).drew := (Keeps.refl _).drew
          refine wpAnyH_take (i := 0) (v := ?vv27) (by rfl) (by kernel_rfl) (by kernel_rfl) (by kernel_rfl) (by intro _ _ _ h; exact h) (Or.inl ⟨by kernel_rfl, ?hy27⟩) (by assumption) ?rest27
          case hy27 =>
            intro w' hSw
            have hSw : Keeps _ w' := hSw
            clear hSw
            go_simp
            try with_reducible rfl
          change wpAnyH _ _ _ _ _ _ _ (Act.put _ (some 54) _) _
          try simp only [Act.put, List.setIfInBounds_toArray, List.set_cons_zero, List.set_cons_succ]
          refine wpAnyH_take (i := 1) (v := ?vv28) (by rfl) (by kernel_rfl) (by kernel_rfl) (by kernel_rfl) (by intro _ _ _ h; exact h) (Or.inl ⟨by kernel_rfl, ?hy28⟩) (by assumption) ?rest28
          case hy28 =>
            intro w' hSw
            have hSw : Keeps _ w' := hSw
            clear hSw
            go_simp
            try with_reducible rfl
          change wpAnyH _ _ _ _ _ _ _ (Act.put _ (some 55) _) _
          try simp only [Act.put, List.setIfInBounds_toArray, List.set_cons_zero, List.set_cons_succ]
          refine wpAnyH_take (i := 2) (v := ?vv29) (by rfl) (by kernel_rfl) (by kernel_rfl) (by kernel_rfl) (by intro _ _ _ h; exact h) (Or.inl ⟨by kernel_rfl, ?hy29⟩) (by assumption) ?rest29
          case hy29 =>
            intro w' hSw
            have hSw : Keeps _ w' := hSw
            clear hSw
            go_simp
            try with_reducible rfl
          change wpAnyH _ _ _ _ _ _ _ (Act.put _ (some 56) _) _
          try simp only [Act.put, List.setIfInBounds_toArray, List.set_cons_zero, List.set_cons_succ]
          refine wpAnyH_take (i := 3) (v := ?vv30) (by rfl) (by kernel_rfl) (by kernel_rfl) (by kernel_rfl) (by intro _ _ _ h; exact h) (Or.inl ⟨by kernel_rfl, ?hy30⟩) (by assumption) ?rest30
          case hy30 =>
            intro w' hSw
            have hSw : Keeps _ w' := hSw
            clear hSw
            go_simp
            try with_reducible rfl
          change wpAnyH _ _ _ _ _ _ _ (Act.put _ (some 57) _) _
          try simp only [Act.put, List.setIfInBounds_toArray, List.set_cons_zero, List.set_cons_succ]
          refine wpAnyH_take (i := 4) (v := ?vv31) (by rfl) (by kernel_rfl) (by kernel_rfl) (by kernel_rfl) (by intro _ _ _ h; exact h) (Or.inl ⟨by kernel_rfl, ?hy31⟩) (by assumption) ?rest31
          case hy31 =>
            intro w' hSw
            have hSw : Keeps _ w' := hSw
            have hx := keep1 hSw ha1
            clear hSw
            go_simp
            try with_reducible rfl
          change wpAnyH _ _ _ _ _ _ _ (Act.put _ (some 58) _) _
          try simp only [Act.put, List.setIfInBounds_toArray, List.set_cons_zero, List.set_cons_succ]
          refine wpAnyH_take (i := 5) (v := ?vv32) (by rfl) (by kernel_rfl) (by kernel_rfl) (by kernel_rfl) (by intro _ _ _ h; exact h) (Or.inl ⟨by kernel_rfl, ?hy32⟩) (by assumption) ?rest32
          case hy32 =>
            intro w' hSw
            have hSw : Keeps _ w' := hSw
            clear hSw
            go_simp
            try with_reducible rfl
          change wpAnyH _ _ _ _ _ _ _ (Act.put _ (some 59) _) _
          try simp only [Act.put, List.setIfInBounds_toArray, List.set_cons_zero, List.set_cons_succ]
          refine wpAnyH_take (i := 6) (v := ?vv33) (by rfl) (by kernel_rfl) (by kernel_rfl) (by kernel_rfl) (by intro _ _ _ h; exact h) (Or.inl ⟨by kernel_rfl, ?hy33⟩) (by assumption) ?rest33
          case hy33 =>
            intro w' hSw
            have hSw : Keeps _ w' := hSw
            clear hSw
            go_simp
            try with_reducible rfl
          change wpAnyH _ _ _ _ _ _ _ (Act.put _ (some 60) _) _
          try simp only [Act.put, List.setIfInBounds_toArray, List.set_cons_zero, List.set_cons_succ]
          refine wpAnyH_take (i := 7) (v := ?vv34) (by rfl) (by kernel_rfl) (by kernel_rfl) (by kernel_rfl) (by intro _ _ _ h; exact h) (Or.inl ⟨by kernel_rfl, ?hy34⟩) (by assumption) ?rest34
          case hy34 =>
            intro w' hSw
            have hSw : Keeps _ w' := hSw
            have hx := keep1 (HX.out.trans hSw) hx1
            clear hSw
            go_simp
            try with_reducible rfl
          change wpAnyH _ _ _ _ _ _ _ (Act.put _ (some 61) _) _
          try simp only [Act.put, List.setIfInBounds_toArray, List.set_cons_zero, List.set_cons_succ]
          refine wpAnyH_take (i := 8) (v := ?vv35) (by rfl) (by kernel_rfl) (by kernel_rfl) (by kernel_rfl) (by intro _ _ _ h; exact h) (Or.inl ⟨by kernel_rfl, ?hy35⟩) (by assumption) ?rest35
          case hy35 =>
            intro w' hSw
            have hSw : Keeps _ w' := hSw
            have hc := str_at' (HY1.out.keeps (HX.out.trans hSw))
            clear hSw
            go_simp
            try with_reducible rfl
          change wpAnyH _ _ _ _ _ _ _ (Act.put _ (some 62) _) _
          try simp only [Act.put, List.setIfInBounds_toArray, List.set_cons_zero, List.set_cons_succ]
          refine wpAnyH_take (i := 9) (v := ?vv36) (by rfl) (by kernel_rfl) (by kernel_rfl) (by kernel_rfl) (by intro _ _ _ h; exact h) (Or.inl ⟨by kernel_rfl, ?hy36⟩) (by assumption) ?rest36
          case hy36 =>
            intro w' hSw
            have hSw : Keeps _ w' := hSw
            clear hSw
            go_simp
            try with_reducible rfl
          change wpAnyH _ _ _ _ _ _ _ (Act.put _ (some 63) _) _
          try simp only [Act.put, List.setIfInBounds_toArray, List.set_cons_zero, List.set_cons_succ]
          refine wpAnyH_take (i := 10) (v := ?vv37) (by rfl) (by kernel_rfl) (by kernel_rfl) (by kernel_rfl) (by intro _ _ _ h; exact h) (Or.inl ⟨by kernel_rfl, ?hy37⟩) (by assumption) ?rest37
          case hy37 =>
            intro w' hSw
            have hSw : Keeps _ w' := hSw
            clear hSw
            go_simp
            try with_reducible rfl
          change wpAnyH _ _ _ _ _ _ _ (Act.put _ (some 64) _) _
          try simp only [Act.put, List.setIfInBounds_toArray, List.set_cons_zero, List.set_cons_succ]
          refine wpAnyH_take (i := 11) (v := ?vv38) (by rfl) (by kernel_rfl) (by kernel_rfl) (by kernel_rfl) (by intro _ _ _ h; exact h) (Or.inl ⟨by kernel_rfl, ?hy38⟩) (by assumption) ?rest38
          case hy38 =>
            intro w' hSw
            have hSw : Keeps _ w' := hSw
            clear hSw
            go_simp
            try with_reducible rfl
          change wpAnyH _ _ _ _ _ _ _ (Act.put _ (some 65) _) _
          try simp only [Act.put, List.setIfInBounds_toArray, List.set_cons_zero, List.set_cons_succ]
          refine wpAnyH_take (i := 12) (v := ?vv39) (by rfl) (by kernel_rfl) (by kernel_rfl) (by kernel_rfl) (by intro _ _ _ h; exact h) (Or.inl ⟨by kernel_rfl, ?hy39⟩) (by assumption) ?rest39
          case hy39 =>
            intro w' hSw
            have hSw : Keeps _ w' := hSw
            clear hSw
            go_simp
            try with_reducible rfl
          change wpAnyH _ _ _ _ _ _ _ (Act.put _ (some 66) _) _
          try simp only [Act.put, List.setIfInBounds_toArray, List.set_cons_zero, List.set_cons_succ]
          refine wpAnyH_take (i := 13) (v := ?vv40) (by rfl) (by kernel_rfl) (by kernel_rfl) (by kernel_rfl) (by intro _ _ _ h; exact h) (Or.inl ⟨by kernel_rfl, ?hy40⟩) (by assumption) ?rest40
          case hy40 =>
            intro w' hSw
            have hSw : Keeps _ w' := hSw
            have hx := keep1 hSw hb1
            clear hSw
            go_simp
            try with_reducible rfl
          change wpAnyH _ _ _ _ _ _ _ (Act.put _ (some 67) _) _
          try simp only [Act.put, List.setIfInBounds_toArray, List.set_cons_zero, List.set_cons_succ]
          refine wpAnyH_take (i := 14) (v := ?vv41) (by rfl) (by kernel_rfl) (by kernel_rfl) (by kernel_rfl) (by intro _ _ _ h; exact h) (Or.inl ⟨by kernel_rfl, ?hy41⟩) (by assumption) ?rest41
          case hy41 =>
            intro w' hSw
            have hSw : Keeps _ w' := hSw
            clear hSw
            go_simp
            try with_reducible rfl
          change wpAnyH _ _ _ _ _ _ _ (Act.put _ (some 68) _) _
          try simp only [Act.put, List.setIfInBounds_toArray, List.set_cons_zero, List.set_cons_succ]
          refine wpAnyH_take (i := 15) (v := ?vv42) (by rfl) (by kernel_rfl) (by kernel_rfl) (by kernel_rfl) (by intro _ _ _ h; exact h) (Or.inl ⟨by kernel_rfl, ?hy42⟩) (by assumption) ?rest42
          case hy42 =>
            intro w' hSw
            have hSw : Keeps _ w' := hSw
            clear hSw
            go_simp
            try with_reducible rfl
          change wpAnyH _ _ _ _ _ _ _ (Act.put _ (some 69) _) _
          try simp only [Act.put, List.setIfInBounds_toArray, List.set_cons_zero, List.set_cons_succ]
          refine wpAnyH_take (i := 16) (v := ?vv43) (by rfl) (by kernel_rfl) (by kernel_rfl) (by kernel_rfl) (by intro _ _ _ h; exact h) (Or.inl ⟨by kernel_rfl, ?hy43⟩) (by assumption) ?rest43
          case hy43 =>
            intro w' hSw
            have hSw : Keeps _ w' := hSw
            have hx := keep1 (HX.out.trans hSw) hx2
            clear hSw
            go_simp
            try with_reducible rfl
          change wpAnyH _ _ _ _ _ _ _ (Act.put _ (some 70) _) _
          try simp only [Act.put, List.setIfInBounds_toArray, List.set_cons_zero, List.set_cons_succ]
          refine wpAnyH_take (i := 17) (v := ?vv44) (by rfl) (by kernel_rfl) (by kernel_rfl) (by kernel_rfl) (by intro _ _ _ h; exact h) (Or.inl ⟨by kernel_rfl, ?hy44⟩) (by assumption) ?rest44
          case hy44 =>
            intro w' hSw
            have hSw : Keeps _ w' := hSw
            have hc := str_at' (HY2.out.keeps (HX.out.trans hSw))
            clear hSw
            go_simp
            try with_reducible rfl
          change wpAnyH _ _ _ _ _ _ _ (Act.put _ (some 71) _) _
          try simp only [Act.put, List.setIfInBounds_toArray, List.set_cons_zero, List.set_cons_succ]
          refine wpAnyH_take (i := 18) (v := ?vv45) (by rfl) (by kernel_rfl) (by kernel_rfl) (by kernel_rfl) (by intro _ _ _ h; exact h) (Or.inl ⟨by kernel_rfl, ?hy45⟩) (by assumption) ?rest45
          case hy45 =>
            intro w' hSw
            have hSw : Keeps _ w' := hSw
            clear hSw
            go_simp
            try with_reducible rfl
          change wpAnyH _ _ _ _ _ _ _ (Act.put _ (some 72) _) _
          try simp only [Act.put, List.setIfInBounds_toArray, List.set_cons_zero, List.set_cons_succ]
          refine wpAnyH_done (by kernel_rfl) ?_ _
          refine NoPanic.normal ?_
          go_wp2_with fail
          go_roundw
          case rel => exact ⟨i + 1, by simp, by omega, Lib.hid (HX.out.trans (Keeps.refl wr).drew)⟩
          case measure =>
            simp only [intOf]
            omega
        · have hti : decide ((i : Int) < (is1.length : Int)) = false := by simp; omega
          go_wp2_with fail
          go_roundw
          case rel => exact ⟨j + 1, by simp, by omega, Lib.hid (HKd.out.trans HX.out)⟩
          case measure =>
            simp only [intOf]
            omega
    · go_wp2_with fail
      go_ret
      exact ⟨rfl, HK.out⟩
end Txl
end Go.Proofs.Ytchjncnolmiejaa

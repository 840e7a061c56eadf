/- SafePlays: its walk. -/
import Derived.Test.YtchjncnolmiejaaGreatSaDo
import Derived.Test.YtchjncnolmiejaaGreatK47
import Derived.Test.YtchjncnolmiejaaGreatK49
namespace Go.Proofs.YtchjncnolmiejaaGreat
open Go.RowKit
namespace Sa
open Vd Rf Sf Rs
open Go.Maps
theorem actM16 : Mids Tryz.prog 68 6 := ⟨⟨_, Tryz.underlying68, rfl⟩, by kernel_rfl⟩
theorem actOk_keeps {w w' : World} {x : Vd.Act} (h : ActOk w x) (k : Keeps w w') : ActOk w' x := ⟨h.a, h.b, h.n, h.row.keeps k⟩
def d00 (cap : Int) : Dsk := ⟨cap, [], [], [], [], false, 0, (-1, 0), (-1, 0)⟩
theorem d00_few (cap : Int) : Few (d00 cap) 0 := ⟨by show (0 : Int) ≤ 0; decide, by show (0 : Int) ≤ 0; decide, by show 0 ≤ 0; decide, by show 0 ≤ 0; decide, by intro y hy; exact absurd hy (List.not_mem_nil), by show 0 ≤ 0; decide, by show 0 ≤ 0; decide⟩
theorem d00_new (cap : Int) : newD [] cap = if cap < 1 ∨ 4194304 < cap then none else some (d00 cap) := by
  unfold newD
  by_cases h : cap < 1 ∨ 4194304 < cap
  · rw [if_pos h, if_pos (by rcases h with h | h <;> simp [h])]
  · rw [if_neg h, if_neg (by simp; omega)]
    rfl
section
variable {L : List Nat} {W w : World} {g m : Nat} {d : Dsk} {r : RDsk} {k c : Nat}
/-- beside a disk of the law's there comes the document's -/
theorem two_new (h : At W w g d k) {w' : World} {m : Nat} {cap : Int} (hk : Keeps w w') (hr : RefAt w' (fun y => w.heap.size ≤ y ∧ y < w'.heap.size) m (rd0 cap) 0) : TwoAt [] W w' g d m (rd0 cap) k :=
  ⟨Rng W.heap.size w, fun y => w.heap.size ≤ y ∧ y < w'.heap.size,
    { dsk := h.dsk.keeps hk
      ref := hr.more (Nat.zero_le _)
      ap := fun y hy hh => by have := hy.2; omega
      ls := fun y hy => ⟨hy.1, Nat.lt_of_lt_of_le hy.2 hk.size, List.not_mem_nil⟩
      lm := fun y hy => ⟨Nat.le_trans h.keep.size hy.1, hy.2, List.not_mem_nil⟩
      ll := fun y hy => absurd hy (List.not_mem_nil)
      keep := h.keep.trans hk
      few := h.few }⟩
theorem do_act (h : TwoAt [] W w g d m r k) (hd : DR d r c) (hk : k ≤ 80000) (hc : c ≤ 1000000) (hn : d.nodes.length ≤ 60) (x : Vd.Act) (hxa : x.a.length ≤ 100) (hxb : x.b.length ≤ 1000) (hok : ActOk W x) : Calls Tryz.prog 27 #[.pointer (some ⟨g, 0, none⟩), .pointer (some ⟨m, 0, none⟩), .agg (actC x).toArray] w (SaDid W g m (d.nodes.length + 1) (k + 300) (c + 100)) := by
  obtain ⟨xk, xa, xb, xn, xc, xv, xks⟩ := x
  obtain ⟨pk, ck, hkv, -, -⟩ := hok.row.form
  rw [List.length_map] at hkv
  have hr := hok.row
  have hw := hok.n
  simp only at hxa hxb hkv hr hw
  subst hkv
  have e : (.agg (actC ⟨xk, xa, xb, xn, xc, .slice pk xks.length ck, xks⟩).toArray : Value) = .agg #[.int .i64 xk, .string (bstr xa), .string (bstr xb), .int .i64 xn, .int .i64 xc, .slice pk xks.length ck] := rfl
  rw [e]
  exact do_any h hd hk hc hn xk xa xb xn xc pk _ ck xks hxa hxb hw hr
end
set_option maxRecDepth 100000 in
set_option maxHeartbeats 4000000 in
theorem safePlays_walk (W : World) (cap : Int) (v1 : Value) (l : List Vd.Act) (_w0 : (Lit.int .i64 cap).wf = true) (r1 : RowS W 6 v1 l.length (l.flatMap actC)) (w1 : ∀ x ∈ l, ActOk W x) :
    Calls Tryz.prog 4 #[.int .i64 cap, v1] W fun e w' => e = .returned (.bool true) ∧ Keeps W w' := by
  obtain ⟨p1, c1, rfl, -, -⟩ := r1.form
  have HR1 := Lib.hid r1
  have HOK := Lib.hid w1
  have HAW := Lib.hid (awake16_any W)
  clear r1 w1 _w0
  go_enter Tryz.func4, Tryz.ntmps4
  go_wp2_with fail
  refine HAW.out.mono ?_
  rintro e w1 ⟨rfl, hk1⟩
  have HK1 := Lib.hid hk1
  clear hk1 HAW
  have HFW := Lib.hid (few16_any _ l w1 (HR1.out.keeps HK1.out) (fun x hx => actOk_keeps (HOK.out x hx) HK1.out))
  cases hfw : fewB l with
  | false =>
    rw [hfw] at HFW
    clear hfw
    go_wp2_with fail
    refine HFW.out.mono ?_
    rintro e w2 ⟨rfl, hk⟩
    go_wp2_with fail
    go_ret
    exact ⟨rfl, HK1.out.trans hk⟩
  | true =>
    rw [hfw] at HFW
    have hl40 : l.length ≤ 40 := by have := hfw; unfold fewB at this; simp at this; exact this.1
    have HAL := Lib.hid (show ∀ x ∈ l, x.a.length ≤ 100 ∧ x.b.length ≤ 300 from fun x hx => by have := hfw; unfold fewB at this; simp at this; have := this.2 x hx; omega)
    clear hfw
    go_wp2_with fail
    refine HFW.out.mono ?_
    rintro e w2 ⟨rfl, hk⟩
    have HK2 := Lib.hid (HK1.out.trans hk)
    clear hk HFW HK1
    have HNW := Lib.hid (new_at HK2.out (.slice none 0 0) [] (rowS_none _) (fun f hf => absurd hf (List.not_mem_nil)) cap)
    have HNR := Lib.hid (fun w3 => rnew0_r w3 cap)
    unfold NewAt at HNW
    unfold NewR at HNR
    rw [d00_new] at HNW
    have HNC : Hid (newR0 cap = if cap < 1 ∨ 4194304 < cap then none else some (rd0 cap)) := Lib.hid rfl
    by_cases hcap : cap < 1 ∨ 4194304 < cap
    · rw [if_pos hcap] at HNW HNC
      rw [HNC.out] at HNR
      clear hcap HNC
      go_wp2_with fail
      refine HNW.out.mono ?_
      rintro e w3 ⟨hk3, rfl⟩
      have HK3 := Lib.hid hk3
      clear hk3 HNW
      go_wp2_with fail
      refine (HNR.out w3).mono ?_
      rintro e w4 ⟨hk4, rfl⟩
      have HK4 := Lib.hid (HK3.out.trans hk4)
      clear hk4
      go_wp2_with fail
      go_ret
      exact ⟨rfl, HK4.out⟩
    · rw [if_neg hcap] at HNW HNC
      rw [HNC.out] at HNR
      clear hcap HNC
      go_wp2_with fail
      refine HNW.out.mono ?_
      rintro e w3 ⟨hk3, g, rfl, hd⟩
      have H0 := Lib.hid (show At W w3 g (d00 cap) 0 from ⟨hd, hk3, d00_few cap⟩)
      clear hd hk3 HNW HK2
      go_wp2_with fail
      refine (HNR.out w3).mono ?_
      rintro e w4 ⟨hk4, m, rfl, hr⟩
      have HT := Lib.hid (two_new H0.out hk4 hr)
      have HD := Lib.hid (show DR (d00 cap) (rd0 cap) 0 from dr_new cap)
      have HN0 := Lib.hid (show (d00 cap).nodes.length ≤ 0 from Nat.le_refl _)
      clear hk4 hr HNR H0
      generalize rd0 cap = r0 at *
      generalize d00 cap = d0 at *
      go_wp2_with fail
      go_loopw [7] (fun ix wr => ∃ (j : Nat) (d : Dsk) (r : RDsk), ix = .int .i64 (j : Int) ∧ j ≤ l.length ∧ Hid (TwoAt [] W wr g d m r (300 * j)) ∧ Hid (DR d r (100 * j)) ∧ Hid (d.nodes.length ≤ j)) (fun ix _ => l.length - (RowKit.intOf ix).toNat)
      case atStart => exact ⟨0, d0, r0, rfl, Nat.zero_le _, HT, HD, HN0⟩
      case round =>
        clear HT HD HN0
        obtain ⟨j, d, r, rfl, hj, HT, HD, HN⟩ := hrel
        by_cases hlt : j < l.length
        · have hlt' : (j : Int) < (l.length : Int) := by omega
          obtain ⟨b, off, cap', hv, -, -, HC⟩ := HR1.out.at_ (by omega)
          simp only [Value.slice.injEq] at hv
          obtain ⟨rfl, -, rfl⟩ := hv
          have HRG := Lib.hid (show wr.rangeAt b (off + j * 6) (actC l[j]) from fun i x hx => by
            have hi : i < 6 := by
              have := (List.getElem?_eq_some_iff.1 hx).1
              simpa [actC] using this
            have h1 := HC.out (j * 6 + i) x (by rw [act_at hlt hi]; exact hx)
            rw [Nat.add_assoc, HT.out.kp.cell (p := ⟨b, off + (j * 6 + i), none⟩) (lt_of_cell h1)]
            exact h1)
          have hmem : l[j] ∈ l := List.getElem_mem hlt
          have hab := HAL.out _ hmem
          have HDO := Lib.hid (do_act HT.out HD.out (by omega) (by omega) (by have := HN.out; omega) l[j] hab.1 (by omega) (HOK.out _ hmem))
          generalize l[j] = x at *
          clear HC hmem hab
          have hxl : (actC x).length = 6 := rfl
          go_wp2_with (first
            | refine wpList_ldR rfl actM16 HRG.out _ rfl rfl ?_
            | (refine HDO.out.mono ?_; rintro e w5 ⟨d2, r2, rfl, ht2, hd2, hn2⟩; have HT2 := Lib.hid ht2; have HD2 := Lib.hid hd2; have HN2 := Lib.hid hn2; have HSM := Lib.hid (same16_any ht2 hd2 (by omega)); clear ht2 hd2 hn2)
            | (refine HSM.out.mono ?_; rintro e w6 ⟨rfl, hk6⟩; have HT6 := Lib.hid (HT2.out.keeps hk6); clear hk6))
          go_roundw
          case rel => exact ⟨j + 1, d2, r2, by simp, by omega, Lib.hid (HT6.out.more (by omega)), Lib.hid (HD2.out.more (by omega)), Lib.hid (by have := HN2.out; have := HN.out; omega)⟩
          case measure =>
            simp only [RowKit.intOf]
            omega
        · obtain rfl : j = l.length := by omega
          have hlt' : decide ((l.length : Int) < (l.length : Int)) = false := by simp
          go_wp2_with fail
          go_ret
          exact ⟨rfl, HT.out.kp⟩
end Sa
end Go.Proofs.YtchjncnolmiejaaGreat

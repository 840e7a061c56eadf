/- Several texts in one: RfWrites, SfAwake. -/
import Derived.Test.YtchjncnolmiejaaGreatK44
import Derived.Test.YtchjncnolmiejaaGreatK43
/- The document's disk: how many writes wait. -/
namespace Go.Proofs.YtchjncnolmiejaaGreat
open Go.RowKit
namespace Rf
open Vd
def wrTo (d : RDsk) (j : Nat) : Nat := (((List.range j).filter (knownR d)).map fun i => (filAt d i).waits.length).sum
theorem wrTo_succ (d : RDsk) (j : Nat) : wrTo d (j + 1) = if knownR d j then wrTo d j + (filAt d j).waits.length else wrTo d j := by
  unfold wrTo
  rw [List.range_succ, List.filter_append]
  split
  · rename_i h
    simp [h]
  · rename_i h
    simp [h]
theorem wrTo_le {d : RDsk} {B : Nat} (hB : ∀ x ∈ d.files, x.waits.length ≤ B) : ∀ j, j ≤ d.files.length → wrTo d j ≤ j * B
  | 0, _ => by simp [wrTo]
  | j + 1, hj => by
    have ih := wrTo_le hB j (by omega)
    have h1 := hB _ (List.getElem_mem (show j < d.files.length by omega))
    rw [wrTo_succ, filAt_get (show j < d.files.length by omega), Nat.succ_mul]
    split <;> omega
section
variable {w : World} {M : Nat → Prop} {m : Nat} {d : RDsk} {k : Nat}
set_option maxRecDepth 100000 in
set_option maxHeartbeats 4000000 in
theorem writes_r (h : RefAt w M m d k) (hk : k ≤ 100000) : Calls Tryz.prog 78 #[.pointer (some ⟨m, 0, none⟩)] w fun e w' => e = .returned (.int .i64 (writesR d : Int)) ∧ w = w' := by
  obtain ⟨fv, nv, sv, wv, fw, h⟩ := h
  have H := Lib.hid h
  obtain ⟨c0, -⟩ := h.cells
  obtain ⟨pf, cf, rfl, -, -⟩ := Frm.ownsRow_form h.files
  have hFk : d.files.length ≤ 100000 := Nat.le_trans h.fit.f hk
  have HWB := Lib.hid (fun j hj => wrTo_le (d := d) (fun x hx => Nat.le_trans (h.fit.p x hx) hk) j hj)
  have HKN := Lib.hid (fun j hj => known_r (w := w) (M := M) (m := m) (d := d) (k := k) ⟨_, _, _, _, _, h⟩ (by omega) j hj)
  clear h
  obtain ⟨F, hF⟩ : ∃ n, n = d.files.length := ⟨_, rfl⟩
  rw [← hF] at c0 hFk
  have HF := Lib.hid hF
  clear hF
  go_enter Tryz.func78, Tryz.ntmps78
  go_wp2_with fail
  go_loopw [3, 4] (fun sx ix wr => ∃ j : Nat, ix = .int .i64 (j : Int) ∧ j ≤ F ∧ sx = .int .i64 (wrTo d j : Int) ∧ w = wr) (fun _ ix _ => F - (RowKit.intOf ix).toNat)
  case atStart => exact ⟨0, rfl, Nat.zero_le _, rfl, rfl⟩
  case round =>
    obtain ⟨j, rfl, hj, rfl, hw⟩ := hrel
    subst hw
    by_cases hlt : j < F
    · have hjl : j < d.files.length := by rw [← HF.out]; exact hlt
      have hlt' : (j : Int) < (F : Int) := by omega
      have HKJ := Lib.hid (HKN.out j (by omega))
      have HST := Lib.hid (wrTo_succ d j)
      have hwb := HWB.out (j + 1) (by omega)
      rw [HST.out] at hwb
      have hb1 : (j + 1) * 100000 ≤ 10000000000 := by
        have : (j + 1) * 100000 ≤ 100000 * 100000 := Nat.mul_le_mul_right _ (by omega)
        omega
      cases hkb : knownR d j with
      | false =>
        rw [hkb] at HKJ HST
        go_wp2_with fail
        refine HKJ.out.mono ?_
        rintro e wz ⟨rfl, rfl⟩
        go_wp2_with fail
        go_roundw
        case rel => exact ⟨j + 1, by simp, by omega, by rw [HST.out]; rfl, trivial⟩
        case measure =>
          simp only [RowKit.intOf]
          omega
      | true =>
        rw [hkb] at HKJ HST hwb
        simp only [if_true] at hwb
        obtain ⟨bf, of, cf', hvf, hrg⟩ := H.out.file hjl
        rw [← HF.out] at hvf
        simp only [Value.slice.injEq] at hvf
        obtain ⟨rfl, -, rfl⟩ := hvf
        have hjw : j < fw.length := by rw [H.out.len]; exact hjl
        obtain ⟨pv, cv, hpv, -, -⟩ := Frm.ownsRow_form (H.out.waits j hjw hjl)
        rw [hpv] at hrg
        have f2 := hrg 2 _ rfl
        have HFA : Hid (wrTo d (j + 1) = wrTo d j + d.files[j].waits.length) := Lib.hid (by rw [HST.out, if_pos rfl, filAt_get hjl])
        rw [filAt_get hjl] at hwb
        generalize d.files[j].waits.length = wl at *
        obtain ⟨s0, hs0⟩ : ∃ z, z = wrTo d j := ⟨_, rfl⟩
        rw [← hs0] at hwb HFA ⊢
        have hw' : IntKind.i64.wrap ((s0 : Int) + (wl : Int)) = ((s0 + wl : Nat) : Int) := by rw [IntKind.wrap_i64]; omega
        clear hrg hpv hs0
        go_wp2_with fail
        refine HKJ.out.mono ?_
        rintro e wz ⟨rfl, rfl⟩
        go_wp2_with fail
        go_roundw
        case rel => exact ⟨j + 1, by simp, by omega, by rw [HFA.out]; simp, trivial⟩
        case measure =>
          simp only [RowKit.intOf]
          omega
    · have hjn : j = F := by omega
      have HX := Lib.hid (show wrTo d j = writesR d from by rw [hjn, HF.out]; rfl)
      have hlt' : decide ((j : Int) < (F : Int)) = false := by simp; omega
      clear hjn
      go_wp2_with fail
      go_ret
      exact ⟨by rw [← HX.out]; rfl, rfl⟩
end
end Rf
end Go.Proofs.YtchjncnolmiejaaGreat

/- law16's awake. -/
namespace Go.Proofs.YtchjncnolmiejaaGreat
open Go.RowKit
namespace Sf
open Vd
theorem calls_any (w : World) {S : Nat → Prop} {g : Nat} {d : Dsk} (h : DiskAt w S g d) : Calls Tryz.prog 24 #[.pointer (some ⟨g, 0, none⟩)] w fun e w' => e = .returned (.int .i64 d.count) ∧ w = w' := by
  obtain ⟨b1, b2, nv, mv, nb, h⟩ := h
  obtain ⟨-, -, -, -, -, -, c6, -⟩ := h.cells
  clear h
  go_enter Tryz.func24, Tryz.ntmps24
  go_wp2_with fail
  go_ret
  exact ⟨rfl, rfl⟩
def as1 : Dsk := (sSwap nA [120, 121] aw0).1
def as2 : Dsk := (sMake nA [] as1).1
def as3 : Dsk := (sAppend nA [122] as2).1
def as4 : Dsk := (sDrop nA as3).1
theorem as1_e : (sSwap nA [120, 121] aw0).2 = 0 := by kernel_rfl
theorem as1_c : as1.count = 5 := by kernel_rfl
theorem as1_h : hasD as1 nA = true := by kernel_rfl
theorem as1_n : hasD as1 [97, 46, 110] = false := by kernel_rfl
theorem as2_e : (sMake nA [] as1).2 = 8 := by kernel_rfl
theorem as3_e : (sAppend nA [122] as2).2 = 0 := by kernel_rfl
theorem as4_e : (sDrop nA as3).2 = 0 := by kernel_rfl
theorem as4_h : hasD as4 nA = false := by kernel_rfl
theorem stays_lit {S : Nat → Prop} {w1 w : World} {b n c : Nat} {l : List Value} (h : Row w (.slice (some ⟨b, 0, none⟩) n c) l) (hn : ¬ S b) (hw : w = w1) : Stays S w1 (.slice (some ⟨b, 0, none⟩) n c) l := fun _ hm => by subst hw; exact row_modsB h hm hn
set_option maxRecDepth 100000 in
set_option maxHeartbeats 4000000 in
theorem awake16_any (w : World) : Calls Tryz.prog 25 #[] w fun e w' => e = .returned (.bool true) ∧ Keeps w w' := by
  have HNW := Lib.hid (new_at (Keeps.refl w) (.slice none 0 0) [] (rowS_none _) (fun f hf => absurd hf (List.not_mem_nil)) 100)
  unfold NewAt at HNW
  rw [aw0_new] at HNW
  have kc := fun (w : World) (C : Array Value) (n c : Nat) => Lib.run_convert_bytes_const (P := Tryz.prog) w 22 5 C n c Tryz.underlying22 Tryz.underlying5
  go_enter Tryz.func25, Tryz.ntmps25
  go_wp2_with fail
  refine HNW.out.mono ?_
  rintro e w1 ⟨hk, g, rfl, hd⟩
  have H0 := Lib.hid (At.on (show At w w1 g aw0 0 from ⟨hd, hk, aw0_few⟩))
  clear hd hk HNW
  have HB0 := Lib.hid (H0.out.base ((Keeps.refl w1).alloc (.cells #[.int .u8 120, .int .u8 121] 5 (2, 3))))
  have HSW := Lib.hid (sswap_on (b := [120, 121]) (c0 := 2) (p0 := some ⟨w1.heap.size, 0, none⟩) HB0.out (by omega) (x := nA) (by decide) (stays_lit (Frm.row_mark (l := [120, 121].map u8v) rfl rfl (by decide)) (fun hy => hy.elim (fun h => h) (fun h => by omega)) rfl) (by decide))
  unfold nA at HSW
  go_wp2_with fail
  refine HSW.out.mono ?_
  rintro e w2 ⟨c, rfl, hc, ho⟩
  have hc : c = (sSwap nA [120, 121] aw0).2 := hc
  rw [as1_e] at hc
  subst hc
  have H1 := Lib.hid (show On (fun _ => False) w w2 g as1 10 from H0.out.back ((Keeps.refl w1).alloc _) ho)
  clear ho HSW HB0
  have HCL := Lib.hid (calls_any w2 H1.out.dsk)
  rw [as1_c] at HCL
  have HH1 := Lib.hid (has_on H1.out nA (by decide))
  have HH2 := Lib.hid (has_on H1.out [97, 46, 110] (by decide))
  rw [as1_h] at HH1
  rw [as1_n] at HH2
  unfold nA at HH1
  go_wp2_with fail
  refine HCL.out.mono ?_
  rintro e w3 ⟨rfl, rfl⟩
  go_wp2_with fail
  refine HH1.out.mono ?_
  rintro e w3 ⟨rfl, rfl⟩
  go_wp2_with fail
  refine HH2.out.mono ?_
  rintro e w3 ⟨rfl, rfl⟩
  have HMK := Lib.hid (smake_on (b := []) (c0 := 0) (p0 := none) H1.out (by omega) (x := nA) (by decide) (fun w' _ => row_nil w') (by decide))
  unfold nA at HMK
  clear HCL HH1 HH2
  go_wp2_with fail
  refine HMK.out.mono ?_
  rintro e w3 ⟨c, rfl, hc, ho⟩
  have hc : c = (sMake nA [] as1).2 := hc
  rw [as2_e] at hc
  subst hc
  have H2 := Lib.hid (show On (fun _ => False) w w3 g as2 18 from ho)
  clear ho HMK
  have HB2 := Lib.hid (H2.out.base ((Keeps.refl w3).alloc (.cells #[.int .u8 122] 5 (1, 2))))
  have HAP := Lib.hid (sappend_on (b := [122]) (c0 := 1) (p0 := some ⟨w3.heap.size, 0, none⟩) HB2.out (by omega) (x := nA) (by decide) (stays_lit (Frm.row_mark (l := [122].map u8v) rfl rfl (by decide)) (fun hy => hy.elim (fun h => h) (fun h => by omega)) rfl) (by decide))
  unfold nA at HAP
  go_wp2_with fail
  refine HAP.out.mono ?_
  rintro e w4 ⟨c, rfl, hc, ho⟩
  have hc : c = (sAppend nA [122] as2).2 := hc
  rw [as3_e] at hc
  subst hc
  have H3 := Lib.hid (show On (fun _ => False) w w4 g as3 21 from H2.out.back ((Keeps.refl w3).alloc _) ho)
  clear ho HAP HB2
  have HDR := Lib.hid (sdrop_on H3.out (by omega) (x := nA) (by decide))
  unfold nA at HDR
  go_wp2_with fail
  refine HDR.out.mono ?_
  rintro e w5 ⟨c, rfl, hc, ho⟩
  have hc : c = (sDrop nA as3).2 := hc
  rw [as4_e] at hc
  subst hc
  have H4 := Lib.hid (show On (fun _ => False) w w5 g as4 24 from ho)
  clear ho HDR
  have HH3 := Lib.hid (has_on H4.out nA (by decide))
  rw [as4_h] at HH3
  unfold nA at HH3
  go_wp2_with fail
  refine HH3.out.mono ?_
  rintro e w6 ⟨rfl, rfl⟩
  have HE := Lib.hid H4.out.at_.keep
  clear HH3
  go_wp2_with fail
  go_ret
  exact ⟨rfl, HE.out⟩
end Sf
end Go.Proofs.YtchjncnolmiejaaGreat

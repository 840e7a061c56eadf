/- mbox.From; law20's awake. -/
import Derived.Test.YtohchhgheeolpaaMboxFew
namespace Go.Proofs.Ytohchhgheeolpaa
open Go.RowKit
namespace Mbx
open Rcd Go.Maps

theorem BoxAt.look1 {w : World} {g b1 b2 n : Nat} {m : Box} (h : BoxAt w g b1 b2 n m) {x : Int} (hx : (Lit.int .i64 x).wf = true) :
    (Instr.lookup 183 (.map (some b1)) (.int .i64 x) false).run Try.prog w = .ok (entV ((m.ent x).getD zeroEnt)) w := by
  obtain ⟨D, h1, h2⟩ := h.ent
  obtain ⟨v, ps, hrun, hv⟩ := h1.lookup intKeyed Try.underlying183 (zeroEnt_run w) (entElem_mk zeroEnt) (keyOf_int_mk Try.underlying3 hx)
  rw [h2.at_] at hv
  rw [hrun, entElem_inv hv]

set_option maxRecDepth 100000 in
set_option maxHeartbeats 1000000 in
theorem from_any (w : World) {g b1 b2 n : Nat} {m : Box} (h : BoxAt w g b1 b2 n m) (x u : Int) (hx : 1 ≤ x ∧ x ≤ 9223372036854775807) (hm : m.org x = some u) (hu : (Lit.int .i64 u).wf = true) : Calls Try.prog 57 #[.pointer (some ⟨g, 0, none⟩), .int .i64 x] w fun e w' => e = .returned (.tuple #[.agg (entA ((m.ent u).getD zeroEnt)), .bool true]) ∧ Keeps w w' := by
  have HB := Lib.hid h
  have hxw : (Lit.int .i64 x).wf = true := i64wf (by omega)
  clear h
  have HL := Lib.hid (fun w' (k : Keeps w w') => (HB.out.keeps k).lookO hxw)
  rw [hm] at HL
  have HL1 := Lib.hid (fun w' (k : Keeps w w') => (HB.out.keeps k).look1 hu)
  have e1 : decide (x < 1) = false := decide_eq_false (by omega)
  clear hm hxw hu
  generalize (m.ent u).getD zeroEnt = E at *
  go_enter Try.func57, Try.ntmps57
  go_upto_region 1 with fail
  generalize hW : World.alloc w _ = w1
  have HK := Lib.hid (show Keeps w w1 from by rw [← hW]; exact (Keeps.refl _).alloc _)
  have HZ := Lib.hid (show Blk w1 w.heap.size 85 entZ from by rw [← hW]; exact Blk.new _ _ _ rfl)
  clear hW
  obtain ⟨R, hR⟩ : ∃ R, R = w.heap.size := ⟨_, rfl⟩
  rw [← hR] at HZ ⊢
  have HR := Lib.hid hR
  clear hR
  have hl := HL.out w1 HK.out
  have hl1 := HL1.out w1 HK.out
  simp only [Option.getD_some, Option.isSome_some] at hl
  have hl1 : (Instr.lookup 183 (.map (some b1)) (.int .i64 u) false).run Try.prog w1 = .ok (.agg (entA E)) w1 := hl1
  obtain ⟨c0, c1, -⟩ := (HB.out.keeps HK.out).cells
  go_wp2_with (refine wpList_st (ds := entA E) rfl entM HZ.out rfl (entA_one _) _ _ rfl rfl rfl rfl ?_; intro w6 hB6 hM6)
  have HLd := Lib.hid (ld_run (P := Try.prog) entM hB6)
  have HX := Lib.hid (hM6.keeps HK.out (fun y hy => by have := HR.out; omega))
  clear hB6 hM6
  exact bodyPost_ret (v := .tuple #[.agg (entA E), .bool true]) (by simp [results, Try.results57, Sem.run_bind, Sem.run_pure, Result.andThen_ok, Act.put, asAddr, HLd.out]) rfl ⟨rfl, HX.out⟩

def rA : Rec := ⟨2, 0, 0, 0, 0, 1, 0, 0, 1, 5, 9, []⟩
def rB : Rec := ⟨2, 0, 0, 0, 0, 1, 0, 0, 1, 7, 0, []⟩
def rG : Rec := ⟨3, 0, 0, 0, 0, 1, 0, 0, 0, 0, 0, []⟩
def mA : Box := (take new rA).1
def mG : Box := (take mA rG).1
theorem aw1 : (take new rA).2 = true := by kernel_rfl
theorem aw2 : (take mA rB).2 = false := by kernel_rfl
theorem aw3 : (take mA rG).2 = true := by kernel_rfl
theorem aw4 : (take mG rG).2 = false := by kernel_rfl
theorem aw5 : mA.ub = 5 ∧ mA.uc = 1 := ⟨by kernel_rfl, by kernel_rfl⟩
theorem aw6 : mG.ub = 0 ∧ mG.uc = 0 ∧ mG.next = 2 := ⟨by kernel_rfl, by kernel_rfl, by kernel_rfl⟩
theorem aw7 : mG.org 9 = some 1 := by kernel_rfl
theorem aw8 : (mG.ent 1).getD zeroEnt = ⟨1, 0, 0, 1, 5, 9, true⟩ := by kernel_rfl
theorem aw9 : (take mA rB).1 = mA := by
  have : take mA rB = (mA, false) := by
    unfold take
    rw [if_neg (by rw [show chk rB = 0 from by kernel_rfl]; decide), if_pos (show rB.kind = 2 from rfl)]
    unfold add
    rw [if_pos (.inl (by kernel_rfl))]
  rw [this]
theorem aw10 : (take mG rG).1 = mG := by
  have : take mG rG = (mG, false) := by
    unfold take
    rw [if_neg (by rw [show chk rG = 0 from by kernel_rfl]; decide), if_neg (by decide), if_pos (show rG.kind = 3 from rfl)]
    unfold gone
    rw [show live mG rG.uid = none from by kernel_rfl]
  rw [this]
theorem bfr_ge {g b1 b2 k : Nat} (h0 : k ≤ g) (h1 : k ≤ b1) (h2 : k ≤ b2) : ∀ x, BFr g b1 b2 x → k ≤ x := by
  rintro x (rfl | rfl | rfl) <;> assumption

set_option maxRecDepth 100000 in
set_option maxHeartbeats 4000000 in
theorem awake20_any (w : World) : Calls Try.prog 45 #[] w fun e w' => e = .returned (.bool true) ∧ Keeps w w' := by
  go_enter Try.func45, Try.ntmps45
  go_wp2_with fail
  refine (new_any w).mono ?_
  rintro e w1 ⟨g, b1, b2, rfl, hg, h1, h2, hb, hk⟩
  have HGE := Lib.hid (bfr_ge hg h1 h2)
  have HB := Lib.hid hb
  have HK := Lib.hid hk
  have HN := Lib.hid (next_any w1 hb)
  clear hb hk hg h1 h2
  go_wp2_with fail
  refine HN.out.mono ?_
  rintro e w1' ⟨rfl, rfl⟩
  have hn1 : (new.next != 1) = false := rfl
  have hn2 : new.next = 1 := rfl
  rw [hn2]
  clear HN hn1 hn2
  have HT := Lib.hid (take_any w1 HB.out (by decide) rA (.slice none 0 0) (row_nil w1))
  rw [show take new rA = (mA, true) from Prod.ext rfl aw1] at HT
  unfold recA rA at HT
  go_wp2_with fail
  refine HT.out.mono ?_
  rintro e w2 ⟨rfl, hb, hm⟩
  have HB := Lib.hid hb
  have HK := Lib.hid (hm.keeps HK.out HGE.out)
  clear hb hm HT
  have HT := Lib.hid (take_any w2 HB.out (by decide) rB (.slice none 0 0) (row_nil w2))
  rw [show take mA rB = (mA, false) from Prod.ext aw9 aw2] at HT
  unfold recA rB at HT
  go_wp2_with fail
  refine HT.out.mono ?_
  rintro e w3 ⟨rfl, hb, hm⟩
  have HB := Lib.hid hb
  have HK := Lib.hid (hm.keeps HK.out HGE.out)
  clear hb hm HT
  have HU := Lib.hid (use_any w3 HB.out)
  rw [aw5.1, aw5.2] at HU
  go_wp2_with fail
  refine HU.out.mono ?_
  rintro e w4 ⟨rfl, hk4⟩
  have HB := Lib.hid (HB.out.keeps hk4)
  have HK := Lib.hid (HK.out.trans hk4)
  clear hk4 HU
  go_upto_region 7 with fail
  generalize hW : World.alloc w4 _ = w5
  have hk5 : Keeps w4 w5 := by rw [← hW]; exact (Keeps.refl _).alloc _
  have HUB := Lib.hid (show Blk w5 w4.heap.size 88 #[.int .i64 5, .int .i64 1] from by rw [← hW]; exact Blk.new _ _ _ rfl)
  have HUN := Lib.hid (fun x (hx : BFr g b1 b2 x) => show ¬ w4.heap.size = x from by have := HB.out.lt x hx; omega)
  have HB := Lib.hid (HB.out.keeps hk5)
  have HK := Lib.hid (HK.out.trans hk5)
  clear hW hk5
  generalize w4.heap.size = bu at *
  have HT := Lib.hid (take_any w5 HB.out (by decide) rG (.slice none 0 0) (row_nil w5))
  rw [show take mA rG = (mG, true) from Prod.ext rfl aw3] at HT
  unfold recA rG at HT
  go_wp2_with fail
  refine HT.out.mono ?_
  rintro e w6 ⟨rfl, hb, hm⟩
  have HB := Lib.hid hb
  have HK := Lib.hid (hm.keeps HK.out HGE.out)
  have HUB := Lib.hid (HUB.out.mods hm (fun hx => HUN.out _ hx rfl))
  clear hb hm HT
  have HT := Lib.hid (take_any w6 HB.out (by decide) rG (.slice none 0 0) (row_nil w6))
  rw [show take mG rG = (mG, false) from Prod.ext aw10 aw4] at HT
  unfold recA rG at HT
  go_wp2_with fail
  refine HT.out.mono ?_
  rintro e w7 ⟨rfl, hb, hm⟩
  have HB := Lib.hid hb
  have HK := Lib.hid (hm.keeps HK.out HGE.out)
  have HUB := Lib.hid (HUB.out.mods hm (fun hx => HUN.out _ hx rfl))
  clear hb hm HT
  have HF := Lib.hid (from_any w7 HB.out 9 1 (by decide) aw7 (by decide))
  rw [aw8] at HF
  unfold entA at HF
  go_wp2_with fail
  refine HF.out.mono ?_
  rintro e w8 ⟨rfl, hk8⟩
  have HB := Lib.hid (HB.out.keeps hk8)
  have HK := Lib.hid (HK.out.trans hk8)
  have HUB := Lib.hid (HUB.out.keeps hk8)
  clear hk8 HF
  go_upto_region 10 with fail
  generalize hW : World.alloc w8 _ = w9
  have hk9 : Keeps w8 w9 := by rw [← hW]; exact (Keeps.refl _).alloc _
  have HEB := Lib.hid (show Blk w9 w8.heap.size 85 (entA ⟨1, 0, 0, 1, 5, 9, true⟩) from by rw [← hW]; exact Blk.new _ _ _ rfl)
  have HB := Lib.hid (HB.out.keeps hk9)
  have HK := Lib.hid (HK.out.trans hk9)
  have HUB := Lib.hid (HUB.out.keeps hk9)
  clear hW hk9
  generalize w8.heap.size = be at *
  have u0 : w9.cell? ⟨bu, 0, none⟩ = some (.int .i64 5) := by rw [HUB.out.cell]; rfl
  have u1 : w9.cell? ⟨bu, 1, none⟩ = some (.int .i64 1) := by rw [HUB.out.cell]; rfl
  have HU := Lib.hid (use_any w9 HB.out)
  rw [aw6.1, aw6.2.1] at HU
  go_wp2_with fail
  refine HU.out.mono ?_
  rintro e w10 ⟨rfl, hk10⟩
  have HB := Lib.hid (HB.out.keeps hk10)
  have HK := Lib.hid (HK.out.trans hk10)
  have HEB := Lib.hid (HEB.out.keeps hk10)
  clear hk10 HU u0 u1
  have HN := Lib.hid (next_any w10 HB.out)
  rw [aw6.2.2] at HN
  go_wp2_with fail
  refine HN.out.mono ?_
  rintro e w11 ⟨rfl, rfl⟩
  have x0 : w10.cell? ⟨be, 0, none⟩ = some (.int .i64 1) := by rw [HEB.out.cell]; rfl
  have x6 : w10.cell? ⟨be, 6, none⟩ = some (.bool true) := by rw [HEB.out.cell]; rfl
  go_wp2_with fail
  go_ret
  exact ⟨rfl, HK.out⟩
end Mbx
end Go.Proofs.Ytohchhgheeolpaa
